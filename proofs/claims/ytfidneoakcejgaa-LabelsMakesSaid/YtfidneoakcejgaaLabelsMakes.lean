/- LabelsMakes: whatever labels come in, the set or the error is the document's. No condition. -/
import Derived.Test.YtfidneoakcejgaaLabLaw
namespace Go.Proofs.Ytfidneoakcejgaa
set_option maxRecDepth 100000
open Go.RowKit Go.WideShapes Go.ChangeShapes

set_option maxHeartbeats 3200000 in
theorem labelsMakes_any (A : Option Addr) (n c : Nat) (l : List Lbl) (w : World) (h : LbF w A n l) :
    Calls Try.prog 3 #[.slice A n c] w fun e w' => e = .returned (.bool true) ∧ Below w.heap.size w w' := by
  have H := hidden h
  obtain ⟨E, hE⟩ : ∃ E : Nat, makeErr l = E := ⟨_, rfl⟩
  obtain ⟨M, hM⟩ : ∃ M, makeL l = M := ⟨_, rfl⟩
  obtain ⟨m, hm⟩ : ∃ m, M.length = m := ⟨_, rfl⟩
  obtain ⟨v, hv⟩ : ∃ v, decide (validP l) = v := ⟨_, rfl⟩
  have hvv : (v == v) = true := by simp
  have SM := hidden (fun B c w => makeLaw B n c l w)
  have SR := hidden (fun B c w => makeRef B n c l w)
  have SV := hidden (fun B c w => lvalid_any B n c l w)
  have SW := hidden (fun B c w => rvalid_any B n c l w)
  rw [hE, hM, hm] at SM SR
  rw [hv] at SV SW
  clear h hE hM hm hv
  go_enter Try.func3, Try.ntmps3
  go_wp2_with fail
  refine (twinL _ _ _ _ _ H.out).mono ?_
  rintro e w1 ⟨B1, c1, rfl, hl1, hc1, b1⟩
  have HB1 := hidden b1
  have HG1 := hidden hl1
  have HA1 := hidden (H.out.on b1)
  clear b1 hl1
  go_wp2_with fail
  refine (SM.out _ _ _ HG1.out hc1).mono ?_
  rintro e w2 ⟨B2, c2, rfl, hl2, hc2, b2⟩
  have HB2 := hidden (HB1.out.trans (b2.mono HB1.out.size))
  have HS2 := hidden hl2
  have HG2 := hidden (HG1.out.on b2)
  have HA2 := hidden (HA1.out.on b2)
  clear b2 hl2 HA1 HG1
  go_wp2_with (go_at_call 17; refine (refL _ _ _ _ _ HA2.out).mono ?_; rintro e w3 ⟨B3, c3, rfl, hl3, hc3, b3⟩; have HB3 := hidden (HB2.out.trans (b3.mono HB2.out.size)); have HR3 := hidden hl3; have HS3 := hidden (HS2.out.on b3); have HG3 := hidden (HG2.out.on b3); have HA3 := hidden (HA2.out.on b3); clear b3 hl3)
  refine (SR.out _ _ _ HR3.out).mono ?_
  rintro e w4 ⟨B4, c4, rfl, hl4, b4⟩
  have HB4 := hidden (HB3.out.trans (b4.mono HB3.out.size))
  have HM4 := hidden hl4
  have HS4 := hidden (HS3.out.on b4)
  have HG4 := hidden (HG3.out.on b4)
  have HA4 := hidden (HA3.out.on b4)
  clear b4 hl4 HR3 HS3 HG3 HA3 HS2 HG2 HA2
  go_wp2_with (first
    | (go_at_call 18; refine (wakes04_any _).mono ?_; rintro e w5 ⟨rfl, b5⟩; have HB5 := hidden (HB4.out.trans (b5.mono HB4.out.size)); have HM5 := hidden (HM4.out.on b5); have HS5 := hidden (HS4.out.on b5); have HG5 := hidden (HG4.out.on b5); have HA5 := hidden (HA4.out.on b5); clear b5)
    | (go_at_call 19; refine (alikeL _ _ _ _ _ _ _ HGa.out HRa.out).mono ?_; rintro e wb ⟨rfl, bb⟩; have HBb := hidden (HBa.out.trans (bb.mono HBa.out.size)); clear bb)
    | (go_at_call 19; refine (alikeL _ _ _ _ _ _ _ HS5.out HM5.out).mono ?_; rintro e w6 ⟨rfl, b6⟩; have HB6 := hidden (HB5.out.trans (b6.mono HB5.out.size)); have HG6 := hidden (HG5.out.on b6); have HA6 := hidden (HA5.out.on b6); clear b6)
    | (go_at_call 20; refine (SV.out _ _ _ HG6.out hc1).mono ?_; rintro e w7 ⟨rfl, b7⟩; have HB7 := hidden (HB6.out.trans (b7.mono HB6.out.size)); have HG7 := hidden (HG6.out.on b7); have HA7 := hidden (HA6.out.on b7); clear b7)
    | (go_at_call 17; refine (refL _ _ _ _ _ HA7.out).mono ?_; rintro e w8 ⟨B8, c8, rfl, hl8, hc8, b8⟩; have HB8 := hidden (HB7.out.trans (b8.mono HB7.out.size)); have HR8 := hidden hl8; have HG8 := hidden (HG7.out.on b8); have HA8 := hidden (HA7.out.on b8); clear b8 hl8 HA7)
    | (go_at_call 21; refine (SW.out _ _ _ HR8.out).mono ?_; rintro e w9 ⟨rfl, b9⟩; have HB9 := hidden (HB8.out.trans (b9.mono HB8.out.size)); have HG9 := hidden (HG8.out.on b9); have HA9 := hidden (HA8.out.on b9); clear b9)
    | (go_at_call 17; refine (refL _ _ _ _ _ HA9.out).mono ?_; rintro e wa ⟨Ba, ca, rfl, hla, hca, ba⟩; have HBa := hidden (HB9.out.trans (ba.mono HB9.out.size)); have HRa := hidden hla; have HGa := hidden (HG9.out.on ba); clear ba hla))
  go_ret
  exact ⟨rfl, HBb.out⟩

theorem labelsMakes_walk {H : Type} (enc : TypeId × Value → H) : LawWalk enc Try.prog 3 Try.f3 (fun _ => True) := by
  intro W base args ds p hval hA hlt hsz _
  rw [Try.params3] at hval hA hsz
  obtain ⟨v0, vs0, d0, ds0, p0, q0, hargs, rfl, rfl, h0, r0⟩ := trodAll_cons hA
  obtain ⟨rfl, rfl, rfl⟩ := trodAll_nil r0
  obtain rfl : args = #[v0] := by cases args; simp_all
  obtain ⟨A, n, c, l, rfl, hl, _⟩ := open_labels (hval 0 22 v0 rfl rfl) h0 (arg_fits (b := Rows.uptoBulkAll [d0]) (j := 0) rfl rfl (fun x hx => hlt x (by simp [hx])) hsz (Nat.le_refl _))
  exact labelsMakes_any A n c l W hl

namespace labelsMakes
set_option maxRecDepth 100000 in
theorem lifted (os : Os) (started : os.Started) (H : Type) (enc : TypeId × Value → H) :
    ReturnsInHanded {} Try.checked os 3 .any (Rows.labelsMakesSpec.pre6 enc Try.prog Try.f3 Rows.labelsMakesRow.domain false) (Rows.labelsMakesSpec.post enc Try.prog Try.f3 false true false false) :=
  law_said (C := Try.checked) (s := Rows.labelsMakesSpec) (tb := 4) own_prog started (by kernel_rfl) Try.func3
    (ChangeSpec.witness6 (enc := enc) (C := Try.checked) false ⟨#[], #[.slice none 0 0], []⟩ 8 (by kernel_rfl) (by kernel_rfl) (by kernel_rfl) (by kernel_rfl))
    laidOut (by kernel_rfl) rfl Try.underlying4 ⟨rfl, fun H ds h => match ds, h with | [_], _ => ⟨rfl, rfl, rfl⟩⟩ (labelsMakes_walk enc)

theorem proved : Rows.LabelsMakesSaid :=
  OpenClaim.holds_of_wide 3 Try.f3 rfl rfl rfl rfl rfl rfl rfl ⟨rfl, rfl, rfl, rfl, rfl⟩ rfl rfl rfl rfl rfl (by kernel_rfl) Try.func3 (by kernel_rfl)
    (of_decide_eq_true (by kernel_rfl)) (by unfold Func.isWrapper; first | (rw [if_pos (by decide +kernel)]; kernel_rfl) | (rw [if_neg (by decide +kernel)]; exact ⟨rfl, rfl⟩))
    (fun os started H enc _ => lifted os started H enc)
#print axioms proved
end labelsMakes

end Go.Proofs.Ytfidneoakcejgaa
