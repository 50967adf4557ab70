/- LabelsGets: the value of any name in any list is the document's. No condition. -/
import Derived.Test.YtfidneoakcejgaaLabLaw
namespace Go.Proofs.Ytfidneoakcejgaa
set_option maxRecDepth 100000
open Go.RowKit Go.WideShapes Go.ChangeShapes

set_option maxHeartbeats 3200000 in
theorem labelsGets_any (A : Option Addr) (n c : Nat) (l : List Lbl) (nm : ByteArray) (w : World) (h : LbF w A n l) :
    Calls Try.prog 4 #[.slice A n c, .string nm] w fun e w' => e = .returned (.bool true) ∧ Below w.heap.size w w' := by
  have H := hidden h
  obtain ⟨r, hr⟩ : ∃ r, getL l nm = r := ⟨_, rfl⟩
  have hrr : (r.toList == r.toList) = true := by simp
  have S2 := hidden (fun w => lget_any A n c l nm w)
  have S4 := hidden (fun B c w => rget_any B n c l nm w)
  rw [hr] at S2 S4
  clear h hr
  go_enter Try.func4, Try.ntmps4
  go_wp2_with (first
    | (go_at_call 18; refine (wakes04_any _).mono ?_; rintro e w1 ⟨rfl, b1⟩; have HB1 := hidden b1; have H1 := hidden (H.out.on b1); clear b1)
    | (go_at_call 22; refine (S2.out _ H1.out).mono ?_; rintro e w2 ⟨rfl, b2⟩; have HB2 := hidden (HB1.out.trans (b2.mono HB1.out.size)); have H2 := hidden (H1.out.on b2); clear b2)
    | (go_at_call 17; refine (refL _ _ _ _ _ H2.out).mono ?_; rintro e w3 ⟨B, c', rfl, hl3, hc3, b3⟩; have HB3 := hidden (HB2.out.trans (b3.mono HB2.out.size)); have H3 := hidden hl3; clear b3 hl3)
    | (go_at_call 23; refine (S4.out _ _ _ H3.out).mono ?_; rintro e w4 ⟨rfl, b4⟩; have HB4 := hidden (HB3.out.trans (b4.mono HB3.out.size)); clear b4))
  go_ret
  exact ⟨rfl, HB4.out⟩

theorem labelsGets_walk {H : Type} (enc : TypeId × Value → H) : LawWalk enc Try.prog 4 Try.f4 (fun _ => True) := by
  intro W base args ds p hval hA hlt hsz _
  rw [Try.params4] at hval hA hsz
  obtain ⟨v0, vs0, d0, ds0, p0, q0, hargs, rfl, rfl, h0, r0⟩ := trodAll_cons hA
  obtain ⟨v1, vs1, d1, ds1, p1, q1, rfl, rfl, rfl, h1, r1⟩ := trodAll_cons r0
  obtain ⟨rfl, rfl, rfl⟩ := trodAll_nil r1
  obtain rfl : args = #[v0, v1] := by cases args; simp_all
  obtain ⟨A, n, c, l, rfl, hl, _⟩ := open_labels (hval 0 22 v0 rfl rfl) h0 (arg_fits (b := Rows.uptoBulkAll [d0, d1]) (j := 0) rfl rfl (fun x hx => hlt x (by simp [hx])) hsz (Nat.le_refl _))
  obtain ⟨s, rfl⟩ := okWide_string Try.underlying9 (hval 1 9 v1 rfl rfl)
  exact labelsGets_any A n c l s W hl

namespace labelsGets
set_option maxRecDepth 100000 in
theorem lifted (os : Os) (started : os.Started) (H : Type) (enc : TypeId × Value → H) :
    ReturnsInHanded {} Try.checked os 4 .any (Rows.labelsGetsSpec.pre6 enc Try.prog Try.f4 Rows.labelsGetsRow.domain false) (Rows.labelsGetsSpec.post enc Try.prog Try.f4 false true false false) :=
  law_said (C := Try.checked) (s := Rows.labelsGetsSpec) (tb := 4) own_prog started (by kernel_rfl) Try.func4
    (ChangeSpec.witness6 (enc := enc) (C := Try.checked) false ⟨#[], #[.slice none 0 0, .string ⟨#[]⟩], []⟩ 8 (by kernel_rfl) (by kernel_rfl) (by kernel_rfl) (by kernel_rfl))
    laidOut (by kernel_rfl) rfl Try.underlying4 ⟨rfl, fun H ds h => match ds, h with | [_, _], _ => ⟨rfl, rfl, rfl⟩⟩ (labelsGets_walk enc)

theorem proved : Rows.LabelsGetsSaid :=
  OpenClaim.holds_of_wide 4 Try.f4 rfl rfl rfl rfl rfl rfl rfl ⟨rfl, rfl, rfl, rfl, rfl⟩ rfl rfl rfl rfl rfl (by kernel_rfl) Try.func4 (by kernel_rfl)
    (of_decide_eq_true (by kernel_rfl)) (by unfold Func.isWrapper; first | (rw [if_pos (by decide +kernel)]; kernel_rfl) | (rw [if_neg (by decide +kernel)]; exact ⟨rfl, rfl⟩))
    (fun os started H enc _ => lifted os started H enc)
#print axioms proved
end labelsGets

end Go.Proofs.Ytfidneoakcejgaa
