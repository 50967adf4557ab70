/- LabelsBytes: the bytes of any list, and the set of any bytes at any place, are the document's, with its errors. No condition. -/
import Derived.Test.YtfidneoakcejgaaLDec
import Derived.Test.YtfidneoakcejgaaRDec
import Derived.Test.YtfidneoakcejgaaREnc
import Derived.Test.YtfidneoakcejgaaOpenT
namespace Go.Proofs.Ytfidneoakcejgaa
set_option maxRecDepth 100000
open Go.RowKit Go.WideShapes Go.ChangeShapes Go.Shelf

theorem decLaw (s : List UInt8) (a : Int) (w : World) (hs : s.length ≤ 140737488355328) (ha : -9223372036854775808 ≤ a) (ha2 : a < 9223372036854775808) :
    Calls Try.prog 43 #[.string ⟨s.toArray⟩, .int .i64 a] w fun e w' => ∃ B c', e = .returned (.tuple #[.slice B (decL s a).1.length c', .int .i64 (decL s a).2.1, .int .i64 (decL s a).2.2]) ∧ LbF w' B (decL s a).1.length (decL s a).1 ∧ (decL s a).1.length ≤ c' ∧ Below w.heap.size w w' := by
  refine (ldec_any s a w hs ha ha2).mono ?_
  rintro e w' ⟨v, rfl, hown, hb⟩
  obtain ⟨B, c', rfl, hc, hr⟩ := own_shape hown
  obtain ⟨h1, h2⟩ := decL_small s a
  exact ⟨B, c', rfl, ⟨hr, rfl, by omega, fun x hx => by have := h2 x hx; omega⟩, hc, hb⟩
theorem decRef (s : List UInt8) (a : Int) (w : World) (hs : s.length ≤ 140737488355328) (ha : -9223372036854775808 ≤ a) (ha2 : a < 9223372036854775808) :
    Calls Try.prog 44 #[.string ⟨s.toArray⟩, .int .i64 a] w fun e w' => ∃ B c', e = .returned (.tuple #[.slice B (decL s a).1.length c', .int .i64 (decL s a).2.1, .int .i64 (decL s a).2.2]) ∧ LbF w' B (decL s a).1.length (decL s a).1 ∧ Below w.heap.size w w' := by
  refine (rdec_any s a w hs ha ha2).mono ?_
  rintro e w' ⟨v, rfl, hown, hb⟩
  obtain ⟨B, c', rfl, hc, hr⟩ := own_shape hown
  obtain ⟨h1, h2⟩ := decL_small s a
  exact ⟨B, c', rfl, ⟨hr, rfl, by omega, fun x hx => by have := h2 x hx; omega⟩, hb⟩

set_option maxHeartbeats 3200000 in
theorem labelsBytes_any (A : Option Addr) (n c : Nat) (l : List Lbl) (s : List UInt8) (a : Int) (w : World) (h : LbF w A n l) (hs : s.length ≤ 140737488355328) (ha : -9223372036854775808 ≤ a) (ha2 : a < 9223372036854775808) :
    Calls Try.prog 11 #[.slice A n c, .string ⟨s.toArray⟩, .int .i64 a] w fun e w' => e = .returned (.bool true) ∧ Below w.heap.size w w' := by
  have H := hidden h
  have S1 := hidden (fun B c w => lenc_any B n c l w)
  have S2 := hidden (fun B c w => renc_any B n c l w)
  have S3 := hidden (fun W => decLaw s a W hs ha ha2)
  have S4 := hidden (fun W => decRef s a W hs ha ha2)
  obtain ⟨T, hT⟩ : ∃ T, (encL l).1 = T := ⟨_, rfl⟩
  obtain ⟨E, hE⟩ : ∃ E, (encL l).2 = E := ⟨_, rfl⟩
  obtain ⟨L, hL⟩ : ∃ L, (decL s a).1 = L := ⟨_, rfl⟩
  obtain ⟨F, hF⟩ : ∃ F, (decL s a).2.1 = F := ⟨_, rfl⟩
  obtain ⟨G, hG⟩ : ∃ G, (decL s a).2.2 = G := ⟨_, rfl⟩
  obtain ⟨m, hm⟩ : ∃ m, L.length = m := ⟨_, rfl⟩
  obtain ⟨X, hX⟩ : ∃ X, (⟨s.toArray⟩ : ByteArray) = X := ⟨_, rfl⟩
  have hEE : (E == E) = true := beq_self_eq_true _
  have hFF : (F == F) = true := beq_self_eq_true _
  have hGG : (G == G) = true := beq_self_eq_true _
  have hTT : (T.toList == T.toList) = true := beq_self_eq_true _
  rw [hT, hE] at S1 S2
  rw [hL, hF, hG, hm, hX] at S3 S4
  rw [hX]
  clear h hT hE hL hF hG hm hX
  go_enter Try.func11, Try.ntmps11
  go_wp2_with fail
  refine (twinL _ _ _ _ _ H.out).mono ?_
  rintro e w1 ⟨B1, c1, rfl, hl1, hc1, b1⟩
  have HB1 := hidden b1
  have HT1 := hidden hl1
  have HA1 := hidden (H.out.on b1)
  clear b1 hl1
  go_wp2_with fail
  refine (S1.out _ _ _ HT1.out hc1).mono ?_
  rintro e w2 ⟨rfl, b2⟩
  have HB2 := hidden (HB1.out.trans (b2.mono HB1.out.size))
  have HA2 := hidden (HA1.out.on b2)
  clear b2 HT1 HA1 S1
  go_wp2_with fail
  refine (refL _ _ _ _ _ HA2.out).mono ?_
  rintro e w3 ⟨B3, c3, rfl, hl3, hc3, b3⟩
  have HB3 := hidden (HB2.out.trans (b3.mono HB2.out.size))
  have HT3 := hidden hl3
  clear b3 hl3 HA2
  go_wp2_with fail
  refine (S2.out _ _ _ HT3.out).mono ?_
  rintro e w4 ⟨rfl, b4⟩
  have HB4 := hidden (HB3.out.trans (b4.mono HB3.out.size))
  clear b4 HT3 S2
  go_wp2_with fail
  refine (S3.out _).mono ?_
  rintro e w5 ⟨B5, c5, rfl, hl5, hc5, b5⟩
  have HB5 := hidden (HB4.out.trans (b5.mono HB4.out.size))
  have HS5 := hidden hl5
  clear b5 hl5 S3
  go_wp2_with fail
  refine (S4.out _).mono ?_
  rintro e w6 ⟨B6, c6, rfl, hl6, b6⟩
  have HB6 := hidden (HB5.out.trans (b6.mono HB5.out.size))
  have HS6 := hidden (HS5.out.on b6)
  have HR6 := hidden hl6
  clear b6 hl6 S4 HS5
  go_wp2_with (first
    | (go_at_call 18; refine (wakes04_any _).mono ?_; rintro e w7 ⟨rfl, b7⟩; have HB7 := hidden (HB6.out.trans (b7.mono HB6.out.size)); have HS7 := hidden (HS6.out.on b7); have HR7 := hidden (HR6.out.on b7); clear b7)
    | (go_at_call 19; refine (alikeL _ _ _ _ _ _ _ HS7.out HR7.out).mono ?_; rintro e w8 ⟨rfl, b8⟩; have HB8 := hidden (HB7.out.trans (b8.mono HB7.out.size)); clear b8))
  go_ret
  exact ⟨rfl, HB8.out⟩

theorem labelsBytes_walk {H : Type} (enc : TypeId × Value → H) : LawWalk enc Try.prog 11 Try.f11 (fun _ => True) := by
  intro W base args ds p hval hA hlt hsz _
  rw [Try.params11] at hval hA hsz
  obtain ⟨v0, vs0, d0, ds0, p0, q0, hargs, rfl, rfl, h0, r0⟩ := trodAll_cons hA
  obtain ⟨v1, vs1, d1, ds1, p1, q1, rfl, rfl, rfl, h1, r1⟩ := trodAll_cons r0
  obtain ⟨v2, vs2, d2, ds2, p2, q2, rfl, rfl, rfl, h2, r2⟩ := trodAll_cons r1
  obtain ⟨rfl, rfl, rfl⟩ := trodAll_nil r2
  obtain rfl : args = #[v0, v1, v2] := by cases args; simp_all
  obtain ⟨t, rfl, ht⟩ := open_arg_int Try.underlying3 (hval 2 3 v2 rfl rfl) h2
  obtain ⟨A, n, c, l, rfl, hl, _⟩ := open_labels (hval 0 22 v0 rfl rfl) h0 (arg_fits (b := Rows.uptoBulkAll [d0, d1, d2]) (j := 0) rfl rfl (fun x hx => hlt x (by simp [hx])) hsz (Nat.le_refl _))
  obtain ⟨r, rfl, hr⟩ := open_text Try.underlying9 (hval 1 9 v1 rfl rfl) h1 (arg_fits (b := Rows.uptoBulkAll [d0, d1, d2]) (j := 1) rfl rfl (fun x hx => hlt x (by simp [hx])) hsz (Nat.le_refl _))
  have wt := wf_i64 ht
  exact labelsBytes_any A n c l r t W hl hr wt.1 wt.2

namespace labelsBytes
set_option maxRecDepth 100000 in
theorem lifted (os : Os) (started : os.Started) (H : Type) (enc : TypeId × Value → H) :
    ReturnsInHanded {} Try.checked os 11 .any (Rows.labelsBytesSpec.pre6 enc Try.prog Try.f11 Rows.labelsBytesRow.domain false) (Rows.labelsBytesSpec.post enc Try.prog Try.f11 false true false false) :=
  law_said (C := Try.checked) (s := Rows.labelsBytesSpec) (tb := 4) own_prog started (by kernel_rfl) Try.func11
    (ChangeSpec.witness6 (enc := enc) (C := Try.checked) false ⟨#[], #[.slice none 0 0, .string ⟨#[]⟩, .int .i64 0], []⟩ 8 (by kernel_rfl) (by kernel_rfl) (by kernel_rfl) (by kernel_rfl))
    laidOut (by kernel_rfl) rfl Try.underlying4 ⟨rfl, fun H ds h => match ds, h with | [_, _, _], _ => ⟨rfl, rfl, rfl⟩⟩ (labelsBytes_walk enc)

theorem proved : Rows.LabelsBytesSaid :=
  OpenClaim.holds_of_wide 11 Try.f11 rfl rfl rfl rfl rfl rfl rfl ⟨rfl, rfl, rfl, rfl, rfl⟩ rfl rfl rfl rfl rfl (by kernel_rfl) Try.func11 (by kernel_rfl)
    (of_decide_eq_true (by kernel_rfl)) (by unfold Func.isWrapper; first | (rw [if_pos (by decide +kernel)]; kernel_rfl) | (rw [if_neg (by decide +kernel)]; exact ⟨rfl, rfl⟩))
    (fun os started H enc _ => lifted os started H enc)
#print axioms proved
end labelsBytes

end Go.Proofs.Ytfidneoakcejgaa
