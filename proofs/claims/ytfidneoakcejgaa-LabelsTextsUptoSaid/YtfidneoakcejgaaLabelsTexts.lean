/- LabelsTexts: the text of any list, and the set of any text, are the document's, with its errors. Condition: the arguments are within the bulk that the statement names. -/
import Derived.Test.YtfidneoakcejgaaLRead
import Derived.Test.YtfidneoakcejgaaRRead
import Derived.Test.YtfidneoakcejgaaRShow
import Derived.Test.YtfidneoakcejgaaLabLaw
import Derived.Test.YtfidneoakcejgaaOpenT
namespace Go.Proofs.Ytfidneoakcejgaa
set_option maxRecDepth 100000
open Go.RowKit Go.WideShapes Go.ChangeShapes Go.Shelf

theorem readL_small (s : ByteArray) : (readL s).1.length ≤ 8 ∧ ∀ x ∈ (readL s).1, x.name.size ≤ 32 ∧ x.value.size ≤ 64 := by
  unfold readL
  split
  · split
    · rename_i hv
      exact valid_small hv
    · exact ⟨by simp, fun x hx => by cases hx⟩
  · exact ⟨by simp, fun x hx => by cases hx⟩
theorem readLaw (s : ByteArray) (w : World) (hs : s.size ≤ 16777216) :
    Calls Try.prog 37 #[.string s] w fun e w' => ∃ B c', e = .returned (.tuple #[.slice B (readL s).1.length c', .int .i64 (readL s).2]) ∧ LbF w' B (readL s).1.length (readL s).1 ∧ (readL s).1.length ≤ c' ∧ Below w.heap.size w w' := by
  refine (lread_any s w hs).mono ?_
  rintro e w' ⟨v, rfl, hown, hb⟩
  obtain ⟨B, c', rfl, hc, hr⟩ := own_shape hown
  obtain ⟨h1, h2⟩ := readL_small s
  exact ⟨B, c', rfl, ⟨hr, rfl, by omega, fun x hx => by have := h2 x hx; omega⟩, hc, hb⟩
theorem readRef (s : ByteArray) (w : World) (hs : s.size ≤ 16777216) :
    Calls Try.prog 38 #[.string s] w fun e w' => ∃ B c', e = .returned (.tuple #[.slice B (readL s).1.length c', .int .i64 (readL s).2]) ∧ LbF w' B (readL s).1.length (readL s).1 ∧ Below w.heap.size w w' := by
  refine (rread_any s w hs).mono ?_
  rintro e w' ⟨v, rfl, hown, hb⟩
  obtain ⟨B, c', rfl, hc, hr⟩ := own_shape hown
  obtain ⟨h1, h2⟩ := readL_small s
  exact ⟨B, c', rfl, ⟨hr, rfl, by omega, fun x hx => by have := h2 x hx; omega⟩, hb⟩

set_option maxHeartbeats 3200000 in
theorem labelsTexts_any (A : Option Addr) (n c : Nat) (l : List Lbl) (s : ByteArray) (w : World) (h : LbF w A n l) (hs : s.size ≤ 1048576) :
    Calls Try.prog 10 #[.slice A n c, .string s] w fun e w' => e = .returned (.bool true) ∧ Below w.heap.size w w' := by
  have H := hidden h
  have S1 := hidden (readLaw s w (by omega))
  have S2 := hidden (fun W => readRef s W (by omega))
  obtain ⟨L, hL⟩ : ∃ L, (readL s).1 = L := ⟨_, rfl⟩
  obtain ⟨E, hE⟩ : ∃ E, (readL s).2 = E := ⟨_, rfl⟩
  obtain ⟨m, hm⟩ : ∃ m, L.length = m := ⟨_, rfl⟩
  obtain ⟨T, hT⟩ : ∃ T, (⟨(showL l).toArray⟩ : ByteArray) = T := ⟨_, rfl⟩
  have hEE : (E == E) = true := beq_self_eq_true _
  have hTT : (T.toList == T.toList) = true := beq_self_eq_true _
  rw [hL, hE, hm] at S1 S2
  have S3 := hidden (fun B c w => lshow_any B n c l w)
  have S4 := hidden (fun B c w => rshow_any B n c l w)
  rw [hT] at S3 S4
  clear h hL hE hm hT
  go_enter Try.func10, Try.ntmps10
  go_wp2_with fail
  refine S1.out.mono ?_
  rintro e w1 ⟨B1, c1, rfl, hl1, hc1, b1⟩
  have HB1 := hidden b1
  have HS1 := hidden hl1
  have HA1 := hidden (H.out.on b1)
  clear b1 hl1 S1
  go_wp2_with fail
  refine (S2.out _).mono ?_
  rintro e w2 ⟨B2, c2, rfl, hl2, b2⟩
  have HB2 := hidden (HB1.out.trans (b2.mono HB1.out.size))
  have HS2 := hidden (HS1.out.on b2)
  have HA2 := hidden (HA1.out.on b2)
  have HR2 := hidden hl2
  clear b2 hl2 HS1 HA1 S2
  go_wp2_with (first
    | (go_at_call 18; refine (wakes04_any _).mono ?_; rintro e w3 ⟨rfl, b3⟩; have HB3 := hidden (HB2.out.trans (b3.mono HB2.out.size)); have HS3 := hidden (HS2.out.on b3); have HA3 := hidden (HA2.out.on b3); have HR3 := hidden (HR2.out.on b3); clear b3)
    | (go_at_call 14; refine (twinL _ _ _ _ _ HA3.out).mono ?_; rintro e w4 ⟨B4, c4, rfl, hl4, hc4, b4⟩; have HB4 := hidden (HB3.out.trans (b4.mono HB3.out.size)); have HS4 := hidden (HS3.out.on b4); have HA4 := hidden (HA3.out.on b4); have HR4 := hidden (HR3.out.on b4); have HT4 := hidden hl4; clear b4 hl4)
    | (go_at_call 39; refine (S3.out _ _ _ HT4.out hc4).mono ?_; rintro e w5 ⟨rfl, b5⟩; have HB5 := hidden (HB4.out.trans (b5.mono HB4.out.size)); have HS5 := hidden (HS4.out.on b5); have HA5 := hidden (HA4.out.on b5); have HR5 := hidden (HR4.out.on b5); clear b5)
    | (go_at_call 17; refine (refL _ _ _ _ _ HA5.out).mono ?_; rintro e w6 ⟨B6, c6, rfl, hl6, hc6, b6⟩; have HB6 := hidden (HB5.out.trans (b6.mono HB5.out.size)); have HS6 := hidden (HS5.out.on b6); have HR6 := hidden (HR5.out.on b6); have HT6 := hidden hl6; clear b6 hl6)
    | (go_at_call 40; refine (S4.out _ _ _ HT6.out).mono ?_; rintro e w7 ⟨rfl, b7⟩; have HB7 := hidden (HB6.out.trans (b7.mono HB6.out.size)); have HS7 := hidden (HS6.out.on b7); have HR7 := hidden (HR6.out.on b7); clear b7)
    | (go_at_call 19; refine (alikeL _ _ _ _ _ _ _ HS7.out HR7.out).mono ?_; rintro e w8 ⟨rfl, b8⟩; have HB8 := hidden (HB7.out.trans (b8.mono HB7.out.size)); clear b8))
  go_ret
  exact ⟨rfl, HB8.out⟩

theorem labelsTexts_walk {H : Type} (enc : TypeId × Value → H) : LawWalk enc Try.prog 10 Try.f10 (fun ds => Rows.uptoBulkAll ds ≤ 1048576) := by
  intro W base args ds p hval hA hlt hsz hcond
  rw [Try.params10] at hval hA hsz
  obtain ⟨v0, vs0, d0, ds0, p0, q0, hargs, rfl, rfl, h0, r0⟩ := trodAll_cons hA
  obtain ⟨v1, vs1, d1, ds1, p1, q1, rfl, rfl, rfl, h1, r1⟩ := trodAll_cons r0
  obtain ⟨rfl, rfl, rfl⟩ := trodAll_nil r1
  obtain rfl : args = #[v0, v1] := by cases args; simp_all
  obtain ⟨A, n, c, l, rfl, hl, _⟩ := open_labels (hval 0 22 v0 rfl rfl) h0 (arg_fits (b := Rows.uptoBulkAll [d0, d1]) (j := 0) rfl rfl (fun x hx => hlt x (by simp [hx])) hsz (Nat.le_refl _))
  obtain ⟨r, rfl, hr⟩ := open_text_n Try.underlying9 (hval 1 9 v1 rfl rfl) h1 (arg_fits (b := Rows.uptoBulkAll [d0, d1]) (j := 1) rfl rfl (fun x hx => hlt x (by simp [hx])) hsz (Nat.le_refl _))
  exact labelsTexts_any A n c l ⟨r.toArray⟩ W hl (Nat.le_trans hr hcond)

namespace labelsTextsUpto
set_option maxRecDepth 100000 in
theorem lifted (os : Os) (started : os.Started) (H : Type) (enc : TypeId × Value → H) (F : Stop.Interp) :
    ReturnsInHanded {} Try.checked os 10 .any ((Rows.OpenSpec.upto Rows.labelsTextsSpec).pre6 enc Try.prog Try.f10 Rows.labelsTextsUptoRow.domain false) (((Rows.OpenSpec.upto Rows.labelsTextsSpec).at F).post enc Try.prog Try.f10 false true false false) :=
  law_upto (C := Try.checked) (s := Rows.labelsTextsSpec) (tb := 4) own_prog started (by kernel_rfl) Try.func10
    (OpenSpec.witness (enc := enc) (C := Try.checked) (s := Rows.OpenSpec.upto Rows.labelsTextsSpec) (k := Rows.uptoSmall) rfl false ⟨#[], #[.slice none 0 0, .string ⟨#[]⟩], []⟩ 8 (by kernel_rfl) (by kernel_rfl) (by kernel_rfl)
      (x := ([.nil, .lit (.string [])], [], [])) (by kernel_rfl) rfl (by kernel_rfl))
    laidOut (by kernel_rfl) rfl Try.underlying4 ⟨rfl, fun H ds h => match ds, h with | [_, _], _ => ⟨rfl, rfl, rfl⟩⟩ (labelsTexts_walk enc)

theorem proved : Rows.LabelsTextsUptoSaid :=
  OpenClaim.holds_of_cond 10 Try.f10 rfl rfl rfl rfl rfl rfl rfl ⟨rfl, rfl, rfl, rfl, rfl⟩ rfl rfl rfl rfl rfl (by kernel_rfl) Try.func10 (by kernel_rfl)
    (of_decide_eq_true (by kernel_rfl)) (by unfold Func.isWrapper; first | (rw [if_pos (by decide +kernel)]; kernel_rfl) | (rw [if_neg (by decide +kernel)]; exact ⟨rfl, rfl⟩))
    (fun os started H enc _ F => lifted os started H enc F)
#print axioms proved
end labelsTextsUpto

end Go.Proofs.Ytfidneoakcejgaa
