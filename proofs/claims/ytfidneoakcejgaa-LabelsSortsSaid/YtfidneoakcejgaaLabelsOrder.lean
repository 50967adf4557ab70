/- LabelsOrder: whatever two lists are held against one another, the order is the document's, turned when they are. No condition. -/
import Derived.Test.YtfidneoakcejgaaLabLaw
import Derived.Test.YtfidneoakcejgaaLabC
namespace Go.Proofs.Ytfidneoakcejgaa
set_option maxRecDepth 100000
open Go.RowKit Go.WideShapes Go.ChangeShapes

theorem lcmpL (A B : Option Addr) (n m c c2 : Nat) (l l2 : List Lbl) (w : World) (h : LbF w A n l) (h2 : LbF w B m l2) :
    Calls Try.prog 25 #[.slice A n c, .slice B m c2] w fun e w' => e = .returned (.int .i64 (cmpLs l l2)) ∧ Below w.heap.size w w' := by
  refine (lcompare_any A B n m c c2 l l2 w _ _ h.row h2.row (Nat.le_refl _) (Nat.le_refl _) h.len h2.len (by have := h.fit; omega) (by have := h2.fit; omega)).mono ?_
  rintro e w' ⟨rfl, hg⟩
  exact ⟨rfl, hg.below⟩
theorem rcmpL (A B : Option Addr) (n m c c2 : Nat) (l l2 : List Lbl) (w : World) (h : LbF w A n l) (h2 : LbF w B m l2) :
    Calls Try.prog 24 #[.slice A n c, .slice B m c2] w fun e w' => e = .returned (.int .i64 (cmpLs l l2)) ∧ Below w.heap.size w w' := by
  refine (rcompare_any A B n m c c2 l l2 w _ _ h.row h2.row h.len h2.len (by have := h.fit; omega)).mono ?_
  rintro e w' ⟨rfl, q, rfl⟩
  exact ⟨rfl, rfl, rfl, rfl, Nat.le_refl _, fun _ _ => rfl⟩

set_option maxHeartbeats 3200000 in
theorem labelsOrder_any (A B : Option Addr) (n m c c2 : Nat) (l l2 : List Lbl) (w : World) (h : LbF w A n l) (h2 : LbF w B m l2) :
    Calls Try.prog 6 #[.slice A n c, .slice B m c2] w fun e w' => e = .returned (.bool true) ∧ Below w.heap.size w w' := by
  have H := hidden h
  have K := hidden h2
  obtain ⟨x, hx⟩ : ∃ x, cmpLs l l2 = x := ⟨_, rfl⟩
  have hr := cmpLs_range l l2
  have ht := cmpLs_turn l l2
  have hz := (cmpLs_zero l l).2 rfl
  rw [hx] at hr ht
  have S1 := hidden (fun A B c c2 w => rcmpL A B n m c c2 l l2 w)
  have S2 := hidden (fun A B c c2 w => lcmpL A B n m c c2 l l2 w)
  have S3 := hidden (fun A B c c2 w => lcmpL A B m n c c2 l2 l w)
  have S4 := hidden (fun A B c c2 w => lcmpL A B n n c c2 l l w)
  rw [hx] at S1 S2
  rw [ht] at S3
  rw [hz] at S4
  have x0 : -1 ≤ x := by omega
  have x1 : x ≤ 1 := by omega
  clear h h2 hx hz ht hr
  go_enter Try.func6, Try.ntmps6
  go_wp2_with (first
    | (go_at_call 17; refine (refL _ _ _ _ _ K1.out).mono ?_; rintro e w2 ⟨B2, d2, rfl, hl2, hd2, b2⟩; have HB2 := hidden (HB1.out.trans (b2.mono HB1.out.size)); have R2 := hidden hl2; have Q2 := hidden (R1.out.on b2); have H2 := hidden (H1.out.on b2); have K2 := hidden (K1.out.on b2); clear b2 hl2)
    | (go_at_call 17; refine (refL _ _ _ _ _ H.out).mono ?_; rintro e w1 ⟨B1, d1, rfl, hl1, hd1, b1⟩; have HB1 := hidden b1; have R1 := hidden hl1; have H1 := hidden (H.out.on b1); have K1 := hidden (K.out.on b1); clear b1 hl1))
  refine (S1.out _ _ _ _ _ Q2.out R2.out).mono ?_
  rintro e w3 ⟨rfl, b3⟩
  have HB3 := hidden (HB2.out.trans (b3.mono HB2.out.size))
  have H3 := hidden (H2.out.on b3)
  have K3 := hidden (K2.out.on b3)
  clear b3 H1 K1 H2 K2 R1 R2 Q2 S1
  go_wp2_with (first
    | (go_at_call 18; refine (wakes04_any _).mono ?_; rintro e w5 ⟨rfl, b5⟩; have HB5 := hidden (HB3.out.trans (b5.mono HB3.out.size)); have H5 := hidden (H3.out.on b5); have K5 := hidden (K3.out.on b5); clear b5)
    | (go_at_call 25; refine (S4.out _ _ _ _ _ H7.out H7.out).mono ?_; rintro e w8 ⟨rfl, b8⟩; have HB8 := hidden (HB7.out.trans (b8.mono HB7.out.size)); clear b8)
    | (go_at_call 25; refine (S3.out _ _ _ _ _ K6.out H6.out).mono ?_; rintro e w7 ⟨rfl, b7⟩; have HB7 := hidden (HB6.out.trans (b7.mono HB6.out.size)); have H7 := hidden (H6.out.on b7); clear b7)
    | (go_at_call 25; refine (S2.out _ _ _ _ _ H5.out K5.out).mono ?_; rintro e w6 ⟨rfl, b6⟩; have HB6 := hidden (HB5.out.trans (b6.mono HB5.out.size)); have H6 := hidden (H5.out.on b6); have K6 := hidden (K5.out.on b6); clear b6))
  go_ret
  exact ⟨rfl, HB8.out⟩

theorem labelsOrder_walk {H : Type} (enc : TypeId × Value → H) : LawWalk enc Try.prog 6 Try.f6 (fun _ => True) := by
  intro W base args ds p hval hA hlt hsz _
  rw [Try.params6] at hval hA hsz
  obtain ⟨v0, vs0, d0, ds0, p0, q0, hargs, rfl, rfl, h0, r0⟩ := trodAll_cons hA
  obtain ⟨v1, vs1, d1, ds1, p1, q1, rfl, rfl, rfl, h1, r1⟩ := trodAll_cons r0
  obtain ⟨rfl, rfl, rfl⟩ := trodAll_nil r1
  obtain rfl : args = #[v0, v1] := by cases args; simp_all
  obtain ⟨A, n, c, l, rfl, hl, _⟩ := open_labels (hval 0 22 v0 rfl rfl) h0 (arg_fits (b := Rows.uptoBulkAll [d0, d1]) (j := 0) rfl rfl (fun x hx => hlt x (by simp [hx])) hsz (Nat.le_refl _))
  obtain ⟨B, m, c2, l2, rfl, hl2, _⟩ := open_labels (hval 1 22 v1 rfl rfl) h1 (arg_fits (b := Rows.uptoBulkAll [d0, d1]) (j := 1) rfl rfl (fun x hx => hlt x (by simp [hx])) hsz (Nat.le_refl _))
  exact labelsOrder_any A B n m c c2 l l2 W hl hl2

namespace labelsOrder
set_option maxRecDepth 100000 in
theorem lifted (os : Os) (started : os.Started) (H : Type) (enc : TypeId × Value → H) :
    ReturnsInHanded {} Try.checked os 6 .any (Rows.labelsOrderSpec.pre6 enc Try.prog Try.f6 Rows.labelsOrderRow.domain false) (Rows.labelsOrderSpec.post enc Try.prog Try.f6 false true false false) :=
  law_said (C := Try.checked) (s := Rows.labelsOrderSpec) (tb := 4) own_prog started (by kernel_rfl) Try.func6
    (ChangeSpec.witness6 (enc := enc) (C := Try.checked) false ⟨#[], #[.slice none 0 0, .slice none 0 0], []⟩ 8 (by kernel_rfl) (by kernel_rfl) (by kernel_rfl) (by kernel_rfl))
    laidOut (by kernel_rfl) rfl Try.underlying4 ⟨rfl, fun H ds h => match ds, h with | [_, _], _ => ⟨rfl, rfl, rfl⟩⟩ (labelsOrder_walk enc)

theorem proved : Rows.LabelsOrderSaid :=
  OpenClaim.holds_of_wide 6 Try.f6 rfl rfl rfl rfl rfl rfl rfl ⟨rfl, rfl, rfl, rfl, rfl⟩ rfl rfl rfl rfl rfl (by kernel_rfl) Try.func6 (by kernel_rfl)
    (of_decide_eq_true (by kernel_rfl)) (by unfold Func.isWrapper; first | (rw [if_pos (by decide +kernel)]; kernel_rfl) | (rw [if_neg (by decide +kernel)]; exact ⟨rfl, rfl⟩))
    (fun os started H enc _ => lifted os started H enc)
#print axioms proved
end labelsOrder

end Go.Proofs.Ytfidneoakcejgaa
