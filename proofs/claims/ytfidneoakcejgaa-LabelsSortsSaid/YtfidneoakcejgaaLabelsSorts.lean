/- LabelsSorts: the order of sets is one. No condition. -/
import Derived.Test.YtfidneoakcejgaaLabAlike
import Derived.Test.YtfidneoakcejgaaLabelsOrder
namespace Go.Proofs.Ytfidneoakcejgaa
set_option maxRecDepth 100000
open Go.RowKit Go.WideShapes Go.ChangeShapes

theorem cmp_low (a b c : List Lbl) : ¬ (cmpLs a b ≤ 0 ∧ cmpLs b c ≤ 0 ∧ 0 < cmpLs a c) := fun ⟨h1, h2, h3⟩ => by
  rcases cmpLs_range a b with e1 | e1 | e1
  · rcases cmpLs_range b c with e2 | e2 | e2
    · have := cmpLs_trans a b c e1 e2; omega
    · rw [(cmpLs_zero b c).1 e2] at e1; omega
    · omega
  · rw [(cmpLs_zero a b).1 e1] at h3; omega
  · omega
theorem cmp_high (a b c : List Lbl) : ¬ (0 ≤ cmpLs a b ∧ 0 ≤ cmpLs b c ∧ cmpLs a c < 0) := fun ⟨h1, h2, h3⟩ => by
  refine cmp_low c b a ⟨?_, ?_, ?_⟩
  · rw [cmpLs_turn b c]; omega
  · rw [cmpLs_turn a b]; omega
  · rw [cmpLs_turn a c]; omega

set_option maxHeartbeats 1600000 in
theorem labelsSorts_any (A B C : Option Addr) (n m k c c2 c3 : Nat) (l l2 l3 : List Lbl) (w : World) (h : LbF w A n l) (h2 : LbF w B m l2) (h3 : LbF w C k l3) :
    Calls Try.prog 8 #[.slice A n c, .slice B m c2, .slice C k c3] w fun e w' => e = .returned (.bool true) ∧ Below w.heap.size w w' := by
  have H := hidden h
  have K := hidden h2
  have M := hidden h3
  have p1 := cmp_low l l2 l3
  have p2 := cmp_high l l2 l3
  have r1 := cmpLs_range l l2
  have r2 := cmpLs_range l2 l3
  have r3 := cmpLs_range l l3
  have z1 := cmpLs_zero l l2
  have S1 := hidden (fun A B c c2 w => lcmpL A B n m c c2 l l2 w)
  have S2 := hidden (fun A B c c2 w => lcmpL A B m k c c2 l2 l3 w)
  have S3 := hidden (fun A B c c2 w => lcmpL A B n k c c2 l l3 w)
  have S4 := hidden (fun A B c c2 w => alike_gen A B n m c c2 l l2 w)
  obtain ⟨x, hx⟩ : ∃ x, cmpLs l l2 = x := ⟨_, rfl⟩
  obtain ⟨y, hy⟩ : ∃ y, cmpLs l2 l3 = y := ⟨_, rfl⟩
  obtain ⟨z, hz⟩ : ∃ z, cmpLs l l3 = z := ⟨_, rfl⟩
  obtain ⟨b, hbb⟩ : ∃ b, decide (l = l2) = b := ⟨_, rfl⟩
  rw [hx] at S1 p1 p2 r1 z1
  rw [hy] at S2 p1 p2 r2
  rw [hz] at S3 p1 p2 r3
  rw [hbb] at S4
  have hb2 : b = decide (x = 0) := by rw [← hbb, decide_eq_decide]; exact z1.symm
  subst hb2
  have P1 := hidden p1
  have P2 := hidden p2
  have R1 := hidden r1
  have R2 := hidden r2
  have R3 := hidden r3
  clear h h2 h3 hx hy hz hbb z1 p1 p2 r1 r2 r3
  go_enter Try.func8, Try.ntmps8
  go_wp2_with (first
    | (go_at_call 25; refine (S2.out _ _ _ _ _ K1.out M1.out).mono ?_; rintro e w2 ⟨rfl, b2⟩; have HB2 := hidden (HB1.out.trans (b2.mono HB1.out.size)); have H2 := hidden (H1.out.on b2); have K2 := hidden (K1.out.on b2); have M2 := hidden (M1.out.on b2); clear b2 K1 M1 S2)
    | (go_at_call 25; refine (S1.out _ _ _ _ _ H.out K.out).mono ?_; rintro e w1 ⟨rfl, b1⟩; have HB1 := hidden b1; have H1 := hidden (H.out.on b1); have K1 := hidden (K.out.on b1); have M1 := hidden (M.out.on b1); clear b1 S1))
  refine (S3.out _ _ _ _ _ H2.out M2.out).mono ?_
  rintro e w3 ⟨rfl, b3⟩
  have HB3 := hidden (HB2.out.trans (b3.mono HB2.out.size))
  have H3 := hidden (H2.out.on b3)
  have K3 := hidden (K2.out.on b3)
  clear b3 H1 H2 K2 M2 HB1 HB2 S3 M H K
  have x0 : ¬ x < -1 := by have := R1.out; omega
  have x1 : ¬ 1 < x := by have := R1.out; omega
  have x2 : ∀ b : Bool, (b != b) = false := by decide
  go_wp2_with (first
    | (go_at_call 18; refine (wakes04_any _).mono ?_; rintro e w5 ⟨rfl, b5⟩; have HB5 := hidden (HB3.out.trans (b5.mono HB3.out.size)); have H5 := hidden (H3.out.on b5); have K5 := hidden (K3.out.on b5); clear b5)
    | (go_at_call 17; refine (refL _ _ _ _ _ K5.out).mono ?_; rintro e w6 ⟨B6, d6, rfl, hl6, hd6, b6⟩; have HB6 := hidden (HB5.out.trans (b6.mono HB5.out.size)); have R6 := hidden hl6; have H6 := hidden (H5.out.on b6); clear b6 hl6))
  refine (S4.out _ _ _ _ _ H6.out R6.out).mono ?_
  rintro e w7 ⟨rfl, b7⟩
  have HB7 := hidden (HB6.out.trans (b7.mono HB6.out.size))
  clear b7
  have Q1 := P1.out
  have Q2 := P2.out
  rcases R1.out with rfl | rfl | rfl <;> rcases R2.out with rfl | rfl | rfl <;> rcases R3.out with rfl | rfl | rfl <;> first
    | (exfalso; revert Q1 Q2; decide)
    | (go_wp2_with fail
       go_ret
       exact ⟨rfl, HB7.out⟩)

theorem labelsSorts_walk {H : Type} (enc : TypeId × Value → H) : LawWalk enc Try.prog 8 Try.f8 (fun _ => True) := by
  intro W base args ds p hval hA hlt hsz _
  rw [Try.params8] at hval hA hsz
  obtain ⟨v0, vs0, d0, ds0, p0, q0, hargs, rfl, rfl, h0, r0⟩ := trodAll_cons hA
  obtain ⟨v1, vs1, d1, ds1, p1, q1, rfl, rfl, rfl, h1, r1⟩ := trodAll_cons r0
  obtain ⟨v2, vs2, d2, ds2, p2, q2, rfl, rfl, rfl, h2, r2⟩ := trodAll_cons r1
  obtain ⟨rfl, rfl, rfl⟩ := trodAll_nil r2
  obtain rfl : args = #[v0, v1, v2] := by cases args; simp_all
  obtain ⟨A, n, c, l, rfl, hl, _⟩ := open_labels (hval 0 22 v0 rfl rfl) h0 (arg_fits (b := Rows.uptoBulkAll [d0, d1, d2]) (j := 0) rfl rfl (fun x hx => hlt x (by simp [hx])) hsz (Nat.le_refl _))
  obtain ⟨B, m, c2, l2, rfl, hl2, _⟩ := open_labels (hval 1 22 v1 rfl rfl) h1 (arg_fits (b := Rows.uptoBulkAll [d0, d1, d2]) (j := 1) rfl rfl (fun x hx => hlt x (by simp [hx])) hsz (Nat.le_refl _))
  obtain ⟨C, k, c3, l3, rfl, hl3, _⟩ := open_labels (hval 2 22 v2 rfl rfl) h2 (arg_fits (b := Rows.uptoBulkAll [d0, d1, d2]) (j := 2) rfl rfl (fun x hx => hlt x (by simp [hx])) hsz (Nat.le_refl _))
  exact labelsSorts_any A B C n m k c c2 c3 l l2 l3 W hl hl2 hl3

namespace labelsSorts
set_option maxRecDepth 100000 in
theorem lifted (os : Os) (started : os.Started) (H : Type) (enc : TypeId × Value → H) :
    ReturnsInHanded {} Try.checked os 8 .any (Rows.labelsSortsSpec.pre6 enc Try.prog Try.f8 Rows.labelsSortsRow.domain false) (Rows.labelsSortsSpec.post enc Try.prog Try.f8 false true false false) :=
  law_said (C := Try.checked) (s := Rows.labelsSortsSpec) (tb := 4) own_prog started (by kernel_rfl) Try.func8
    (ChangeSpec.witness6 (enc := enc) (C := Try.checked) false ⟨#[], #[.slice none 0 0, .slice none 0 0, .slice none 0 0], []⟩ 8 (by kernel_rfl) (by kernel_rfl) (by kernel_rfl) (by kernel_rfl))
    laidOut (by kernel_rfl) rfl Try.underlying4 ⟨rfl, fun H ds h => match ds, h with | [_, _, _], _ => ⟨rfl, rfl, rfl⟩⟩ (labelsSorts_walk enc)

theorem proved : Rows.LabelsSortsSaid :=
  OpenClaim.holds_of_wide 8 Try.f8 rfl rfl rfl rfl rfl rfl rfl ⟨rfl, rfl, rfl, rfl, rfl⟩ rfl rfl rfl rfl rfl (by kernel_rfl) Try.func8 (by kernel_rfl)
    (of_decide_eq_true (by kernel_rfl)) (by unfold Func.isWrapper; first | (rw [if_pos (by decide +kernel)]; kernel_rfl) | (rw [if_neg (by decide +kernel)]; exact ⟨rfl, rfl⟩))
    (fun os started H enc _ => lifted os started H enc)
#print axioms proved
end labelsSorts

end Go.Proofs.Ytfidneoakcejgaa
