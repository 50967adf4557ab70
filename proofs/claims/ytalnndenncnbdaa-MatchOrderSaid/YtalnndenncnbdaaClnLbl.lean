/- slices.Clone at labels: a copy of the call's own. Condition: the row is within the reach. -/
import Derived.Test.YtalnndenncnbdaaCloneL
import Derived.Test.YtalnndenncnbdaaSerMem

namespace Go.Proofs.Ytalnndenncnbdaa.ClnLbl
set_option maxRecDepth 100000
open Go.RowKit

theorem info : (Try.prog.info? 30).map (fun i => (i.zero, i.size, i.bytes)) = some (some (.agg #[.string ByteArray.empty, .string ByteArray.empty]), 2, 32) := by kernel_rfl
theorem cells_one (l : List Lbl) : ∀ u ∈ l.flatMap Lbl.cells, u.oneCell' = true := by
  intro u hu
  simp only [Lbl.cells, List.mem_flatMap, List.mem_cons, List.not_mem_nil, or_false] at hu
  obtain ⟨s, _, rfl | rfl⟩ := hu <;> rfl

set_option maxHeartbeats 1600000 in
theorem cloneO_any (A : Option Addr) (n c : Nat) (l : List Lbl) (w : World) (hr : Row w w.heap.size 2 A n (l.flatMap Lbl.cells)) (hl : l.length = n) (hn : n * 32 ≤ 140737488351232) :
    Calls Try.prog 25 #[.slice A n c] w fun e w' => ∃ s : Sl Lbl, e = .returned s.val ∧ s.l = l ∧ s.n = n ∧ s.At w' w'.heap.size 2 Lbl.cells ∧ (∀ j, j < w.heap.size → s.Off (some j)) ∧ Below w.heap.size w w' ∧ (0 < n → w'.ownsRow w.heap.size 30 2 s.val n (l.flatMap Lbl.cells)) := by
  obtain ⟨i0, hi, hz0, hz1, hz2⟩ := info_parts info
  have hL := hidden hl
  clear hl
  cases A with
  | none =>
    have hn0 : n = 0 := by
      rcases Nat.eq_zero_or_pos n with h | h
      · exact h
      · obtain ⟨_, _, h', _⟩ := hr.at_ h
        cases h'
    subst hn0
    have h1 := fun w : World => Lib.run_eql_slice_nil (P := Try.prog) w 31 30 none 0 c 0 0 Try.underlying31
    go_enter Try.func25, Try.ntmps25
    go_wp2
    go_ret
    exact ⟨⟨none, 0, 0, l⟩, rfl, rfl, rfl, ⟨Nat.le_refl _, hL.out, hr⟩, fun j _ hn => by simp at hn, Below.refl _ _, fun h => absurd h (by omega)⟩
  | some a =>
    have h1 := fun w : World => Lib.run_eql_slice_nil (P := Try.prog) w 31 30 (some a) n c 0 0 Try.underlying31
    go_enter Try.func25, Try.ntmps25
    go_wp2_with (at_builtin; refine wpList_clone _ rfl _ _ 31 rfl 30 i0 _ 2 32 Try.underlying31 hi hz0 hz1 hz2 rfl (by decide) _ rfl w.heap.size _ _ _ _ rfl (hr.alloc (Nat.le_refl _) _) (cells_one l) (by unfold maxLen; omega) (by omega) ?_; intro v1 w1 hg1 hown1)
    go_ret
    have hb1 : Below w.heap.size w w1 := ((Below.refl _ _).alloc (Nat.le_refl _) _).grown hg1 (by simp) (fun j hj => by cases hj)
    rcases hown1 with ⟨rfl, rfl⟩ | hown1
    · have hl0 : l = [] := List.eq_nil_of_length_eq_zero hL.out
      subst hl0
      exact ⟨⟨_, 0, 0, []⟩, rfl, rfl, rfl, ⟨Nat.le_refl _, rfl, ⟨rfl, fun h => absurd h (by simp)⟩⟩, fun j _ hn => by simp at hn, hb1, fun h => absurd h (by omega)⟩
    · obtain ⟨A1, c1, rfl, hc1, hr1⟩ := own_shape hown1
      exact ⟨⟨A1, n, c1, l⟩, rfl, rfl, rfl, ⟨hc1, hL.out, hr1⟩, fun j hj => Sl.off_own hown1 (by simp; omega), hb1, fun _ => ⟨hown1.1, hown1.2.imp id fun ⟨g, cap, cur, h1, h2, h3⟩ => ⟨g, cap, cur, h1, by simp at h2; omega, h3⟩⟩⟩
theorem clone_any (A : Option Addr) (n c : Nat) (l : List Lbl) (w : World) (hr : Row w w.heap.size 2 A n (l.flatMap Lbl.cells)) (hl : l.length = n) (hn : n * 32 ≤ 140737488351232) :
    Calls Try.prog 25 #[.slice A n c] w fun e w' => ∃ s : Sl Lbl, e = .returned s.val ∧ s.l = l ∧ s.n = n ∧ s.At w' w'.heap.size 2 Lbl.cells ∧ (∀ j, j < w.heap.size → s.Off (some j)) ∧ Below w.heap.size w w' := by
  refine (cloneO_any A n c l w hr hl hn).mono ?_
  rintro e w' ⟨s, h1, h2, h3, h4, h5, h6, _⟩
  exact ⟨s, h1, h2, h3, h4, h5, h6⟩
end Go.Proofs.Ytalnndenncnbdaa.ClnLbl
