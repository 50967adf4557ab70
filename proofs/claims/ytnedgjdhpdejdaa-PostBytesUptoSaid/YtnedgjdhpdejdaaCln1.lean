/- slices.Clone at ints and at cursors: a copy of the call's own. Condition: the row is within the reach. -/
import Derived.Test.YtnedgjdhpdejdaaCloneL
import Derived.Test.YtnedgjdhpdejdaaCurRest
namespace Go.Proofs.Ytnedgjdhpdejdaa
set_option maxRecDepth 100000
open Go.RowKit Go.Shelf

theorem infoInt : (Try.prog.info? 3).map (fun i => (i.zero, i.size, i.bytes)) = some (some (.int .i64 0), 1, 8) := by kernel_rfl
set_option maxHeartbeats 1600000 in
theorem cloneInt (A : Option Addr) (n c : Nat) (xs : List Value) (w : World) (hr : Row w w.heap.size 1 A n xs) (h1c : ∀ u ∈ xs, u.oneCell' = true) (hn : n * 8 ≤ 140737488351232) :
    Calls Try.prog 20 #[.slice A n c] w fun e w' => ∃ A' c', e = .returned (.slice A' n c') ∧ n ≤ c' ∧ Row w' w'.heap.size 1 A' n xs ∧ Below w.heap.size w w' ∧ (0 < n → w'.ownsRow w.heap.size 3 1 (.slice A' n c') n xs) := by
  obtain ⟨i0, hi, hz0, hz1, hz2⟩ := info_parts infoInt
  have hL := hr.len
  rw [Nat.mul_one] at hL
  have HL := hidden hL
  clear hL
  cases A with
  | none =>
    have hn0 : n = 0 := by
      rcases Nat.eq_zero_or_pos n with h | h
      · exact h
      · obtain ⟨_, _, h', _⟩ := hr.at_ h
        cases h'
    subst hn0
    have h1 := fun w : World => Lib.run_eql_slice_nil (P := Try.prog) w 22 3 none 0 c 0 0 Try.underlying22
    go_enter Try.func20, Try.ntmps20
    go_wp2
    go_ret
    exact ⟨none, 0, rfl, Nat.le_refl _, hr, Below.refl _ _, fun h => absurd h (by omega)⟩
  | some a =>
    have h1 := fun w : World => Lib.run_eql_slice_nil (P := Try.prog) w 22 3 (some a) n c 0 0 Try.underlying22
    go_enter Try.func20, Try.ntmps20
    go_wp2_with (at_builtin; refine wpList_clone _ rfl _ _ 22 rfl 3 i0 _ 1 8 Try.underlying22 hi hz0 hz1 hz2 rfl (by decide) _ rfl w.heap.size _ _ _ _ rfl (hr.alloc (Nat.le_refl _) _) h1c (by unfold maxLen; omega) (by omega) ?_; intro v1 w1 hg1 hown1)
    go_ret
    have hb1 : Below w.heap.size w w1 := ((Below.refl _ _).alloc (Nat.le_refl _) _).grown hg1 (by simp) (fun j hj => by cases hj)
    rcases hown1 with ⟨rfl, rfl⟩ | hown1
    · have hl0 : xs = [] := List.eq_nil_of_length_eq_zero HL.out
      subst hl0
      exact ⟨_, 0, rfl, Nat.le_refl _, Row.nil, hb1, fun h => absurd h (by omega)⟩
    · obtain ⟨A1, c1, rfl, hc1, hr1⟩ := own_shape hown1
      exact ⟨A1, c1, rfl, hc1, hr1, hb1, fun _ => ⟨hown1.1, hown1.2.imp id fun ⟨g, cap, cur, h1, h2, h3⟩ => ⟨g, cap, cur, h1, by simp at h2; omega, h3⟩⟩⟩

theorem infoPtr : (Try.prog.info? 24).map (fun i => (i.zero, i.size, i.bytes)) = some (some (.pointer none), 1, 8) := by kernel_rfl
set_option maxHeartbeats 1600000 in
theorem clonePtr (A : Option Addr) (n c : Nat) (xs : List Value) (w : World) (hr : Row w w.heap.size 1 A n xs) (h1c : ∀ u ∈ xs, u.oneCell' = true) (hn : n * 8 ≤ 140737488351232) :
    Calls Try.prog 24 #[.slice A n c] w fun e w' => ∃ A' c', e = .returned (.slice A' n c') ∧ n ≤ c' ∧ Row w' w'.heap.size 1 A' n xs ∧ Below w.heap.size w w' ∧ (0 < n → w'.ownsRow w.heap.size 24 1 (.slice A' n c') n xs) := by
  obtain ⟨i0, hi, hz0, hz1, hz2⟩ := info_parts infoPtr
  have hL := hr.len
  rw [Nat.mul_one] at hL
  have HL := hidden hL
  clear hL
  cases A with
  | none =>
    have hn0 : n = 0 := by
      rcases Nat.eq_zero_or_pos n with h | h
      · exact h
      · obtain ⟨_, _, h', _⟩ := hr.at_ h
        cases h'
    subst hn0
    have h1 := fun w : World => Lib.run_eql_slice_nil (P := Try.prog) w 50 24 none 0 c 0 0 Try.underlying50
    go_enter Try.func24, Try.ntmps24
    go_wp2
    go_ret
    exact ⟨none, 0, rfl, Nat.le_refl _, hr, Below.refl _ _, fun h => absurd h (by omega)⟩
  | some a =>
    have h1 := fun w : World => Lib.run_eql_slice_nil (P := Try.prog) w 50 24 (some a) n c 0 0 Try.underlying50
    go_enter Try.func24, Try.ntmps24
    go_wp2_with (at_builtin; refine wpList_clone _ rfl _ _ 50 rfl 24 i0 _ 1 8 Try.underlying50 hi hz0 hz1 hz2 rfl (by decide) _ rfl w.heap.size _ _ _ _ rfl (hr.alloc (Nat.le_refl _) _) h1c (by unfold maxLen; omega) (by omega) ?_; intro v1 w1 hg1 hown1)
    go_ret
    have hb1 : Below w.heap.size w w1 := ((Below.refl _ _).alloc (Nat.le_refl _) _).grown hg1 (by simp) (fun j hj => by cases hj)
    rcases hown1 with ⟨rfl, rfl⟩ | hown1
    · have hl0 : xs = [] := List.eq_nil_of_length_eq_zero HL.out
      subst hl0
      exact ⟨_, 0, rfl, Nat.le_refl _, Row.nil, hb1, fun h => absurd h (by omega)⟩
    · obtain ⟨A1, c1, rfl, hc1, hr1⟩ := own_shape hown1
      exact ⟨A1, c1, rfl, hc1, hr1, hb1, fun _ => ⟨hown1.1, hown1.2.imp id fun ⟨g, cap, cur, h1, h2, h3⟩ => ⟨g, cap, cur, h1, by simp at h2; omega, h3⟩⟩⟩
end Go.Proofs.Ytnedgjdhpdejdaa
