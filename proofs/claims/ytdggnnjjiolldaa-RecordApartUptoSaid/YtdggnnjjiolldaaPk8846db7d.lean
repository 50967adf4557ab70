/- record.fitRef; slices.Equal at spans. Condition: the rows are within the reach. -/
import Derived.Test.YtdggnnjjiolldaaPke476539a
import Derived.BigQuiet
namespace Go.Proofs.Ytdggnnjjiolldaa
set_option maxRecDepth 100000
open Go.RowKit

open Classical in
theorem fitRef_any (n : Int) (w : World) :
    Calls Try.prog 37 #[.int .i64 n] w fun e w' => e = .returned (.bool (decide (fitRef n))) ∧ w = w' := by
  by_cases h0 : 0 ≤ n
  · by_cases h1 : n ≤ 1099511627776
    · have HF := hidden (decide_eq_true (show fitRef n from ⟨h0, h1⟩))
      go_enter Try.func37, Try.ntmps37
      go_wp2_with fail
      go_ret
      rw [HF.out]
      exact ⟨rfl, rfl⟩
    · have h1' : decide (n ≤ 1099511627776) = false := decide_eq_false h1
      have HF := hidden (decide_eq_false (fun h : fitRef n => h1 h.2))
      clear h1
      go_enter Try.func37, Try.ntmps37
      go_wp2_with fail
      go_ret
      rw [HF.out]
      exact ⟨rfl, rfl⟩
  · have h0' : decide (0 ≤ n) = false := decide_eq_false h0
    have HF := hidden (decide_eq_false (fun h : fitRef n => h0 h.1))
    clear h0
    go_enter Try.func37, Try.ntmps37
    go_wp2_with fail
    go_ret
    rw [HF.out]
    exact ⟨rfl, rfl⟩
theorem spn_eq {x y : Spn} (h1 : x.frm = y.frm) (h2 : x.til = y.til) : x = y := by cases x; cases y; simp_all
open Classical in
set_option maxHeartbeats 1600000 in
theorem equalS_any (A B : Option Addr) (n m c1 c2 : Nat) (l l2 : List Spn) (w : World) (hr : Row w w.heap.size 2 A n (l.flatMap Spn.cells)) (hr2 : Row w w.heap.size 2 B m (l2.flatMap Spn.cells)) (hl : l.length = n) (hl2 : l2.length = m) (hn : n ≤ 4611686018427387904) (hm : m ≤ 4611686018427387904) :
    Calls Try.prog 39 #[.slice A n c1, .slice B m c2] w fun e w' => e = .returned (.bool (decide (l = l2))) ∧ ∃ k, w' = w.drewN k := by
  have hK : ∀ x : Spn, x.cells.length = 2 := fun _ => rfl
  by_cases hnm : n = m
  · subst hnm
    have hL := hidden hl
    have hL2 := hidden hl2
    have HR := hidden hr
    have HR2 := hidden hr2
    have hnn : ((n : Int) != (n : Int)) = false := by simp
    clear hl hl2 hr hr2
    go_enter Try.func39, Try.ntmps39
    go_wp2_with fail
    go_loopw [13] (fun i wr => ∃ q : Nat, q ≤ n ∧ i = .int .i64 q ∧ Hid (l.take q = l2.take q) ∧ (∃ m, wr = w.drewN m)) (fun i _ => n - (intOf i).toNat)
    case atStart => exact ⟨0, Nat.zero_le _, rfl, hidden rfl, 0, rfl⟩
    case round =>
      obtain ⟨q, hq1, rfl, hT, m, rfl⟩ := hrel
      by_cases hlt : q < n
      · obtain ⟨gs, o, x, rfl, _, hx, hcl⟩ := row_at hK HR.out hL.out q hlt
        obtain ⟨gt, p, y, rfl, _, hy, hdl⟩ := row_at hK HR2.out hL2.out q hlt
        have c0 : w.cell? ⟨gs, o + q * 2, none⟩ = some (.int .i64 x.frm) := hcl 0 (by omega)
        have c1 : w.cell? ⟨gs, o + q * 2 + 1, none⟩ = some (.int .i64 x.til) := hcl 1 (by omega)
        have d0 : w.cell? ⟨gt, p + q * 2, none⟩ = some (.int .i64 y.frm) := hdl 0 (by omega)
        have d1 : w.cell? ⟨gt, p + q * 2 + 1, none⟩ = some (.int .i64 y.til) := hdl 1 (by omega)
        have hlt' : (q : Int) < (n : Int) := by omega
        have hq0 : (0 : Int) ≤ (q : Int) := by omega
        by_cases hxy : x = y
        · subst hxy
          have hT2 := hidden (show l.take (q + 1) = l2.take (q + 1) by rw [take_snoc? hx, take_snoc? hy, hT.out])
          clear hx hy hcl hdl
          go_wp2_with fail
          go_quiet (fail)
          go_wp2_with fail
          go_roundw
          case rel => exact ⟨q + 1, by omega, by go_num, hT2, m + nq, rfl⟩
          case measure => simp [intOf]; omega
        · have HF := hidden (decide_eq_false (fun h : l = l2 => by
            rw [h] at hx
            exact hxy (Option.some.inj (hx.symm.trans hy))))
          have hdiff : (x.frm == y.frm) = false ∨ ((x.frm == y.frm) = true ∧ (x.til == y.til) = false) := by
            by_cases h1 : x.frm = y.frm
            · exact .inr ⟨by simpa using h1, by simpa using fun h2 => hxy (spn_eq h1 h2)⟩
            · exact .inl (by simpa using h1)
          clear hx hy hcl hdl hxy
          rcases hdiff with e1 | ⟨e1, e2⟩
          all_goals
            go_wp2_with fail
            go_quiet (fail)
            go_wp2_with fail
            go_ret
            rw [HF.out]
            exact ⟨rfl, m + nq, World.drewN_drewN _ _ _⟩
      · have hlt' : ¬ (q : Int) < (n : Int) := by omega
        have hqn : q = n := by omega
        have HF := hidden (decide_eq_true (show l = l2 by
          have h := hT.out
          rw [hqn, List.take_of_length_le (by rw [hL.out]; exact Nat.le_refl _), List.take_of_length_le (by rw [hL2.out]; exact Nat.le_refl _)] at h
          exact h))
        go_wp2_with fail
        go_ret
        rw [HF.out]
        exact ⟨rfl, m, rfl⟩
  · have hne : ((n : Int) != (m : Int)) = true := by simp; omega
    have HF := hidden (decide_eq_false (fun h : l = l2 => hnm (by rw [← hl, ← hl2, h])))
    clear hnm hr hr2
    go_enter Try.func39, Try.ntmps39
    go_wp2_with fail
    go_ret
    rw [HF.out]
    exact ⟨rfl, 0, rfl⟩
end Go.Proofs.Ytdggnnjjiolldaa
