/- The law's helper alike: are two lists of windows the same? Condition: the rows' bytes are within the reach. -/
import Derived.Test.YtfcpphfiickpoaaFoldCopy
namespace Go.Proofs.Ytfcpphfiickpoaa
open Go.RowKit

set_option maxHeartbeats 1600000 in
theorem alike_yes (A B : Option Addr) (n c1 c2 : Nat) (l : List Win) (w : World) (hr : Row w w.heap.size 6 A n (winCells l)) (hr2 : Row w w.heap.size 6 B n (winCells l)) (hl : l.length = n) (hn : n * 48 ≤ 140737488351232) :
    Calls Try.prog 14 #[.slice A n c1, .slice B n c2] w fun e w' => e = .returned (.bool true) ∧ Below w.heap.size w w' := by
  have hL := hidden hl
  clear hl
  go_enter Try.func14, Try.ntmps14
  go_wp2_with fail
  refine (windows_any A n c1 l w hr hL.out hn).mono ?_
  rintro e w1 ⟨v, rfl, hown, hb1⟩
  obtain ⟨A1, c3, rfl, _, hr1⟩ := own_shape hown
  have hr3 := hr2.below hb1
  clear hown hr hr2
  have hnn : ((n : Int) != (n : Int)) = false := by simp
  go_wp2
  go_loopw [16] (fun i wr => ∃ k : Nat, k ≤ n ∧ i = .int .i64 k ∧ (∃ m, wr = w1.drewN m)) (fun i _ => n - (intOf i).toNat)
  case atStart => exact ⟨0, Nat.zero_le _, rfl, 0, rfl⟩
  case round =>
    obtain ⟨k, hk, rfl, m, rfl⟩ := hrel
    by_cases hlt : k < n
    · obtain ⟨gs, o, rfl, hgs, hc⟩ := hr1.at_ (by omega)
      obtain ⟨gt, p, rfl, hgt, hd⟩ := hr3.at_ (by omega)
      have hs := winCells_at l k (by rw [hL.out]; exact hlt)
      have hkl : k < l.length := by rw [hL.out]; exact hlt
      generalize l[k] = x at hs
      obtain ⟨x0, x1, x2, x3, x4, x5⟩ := x
      simp only at hs
      have c0 : w1.cell? ⟨gs, o + k * 6, none⟩ = some (.int .i64 x0) := (hc (k * 6) (by omega)).trans hs.1
      have c1 : w1.cell? ⟨gs, o + k * 6 + 1, none⟩ = some (.int .i64 x1) := (hc (k * 6 + 1) (by omega)).trans hs.2.1
      have c2 : w1.cell? ⟨gs, o + k * 6 + 2, none⟩ = some (.int .u64 x2) := (hc (k * 6 + 2) (by omega)).trans hs.2.2.1
      have c3 : w1.cell? ⟨gs, o + k * 6 + 3, none⟩ = some (.int .u64 x3) := (hc (k * 6 + 3) (by omega)).trans hs.2.2.2.1
      have c4 : w1.cell? ⟨gs, o + k * 6 + 4, none⟩ = some (.int .u64 x4) := (hc (k * 6 + 4) (by omega)).trans hs.2.2.2.2.1
      have c5 : w1.cell? ⟨gs, o + k * 6 + 5, none⟩ = some (.int .u64 x5) := (hc (k * 6 + 5) (by omega)).trans hs.2.2.2.2.2
      have d0 : w1.cell? ⟨gt, p + k * 6, none⟩ = some (.int .i64 x0) := (hd (k * 6) (by omega)).trans hs.1
      have d1 : w1.cell? ⟨gt, p + k * 6 + 1, none⟩ = some (.int .i64 x1) := (hd (k * 6 + 1) (by omega)).trans hs.2.1
      have d2 : w1.cell? ⟨gt, p + k * 6 + 2, none⟩ = some (.int .u64 x2) := (hd (k * 6 + 2) (by omega)).trans hs.2.2.1
      have d3 : w1.cell? ⟨gt, p + k * 6 + 3, none⟩ = some (.int .u64 x3) := (hd (k * 6 + 3) (by omega)).trans hs.2.2.2.1
      have d4 : w1.cell? ⟨gt, p + k * 6 + 4, none⟩ = some (.int .u64 x4) := (hd (k * 6 + 4) (by omega)).trans hs.2.2.2.2.1
      have d5 : w1.cell? ⟨gt, p + k * 6 + 5, none⟩ = some (.int .u64 x5) := (hd (k * 6 + 5) (by omega)).trans hs.2.2.2.2.2
      clear hs hc hd hr1 hr3 hkl
      have hlt' : (k : Int) < (n : Int) := by omega
      have hk0 : (0 : Int) ≤ (k : Int) := by omega
      go_wp2
      go_quiet (fail)
      go_wp2
      go_roundw
      case rel => exact ⟨k + 1, by omega, by go_num, m + nq, rfl⟩
      case measure => simp [intOf]; omega
    · have hlt' : ¬ (k : Int) < (n : Int) := by omega
      go_wp2
      go_ret
      exact ⟨rfl, below_drewN hb1 m⟩

end Go.Proofs.Ytfcpphfiickpoaa
