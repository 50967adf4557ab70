/- fold.Windows and fold.Widen: what they return. Condition: the rows are within the reach. -/
import Derived.Test.YtohocdbneopooaaFoldGroupedW
namespace Go.Proofs.Ytohocdbneopooaa
set_option maxRecDepth 100000
open Go.RowKit

set_option maxHeartbeats 1600000 in
theorem windows_calls (d : Int) (A : Option Addr) (n cap : Nat) (l : List Smp) (w : World) (hr : Row w w.heap.size 2 A n (smpCells l)) (hl : l.length = n) (hnc : n ≤ cap) (hn : n * 48 ≤ 140737488351232) (hok : ∀ s ∈ l, s.ok) :
    Calls Try.prog 44 #[.int .i64 d, .slice A n cap] w
      fun e w' => ∃ v, e = .returned (.tuple #[v, .int .i64 (errOf Smp.t (fun _ => 0) d l)]) ∧ GrpResS d l w.heap.size w' v ∧ Below w.heap.size w w' := by
  have hL := hidden hl
  clear hl
  go_enter Try.func44, Try.ntmps44
  go_wp2_with fail
  refine (groupedS_any d A n cap l w hr hL.out hnc hn hok).mono ?_
  rintro e w1 ⟨v, rfl, hG, hb⟩
  have HG := hidden hG
  clear hG
  go_wp2
  go_ret2
  exact ⟨_, rfl, HG.out, hb⟩

set_option maxHeartbeats 1600000 in
theorem widen_calls (d : Int) (A : Option Addr) (n cap : Nat) (l : List Win) (w : World) (hr : Row w w.heap.size 6 A n (winCells l)) (hl : l.length = n) (hnc : n ≤ cap) (hn : n * 48 ≤ 140737488351232) (hok : ∀ s ∈ l, s.ok) :
    Calls Try.prog 50 #[.int .i64 d, .slice A n cap] w
      fun e w' => ∃ v, e = .returned (.tuple #[v, .int .i64 (errOf Win.start badWin d l)]) ∧ GrpResW d l w.heap.size w' v ∧ Below w.heap.size w w' := by
  have hL := hidden hl
  clear hl
  go_enter Try.func50, Try.ntmps50
  go_wp2_with fail
  refine (groupedW_any d A n cap l w hr hL.out hnc hn hok).mono ?_
  rintro e w1 ⟨v, rfl, hG, hb⟩
  have HG := hidden hG
  clear hG
  go_wp2
  go_ret2
  exact ⟨_, rfl, HG.out, hb⟩

end Go.Proofs.Ytohocdbneopooaa
