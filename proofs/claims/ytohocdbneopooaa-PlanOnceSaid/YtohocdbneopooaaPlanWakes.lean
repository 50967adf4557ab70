/- The law's own helper wakes returns true in every world. No condition. -/
import Derived.Test.YtohocdbneopooaaPlanSame
namespace Go.Proofs.Ytohocdbneopooaa
set_option maxRecDepth 100000
open Go.Shelf Go.RowKit Go.Lib Go.Sort

def wakeI : List Inf := [⟨3, 0, 20, 30, 0⟩, ⟨1, 0, 0, 10, 0⟩, ⟨2, 0, 10, 20, 0⟩]
theorem wakeI_plan : planI 2 wakeI = [[1, 2]] := by decide +kernel

theorem ll_lit (w : World) (x y : Int) :
    LLAt ((w.alloc (.cells #[.int .i64 x, .int .i64 y] 3)).alloc (.cells #[.slice (some ⟨w.heap.size, 0, none⟩) 2 2] 78)) w.heap.size (.slice (some ⟨w.heap.size + 1, 0, none⟩) 1 1) [[x, y]] [⟨some ⟨w.heap.size, 0, none⟩, 2, 2, [x, y]⟩] := by
  have hr := (Row.fresh w 3 1 2 [.int .i64 x, .int .i64 y] rfl).alloc (by simp) (.cells #[.slice (some ⟨w.heap.size, 0, none⟩) 2 2] 78)
  have hn := Whole1.new (w.alloc (.cells #[.int .i64 x, .int .i64 y] 3)) 78 #[.slice (some ⟨w.heap.size, 0, none⟩) 2 2]
  rw [World.size_alloc] at hn
  refine ⟨⟨rfl, .inr ⟨w.heap.size + 1, 1, _, rfl, by omega, hn, Nat.le_refl _, by unfold maxLen; omega, rfl, rfl⟩⟩, rfl, fun s hs => ?_, fun s hs => ?_, fun s hs j hj => ?_⟩
  · rw [List.mem_singleton.1 hs]
    exact ⟨Nat.le_refl _, rfl, hr.more (by simp)⟩
  · rw [List.mem_singleton.1 hs]
    intro _ a ha e
    injection ha with ha
    subst ha
    injection e with e
    simp only at e
    omega
  · rw [List.mem_singleton.1 hs]
    intro _ a ha e
    injection ha with ha
    subst ha
    injection e with e
    simp only at e
    omega

set_option maxHeartbeats 3200000 in
theorem planWakes_any (w : World) : Calls Try.prog 35 #[] w fun e w' => e = .returned (.bool true) ∧ RowKit.Below w.heap.size w w' := by
  have r0 := Row.fresh w 71 5 3 (infCells wakeI) rfl
  have R0 := hidden r0
  have hb0 := hidden ((RowKit.Below.refl w.heap.size w).alloc (Nat.le_refl _) (.cells (infCells wakeI).toArray 71))
  clear r0
  go_enter Try.func35, Try.ntmps35
  go_wp2_with fail
  refine (plan_any 2 (some ⟨w.heap.size, 0, none⟩) 3 3 wakeI _ (R0.out.more (by simp)) rfl (by omega) (by omega)).mono ?_
  rw [wakeI_plan]
  rintro e w1 ⟨v, S, rfl, hL, hb⟩
  have hL2 := hidden hL
  have hB1 := hb0.out.trans (hb.mono (by simp))
  clear hL hb
  go_wp2_with fail
  refine (same_ll (hL2.out.below (((RowKit.Below.refl _ _).alloc (Nat.le_refl _) _).alloc (by simp) _)) (ll_lit w1 1 2) (by simp) (by simp)).mono ?_
  rintro e w2 ⟨rfl, m, rfl⟩
  go_wp2_with fail
  go_ret
  exact ⟨rfl, below_drewN ((hB1.alloc hB1.size _).alloc (by have := hB1.size; simp; omega) _) m⟩
end Go.Proofs.Ytohocdbneopooaa
