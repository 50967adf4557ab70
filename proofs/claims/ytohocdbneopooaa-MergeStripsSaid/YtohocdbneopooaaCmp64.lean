/- cmp.Compare at int64. No condition. -/
import Derived.Test.YtohocdbneopooaaBase
import Derived.Test.YtohocdbneopooaaSrtP
namespace Go.Proofs.Ytohocdbneopooaa
set_option maxRecDepth 100000
open Go.RowKit Go.Sort

def cmpZ (x y : Int) : Int := if x < y then -1 else if y < x then 1 else 0
theorem cmpZ_lt (x y : Int) : decide (cmpZ x y < 0) = decide (x < y) := by
  unfold cmpZ
  by_cases h : x < y
  · simp [h]
  · rw [if_neg h]
    by_cases h2 : y < x
    · simp [h, h2]
    · simp [h, h2]
theorem swo_at {α : Type} (f : α → Int) : SWO fun x y => decide (cmpZ (f x) (f y) < 0) where
  irrefl x := by rw [cmpZ_lt]; simp
  trans x y z h1 h2 := by
    rw [cmpZ_lt] at *
    simp only [decide_eq_true_eq] at *
    omega
  ntrans x y z h1 h2 := by
    rw [cmpZ_lt] at *
    simp only [decide_eq_false_iff_not] at *
    omega
set_option maxHeartbeats 400000 in
theorem isNaN64_z (x : Int) (w : World) : Calls Try.prog 139 #[.int .i64 x] w fun e w' => e = .returned (.bool false) ∧ w' = w := by
  have h : ((x != x) : Bool) = false := by simp
  go_enter Try.func139, Try.ntmps139
  go_wp2
  go_ret
  exact ⟨rfl, rfl⟩
set_option maxHeartbeats 800000 in
theorem cmp64_z (x y : Int) (w : World) : Calls Try.prog 111 #[.int .i64 x, .int .i64 y] w fun e w' => e = .returned (.int .i64 (cmpZ x y)) ∧ w' = w := by
  rcases Int.lt_trichotomy x y with h | h | h
  · have hc := hidden (show cmpZ x y = -1 from if_pos h)
    go_enter Try.func111, Try.ntmps111
    go_wp2_with (go_at_call 139; refine (isNaN64_z _ _).mono ?_; rintro e w' ⟨rfl, rfl⟩)
    go_ret
    exact ⟨ret_int hc.out.symm, rfl⟩
  · subst h
    have hc := hidden (show cmpZ x x = 0 by simp [cmpZ])
    go_enter Try.func111, Try.ntmps111
    go_wp2_with (go_at_call 139; refine (isNaN64_z _ _).mono ?_; rintro e w' ⟨rfl, rfl⟩)
    go_ret
    exact ⟨ret_int hc.out.symm, rfl⟩
  · have hc := hidden (show cmpZ x y = 1 by unfold cmpZ; rw [if_neg (by omega), if_pos h])
    have h2 : ¬ x < y := by omega
    go_enter Try.func111, Try.ntmps111
    go_wp2_with (go_at_call 139; refine (isNaN64_z _ _).mono ?_; rintro e w' ⟨rfl, rfl⟩)
    go_ret
    exact ⟨ret_int hc.out.symm, rfl⟩
end Go.Proofs.Ytohocdbneopooaa
