/- query.Best and the reference's: the resolution for questions from a time on. No condition. -/
import Derived.Test.YtcndncklgbeloaaBase
import Derived.Deep.QuietTactic
import Derived.BigQuiet
import Derived.IntWalk
namespace Go.Proofs.Ytcndncklgbeloaa
set_option maxRecDepth 100000
open Go.RowKit

/-- the best resolution -/
def bestP (f a b c : Int) : Int := if a ≤ f then 0 else if b ≤ f then 1 else if c ≤ f then 2 else if b < a then (if c < b then 2 else 1) else (if c < a then 2 else 0)

set_option maxHeartbeats 3200000 in
theorem best_any (f a b c r0 r1 r2 : Int) (w : World) :
    Calls Try.prog 5 #[.int .i64 f, .agg #[.int .i64 a, .int .i64 b, .int .i64 c, .int .i64 r0, .int .i64 r1, .int .i64 r2]] w fun e w' => e = .returned (.int .i64 (bestP f a b c)) ∧ Below w.heap.size w w' := by
  have x0 : ∀ w, (Instr.index 22 (.agg #[.int .i64 a, .int .i64 b, .int .i64 c]) (.int .i64 0)).run Try.prog w = .ok (.int .i64 a) w := fun _ => by kernel_rfl
  have x1 : ∀ w, (Instr.index 22 (.agg #[.int .i64 a, .int .i64 b, .int .i64 c]) (.int .i64 1)).run Try.prog w = .ok (.int .i64 b) w := fun _ => by kernel_rfl
  have x2 : ∀ w, (Instr.index 22 (.agg #[.int .i64 a, .int .i64 b, .int .i64 c]) (.int .i64 2)).run Try.prog w = .ok (.int .i64 c) w := fun _ => by kernel_rfl
  obtain ⟨v, hv⟩ : ∃ v, bestP f a b c = v := ⟨_, rfl⟩
  rw [hv]
  unfold bestP at hv
  have hX0 := Whole1.new w 24 #[.int .i64 a, .int .i64 b, .int .i64 c, .int .i64 r0, .int .i64 r1, .int .i64 r2]
  have hB0 : Below w.heap.size w (w.alloc (.cells #[.int .i64 a, .int .i64 b, .int .i64 c, .int .i64 r0, .int .i64 r1, .int .i64 r2] 24)) := (Below.refl _ _).alloc (Nat.le_refl _) _
  go_enter Try.func5, Try.ntmps5
  go_wp2_with fail
  generalize w.alloc (.cells #[.int .i64 a, .int .i64 b, .int .i64 c, .int .i64 r0, .int .i64 r1, .int .i64 r2] 24) = w1 at hX0 hB0 ⊢
  obtain ⟨g, hg⟩ : ∃ g, w.heap.size = g := ⟨_, rfl⟩
  have HB := hidden hB0
  rw [hg] at hX0 ⊢
  have HX := hidden hX0
  have c0 := hX0.cell 0
  have c1 := hX0.cell 1
  have c2 := hX0.cell 2
  clear hX0 hB0 hg
  refine wp_loop_rounds 4 ?_
  rw [rounds_succ]
  by_cases ha : a ≤ f
  · rw [if_pos ha] at hv
    subst hv
    go_wp2_with fail
    go_ret
    exact ⟨rfl, HB.out⟩
  · have ha' : decide (a ≤ f) = false := decide_eq_false ha
    rw [if_neg ha] at hv
    go_wp2_with fail
    rw [rounds_succ]
    by_cases hb : b ≤ f
    · rw [if_pos hb] at hv
      subst hv
      go_wp2_with fail
      go_ret
      exact ⟨rfl, HB.out⟩
    · have hb' : decide (b ≤ f) = false := decide_eq_false hb
      rw [if_neg hb] at hv
      by_cases hba : b < a
      · rw [if_pos hba] at hv
        go_wp2_with fail
        rw [rounds_succ]
        by_cases hc : c ≤ f
        · rw [if_pos hc] at hv
          subst hv
          go_wp2_with fail
          go_ret
          exact ⟨rfl, HB.out⟩
        · rw [if_neg hc] at hv
          by_cases hcb : c < b
          · rw [if_pos hcb] at hv
            subst hv
            go_wp2_with fail
            rw [rounds_succ]
            go_wp2_with fail
            go_ret
            exact ⟨rfl, HB.out⟩
          · rw [if_neg hcb] at hv
            subst hv
            go_wp2_with fail
            rw [rounds_succ]
            go_wp2_with fail
            go_ret
            exact ⟨rfl, HB.out⟩
      · rw [if_neg hba] at hv
        go_wp2_with fail
        rw [rounds_succ]
        by_cases hc : c ≤ f
        · rw [if_pos hc] at hv
          subst hv
          go_wp2_with fail
          go_ret
          exact ⟨rfl, HB.out⟩
        · rw [if_neg hc] at hv
          by_cases hca : c < a
          · rw [if_pos hca] at hv
            subst hv
            go_wp2_with fail
            rw [rounds_succ]
            go_wp2_with fail
            go_ret
            exact ⟨rfl, HB.out⟩
          · rw [if_neg hca] at hv
            subst hv
            go_wp2_with fail
            rw [rounds_succ]
            go_wp2_with fail
            go_ret
            exact ⟨rfl, HB.out⟩

set_option maxHeartbeats 3200000 in
theorem rbest_any (f a b c r0 r1 r2 : Int) (w : World) :
    Calls Try.prog 6 #[.int .i64 f, .agg #[.int .i64 a, .int .i64 b, .int .i64 c, .int .i64 r0, .int .i64 r1, .int .i64 r2]] w fun e w' => e = .returned (.int .i64 (bestP f a b c)) ∧ Below w.heap.size w w' := by
  obtain ⟨v, hv⟩ : ∃ v, bestP f a b c = v := ⟨_, rfl⟩
  rw [hv]
  unfold bestP at hv
  have hX0 := Whole1.new w 28 #[.int .i64 a, .int .i64 b, .int .i64 c, .int .i64 r0, .int .i64 r1, .int .i64 r2]
  have hB0 : Below w.heap.size w (w.alloc (.cells #[.int .i64 a, .int .i64 b, .int .i64 c, .int .i64 r0, .int .i64 r1, .int .i64 r2] 28)) := (Below.refl _ _).alloc (Nat.le_refl _) _
  go_enter Try.func6, Try.ntmps6
  go_wp2_with fail
  generalize w.alloc (.cells #[.int .i64 a, .int .i64 b, .int .i64 c, .int .i64 r0, .int .i64 r1, .int .i64 r2] 28) = w1 at hX0 hB0 ⊢
  obtain ⟨g, hg⟩ : ∃ g, w.heap.size = g := ⟨_, rfl⟩
  have HB := hidden hB0
  rw [hg] at hX0 ⊢
  have HX := hidden hX0
  have c0 := hX0.cell 0
  have c1 := hX0.cell 1
  have c2 := hX0.cell 2
  clear hX0 hB0 hg
  refine wp_loop_rounds 4 ?_
  rw [rounds_succ]
  by_cases ha : a ≤ f
  · rw [if_pos ha] at hv
    subst hv
    go_wp2_with fail
    go_ret
    exact ⟨rfl, HB.out⟩
  · rw [if_neg ha] at hv
    go_wp2_with fail
    rw [rounds_succ]
    by_cases hb : b ≤ f
    · rw [if_pos hb] at hv
      subst hv
      go_wp2_with fail
      go_ret
      exact ⟨rfl, HB.out⟩
    · rw [if_neg hb] at hv
      go_wp2_with fail
      rw [rounds_succ]
      by_cases hc : c ≤ f
      · rw [if_pos hc] at hv
        subst hv
        go_wp2_with fail
        go_ret
        exact ⟨rfl, HB.out⟩
      · rw [if_neg hc] at hv
        go_wp2_with fail
        rw [rounds_succ]
        go_wp2_with fail
        refine wp_loop_rounds 3 ?_
        rw [rounds_succ]
        obtain ⟨w2, hw2⟩ : ∃ w2, w2 = w1 := ⟨_, rfl⟩
        rw [← hw2] at HX HB c0 c1 c2 ⊢
        clear hw2 ha hb hc
        have HX1 := hidden HX.out
        have HB1 := hidden HB.out
        clear HX HB
        by_cases hba : b < a
        · rw [if_pos hba] at hv
          by_cases hcb : c < b
          · rw [if_pos hcb] at hv
            subst hv
            go_wp2_with fail
            go_quiet (fail)
            have HX2 := hidden (HX1.out.drewN nq)
            have HB2 := hidden (below_drewN HB1.out nq)
            clear c0 c1 c2 HX1 HB1
            generalize w2.drewN nq = w3 at HX2 HB2 ⊢
            have c0 := HX2.out.cell 0
            have c1 := HX2.out.cell 1
            have c2 := HX2.out.cell 2
            go_wp2_with fail
            rw [rounds_succ]
            go_wp2_with fail
            go_quiet (fail)
            have HB3 := hidden (below_drewN HB2.out nq)
            generalize w3.drewN nq = w4 at HB3 ⊢
            clear c0 c1 c2 HX2 HB2
            go_wp2_with fail
            rw [rounds_succ]
            go_wp2_with fail
            go_ret
            exact ⟨rfl, HB3.out⟩
          · rw [if_neg hcb] at hv
            have hcb' : decide (c < b) = false := decide_eq_false hcb
            subst hv
            go_wp2_with fail
            go_quiet (fail)
            have HX2 := hidden (HX1.out.drewN nq)
            have HB2 := hidden (below_drewN HB1.out nq)
            clear c0 c1 c2 HX1 HB1
            generalize w2.drewN nq = w3 at HX2 HB2 ⊢
            have c0 := HX2.out.cell 0
            have c1 := HX2.out.cell 1
            have c2 := HX2.out.cell 2
            go_wp2_with fail
            rw [rounds_succ]
            go_wp2_with fail
            go_quiet (fail)
            have HB3 := hidden (below_drewN HB2.out nq)
            generalize w3.drewN nq = w4 at HB3 ⊢
            clear c0 c1 c2 HX2 HB2
            go_wp2_with fail
            rw [rounds_succ]
            go_wp2_with fail
            go_ret
            exact ⟨rfl, HB3.out⟩
        · rw [if_neg hba] at hv
          have hba' : decide (b < a) = false := decide_eq_false hba
          by_cases hca : c < a
          · rw [if_pos hca] at hv
            subst hv
            go_wp2_with fail
            go_quiet (fail)
            have HX2 := hidden (HX1.out.drewN nq)
            have HB2 := hidden (below_drewN HB1.out nq)
            clear c0 c1 c2 HX1 HB1
            generalize w2.drewN nq = w3 at HX2 HB2 ⊢
            have c0 := HX2.out.cell 0
            have c1 := HX2.out.cell 1
            have c2 := HX2.out.cell 2
            go_wp2_with fail
            rw [rounds_succ]
            go_wp2_with fail
            go_quiet (fail)
            have HB3 := hidden (below_drewN HB2.out nq)
            generalize w3.drewN nq = w4 at HB3 ⊢
            clear c0 c1 c2 HX2 HB2
            go_wp2_with fail
            rw [rounds_succ]
            go_wp2_with fail
            go_ret
            exact ⟨rfl, HB3.out⟩
          · rw [if_neg hca] at hv
            have hca' : decide (c < a) = false := decide_eq_false hca
            subst hv
            go_wp2_with fail
            go_quiet (fail)
            have HX2 := hidden (HX1.out.drewN nq)
            have HB2 := hidden (below_drewN HB1.out nq)
            clear c0 c1 c2 HX1 HB1
            generalize w2.drewN nq = w3 at HX2 HB2 ⊢
            have c0 := HX2.out.cell 0
            have c1 := HX2.out.cell 1
            have c2 := HX2.out.cell 2
            go_wp2_with fail
            rw [rounds_succ]
            go_wp2_with fail
            go_quiet (fail)
            have HB3 := hidden (below_drewN HB2.out nq)
            generalize w3.drewN nq = w4 at HB3 ⊢
            clear c0 c1 c2 HX2 HB2
            go_wp2_with fail
            rw [rounds_succ]
            go_wp2_with fail
            go_ret
            exact ⟨rfl, HB3.out⟩
end Go.Proofs.Ytcndncklgbeloaa
