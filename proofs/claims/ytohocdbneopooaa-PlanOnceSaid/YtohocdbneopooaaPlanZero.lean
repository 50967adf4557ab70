/- DeleteFunc and SortStableFunc at no block; the sort of a row of blocks. No condition but the reach. -/
import Derived.Test.YtohocdbneopooaaPlanKeys
namespace Go.Proofs.Ytohocdbneopooaa
set_option maxRecDepth 100000
open Go.Shelf Go.RowKit Go.Lib Go.Sort

set_option maxHeartbeats 1600000 in
theorem delete0_any (A : Option Addr) (c : Nat) (res : Int) (rb : Nat) (w : World) (hc : w.cell? ⟨rb, 0, none⟩ = some (.int .i64 res)) :
    Calls Try.prog 82 #[.slice A 0 c, .func (.func 84) #[] #[.pointer (some ⟨rb, 0, none⟩)]] w
      fun e w' => e = .returned (.slice A 0 c) ∧ RowKit.Below w.heap.size w w' := by
  have HIX := hidden (indexI_any A 0 c [] res rb w hc (row_zero rfl rfl) rfl (by omega))
  clear hc
  go_enter Try.func82, Try.ntmps82
  go_wp2_with fail
  refine HIX.out.mono ?_
  rintro e w1 ⟨r, rfl, hr, hb1⟩
  rcases hr with ⟨rfl, _⟩ | ⟨i0, x, _, hx, _⟩
  · clear HIX
    go_wp2
    go_ret
    exact ⟨rfl, hb1⟩
  · simp at hx

set_option maxHeartbeats 1600000 in
theorem ins0_any (A : Option Addr) (c : Nat) (fv : Value) (w : World) : Calls Try.prog 142 #[.slice A 0 c, .int .i64 0, .int .i64 0, fv] w fun e w' => e = .returned (.tuple #[]) ∧ w = w' := by
  go_enter Try.func142, Try.ntmps142
  go_wp2
  refine wp_loop_rounds 1 ?_
  rw [rounds_succ]
  go_wp2
  go_end0
  exact ⟨rfl, rfl⟩

set_option maxHeartbeats 1600000 in
theorem stable0_any (A : Option Addr) (c : Nat) (fv : Value) (w : World) : Calls Try.prog 124 #[.slice A 0 c, .int .i64 0, fv] w fun e w' => e = .returned (.tuple #[]) ∧ w = w' := by
  go_enter Try.func124, Try.ntmps124
  go_wp2_with fail
  refine wp_loop_rounds 1 ?_
  rw [rounds_succ]
  go_wp2_with fail
  refine (ins0_any A c fv _).mono ?_
  rintro e w' ⟨rfl, rfl⟩
  go_wp2_with fail
  refine wp_loop_rounds 1 ?_
  rw [rounds_succ]
  go_wp2
  go_end0
  exact ⟨rfl, rfl⟩

set_option maxHeartbeats 1600000 in
theorem sort0_any (A : Option Addr) (c : Nat) (fv : Value) (w : World) : Calls Try.prog 85 #[.slice A 0 c, fv] w fun e w' => e = .returned (.tuple #[]) ∧ w = w' := by
  go_enter Try.func85, Try.ntmps85
  go_wp2_with fail
  refine (stable0_any A c fv _).mono ?_
  rintro e w' ⟨rfl, rfl⟩
  go_wp2
  go_end0
  exact ⟨rfl, rfl⟩

/-- the sort, at a block known whole -/
theorem sortW_any (g c : Nat) (l : List Inf) (rest : List Value) (w : World) (h : Whole1 w g 71 (infCells l ++ rest).toArray) (hn : l.length * 40 ≤ 140737488351232) :
    Calls Try.prog 85 #[.slice (some ⟨g, 0, none⟩) l.length c, .func (.func 86) #[] #[]] w
      fun e w' => e = .returned (.tuple #[]) ∧ Row w' w'.heap.size 5 (some ⟨g, 0, none⟩) l.length (infCells (sortedI l)) ∧ w.grownBy w' (some g) := by
  have hc := sortInfo_any g 0 c (tag l) w (tag_row h) (by rw [tag_size]; omega)
  rw [tag_size] at hc
  refine hc.mono ?_
  rintro e w' ⟨rfl, hS⟩
  have hsz : (stable (ltOf tcf) l.length (tag l)).size = (tag l).size := by
    have := (stable_ok (lt := ltOf tcf) (R := ltOf tcf) swoT (tag l) (fun _ _ _ _ => rfl)).1.1
    rwa [tag_size] at this ⊢
  have hr := swk_row hS (tag_row h) hsz
  rw [hsz, tag_size, sortedI_cells] at hr
  exact ⟨rfl, hr, swk_gb hS⟩
end Go.Proofs.Ytohocdbneopooaa
