/- The law's helper infos: what it returns. Condition: the row is within the reach. -/
import Derived.Test.YtohocdbneopooaaPlanPlan
namespace Go.Proofs.Ytohocdbneopooaa
set_option maxRecDepth 100000
open Go.Shelf Go.RowKit Go.Lib Go.Sort

theorem info_rinf : (Try.prog.info? 145).map (fun i => (i.zero, i.size, i.bytes)) = some (some (.agg #[.int .i64 0, .int .i64 0, .int .i64 0, .int .i64 0, .int .i64 0]), 5, 40) := by kernel_rfl

set_option maxHeartbeats 1600000 in
theorem infos_any (A : Option Addr) (n c : Nat) (l : List Inf) (w : World) (hr : Row w w.heap.size 5 A n (infCells l)) (hl : l.length = n) (hn : n * 40 ≤ 140737488351232) :
    Calls Try.prog 38 #[.slice A n c] w fun e w' => ∃ v, e = .returned v ∧ w'.ownsRow w.heap.size 145 5 v n (infCells l) ∧ RowKit.Below w.heap.size w w' := by
  obtain ⟨i0, hi, hz0, hz1, hz2⟩ := info_parts info_rinf
  have hL := hidden hl
  have HR := hidden hr
  clear hl hr
  go_enter Try.func38, Try.ntmps38
  go_wp2
  go_loopw [3, 8] (fun v i wr => ∃ k : Nat, k ≤ n ∧ i = .int .i64 k ∧ wr.ownsRow w.heap.size 145 5 v k (infCells (l.take k)) ∧ RowKit.Below w.heap.size w wr) (fun _ i _ => n - (intOf i).toNat)
  case atStart => exact ⟨0, Nat.zero_le _, rfl, World.ownsRow_nil _ _ _ _, RowKit.Below.refl _ _⟩
  case round =>
    obtain ⟨k, hk, rfl, hown, hb⟩ := hrel
    by_cases hlt : k < n
    · obtain ⟨gs, o, rfl, _, x, hx, d0, d1, d2, d3, d4⟩ := inf_cells_at HR.out hL.out hb k hlt
      have hT := hidden (take_snoc? hx)
      obtain ⟨x0, x1, x2, x3, x4⟩ := x
      simp only at d0 d1 d2 d3 d4
      have hbs := hb.size
      clear hx
      have hfr := Row.fresh (wr.alloc (Obj.cells #[.int .i64 x0, .int .i64 x1, .int .i64 x2, .int .i64 x3, .int .i64 x4] 71)) 145 5 1 [.int .i64 x0, .int .i64 x1, .int .i64 x2, .int .i64 x3, .int .i64 x4] rfl
      rw [World.size_alloc] at hfr
      go_wp2_with (at_builtin; refine wpList_app _ rfl _ _ 74 rfl w.heap.size 145 i0 _ 5 40 Try.underlying74 hi hz0 hz1 hz2 rfl (by decide) _ _ _ rfl ((hown.alloc _).alloc _) _ _ _ _ _ rfl hfr (by simp [Value.oneCell']) (by unfold maxLen; omega) (by omega) (by simp; omega) ?_; intro v1 w1 hown1 hg1 hat1)
      go_roundw
      case rel =>
        refine ⟨k + 1, by omega, by go_num, ?_, ((hb.alloc hbs _).alloc (by simp; omega) _).grown hg1 (by simp; omega) (fun q hq => (hown.lt q hq).1)⟩
        rw [hT.out, infCells_snoc]; exact hown1
      case measure => simp [intOf]; omega
    · obtain rfl : n = k := by omega
      rw [List.take_of_length_le (by rw [hL.out]; exact Nat.le_refl _)] at hown
      go_wp2
      go_ret
      exact ⟨_, rfl, hown, hb⟩

set_option maxHeartbeats 1600000 in
theorem before_any (x0 x1 x2 x3 x4 y0 y1 y2 y3 y4 : Int) (w : World) :
    Calls Try.prog 128 #[.agg #[.int .i64 x0, .int .i64 x1, .int .i64 x2, .int .i64 x3, .int .i64 x4], .agg #[.int .i64 y0, .int .i64 y1, .int .i64 y2, .int .i64 y3, .int .i64 y4]] w fun e w' => e = .returned (.bool (ltK (x2, x3, x0) (y2, y3, y0))) ∧ ∃ q os', w' = grow (w.drewN q) os' := by
  have hg : Hid (∀ c d : Obj, (w.alloc c).alloc d = grow (w.drewN 0) #[c, d]) := hidden (fun c d => by simp only [alloc_eq_grow, grow_grow]; rfl)
  by_cases h1 : x2 = y2
  · have t1 : ((x2 != y2) : Bool) = false := by simp [h1]
    by_cases h2 : x3 = y3
    · have t2 : ((x3 != y3) : Bool) = false := by simp [h2]
      have hk := hidden (show ltK (x2, x3, x0) (y2, y3, y0) = decide (x0 < y0) by unfold ltK; simp [h1, h2])
      clear h1 h2
      go_enter Try.func128, Try.ntmps128
      go_wp2
      go_ret
      exact ⟨ret_bool hk.out.symm, 0, _, hg.out _ _⟩
    · have t2 : ((x3 != y3) : Bool) = true := by simp [h2]
      have hk := hidden (show ltK (x2, x3, x0) (y2, y3, y0) = decide (x3 < y3) by unfold ltK; simp [h1, h2])
      clear h1 h2
      go_enter Try.func128, Try.ntmps128
      go_wp2
      go_ret
      exact ⟨ret_bool hk.out.symm, 0, _, hg.out _ _⟩
  · have t1 : ((x2 != y2) : Bool) = true := by simp [h1]
    have hk := hidden (show ltK (x2, x3, x0) (y2, y3, y0) = decide (x2 < y2) by unfold ltK; simp [h1])
    clear h1
    go_enter Try.func128, Try.ntmps128
    go_wp2
    go_ret
    exact ⟨ret_bool hk.out.symm, 0, _, hg.out _ _⟩
end Go.Proofs.Ytohocdbneopooaa
