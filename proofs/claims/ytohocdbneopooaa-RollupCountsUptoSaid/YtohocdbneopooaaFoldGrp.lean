/- Merge over windows: what it returns. Condition: the windows' bits fit 64 bits, the list is no longer than 2^62. The reference's Merge: what it returns. Condition: the windows' bits fit 64 bits; the row is within the reach. Grouping by windows, plainly: the first error of a list, and its groups; the two ways to group are one. And the four small functions that grouped is handed. No condition. -/
import Derived.Test.YtohocdbneopooaaFoldRFold
import Derived.Test.YtohocdbneopooaaFoldArgs
import Derived.StillTailTactics
import Derived.Test.YtohocdbneopooaaBase
import Derived.BigRegion
namespace Go.Proofs.Ytohocdbneopooaa
set_option maxRecDepth 100000
open Go.RowKit

theorem still_of {P : Program} {f : FuncId} {args : Array Value} {w : World} {v : Value} (h : Calls P f args w fun e w' => e = .returned v ∧ w = w') : Calls P f args w fun e w' => e = .returned v ∧ w' = w :=
  h.mono fun _ _ ⟨he, hw⟩ => ⟨he, hw.symm⟩

/-- A region that draws its order: reads and quiet calls ahead of a forced tail. -/
theorem region_tail {P : Program} {id : Nat} {Q : Exit → Act → World → Prop} {a : Act} {w : World} {l : List Oper} (n : Nat) (hm : P.follows .mixedOrders = true) (hB : Region.lexTailB .any l.toArray n = true)
    (h : wpStill P l.toArray w.drew (fun a' => wpList P l.toArray Q (l.drop n) a' w.drew) (l.take n) a) : (Code.region id l.toArray true).wp P Q a w :=
  wp_region_still_tail n hm hB h

def liveW (l : List Win) : List Win := l.filter fun x => x.count != 0
def cntOf (l : List Win) : Int := (liveW l).foldl (fun a x => wrap64 (a + x.count)) 0
def lastOfW (l : List Win) : Nat := match (liveW l).getLast? with | some x => x.last | none => 0
def Win.three (x : Win) : Nat × Nat × Nat := (x.sum, x.min, x.max)

theorem liveW_snoc (l : List Win) (x : Win) : liveW (l ++ [x]) = if x.count = 0 then liveW l else liveW l ++ [x] := by
  unfold liveW
  rw [List.filter_append]
  by_cases h : x.count = 0 <;> simp [h]

theorem live_zero (l : List Win) (x : Win) (h : x.count = 0) : liveW (l ++ [x]) = liveW l ∧ cntOf (l ++ [x]) = cntOf l ∧ lastOfW (l ++ [x]) = lastOfW l := by
  have := liveW_snoc l x
  rw [if_pos h] at this
  exact ⟨this, by unfold cntOf; rw [this], by unfold lastOfW; rw [this]⟩
theorem live_some (l : List Win) (x : Win) (h : ¬ x.count = 0) : liveW (l ++ [x]) = liveW l ++ [x] ∧ cntOf (l ++ [x]) = wrap64 (cntOf l + x.count) ∧ lastOfW (l ++ [x]) = x.last := by
  have := liveW_snoc l x
  rw [if_neg h] at this
  exact ⟨this, by unfold cntOf; rw [this]; simp, by unfold lastOfW; rw [this]; simp⟩

theorem liveW_le (l : List Win) : (liveW l).length ≤ l.length := List.length_filter_le _ _
theorem live_bits {l : List Win} (h : ∀ x ∈ l, x.ok) (k : Nat) : ∀ x ∈ (liveW (l.take k)).map Win.three, x.2.1 < 18446744073709551616 ∧ x.2.2 < 18446744073709551616 := by
  intro x hx
  obtain ⟨s, hs, rfl⟩ := List.mem_map.1 hx
  have := h s (List.mem_of_mem_take (List.mem_filter.1 hs).1)
  exact ⟨this.2.2.1, this.2.2.2.1⟩


set_option maxHeartbeats 1600000 in
theorem merge_any (start : Int) (A : Option Addr) (n cap : Nat) (l : List Win) (w : World) (hr : Row w w.heap.size 6 A n (winCells l)) (hl : l.length = n) (hn : n ≤ 4611686018427387904) (hok : ∀ s ∈ l, s.ok) :
    Calls Try.prog 100 #[.int .i64 start, .slice A n cap] w
      fun e w' => ∃ f, Folded ((liveW l).map Win.three) f ∧ e = .returned (.agg (f.window start (cntOf l) (lastOfW l)).cells.toArray) ∧ Below w.heap.size w w' := by
  go_enter Try.func100, Try.ntmps100
  go_wp2
  go_loopw [6, 7, 12] (fun cnt last i wr => ∃ k : Nat, k ≤ n ∧ i = .int .i64 k ∧ cnt = .int .i64 (cntOf (l.take k)) ∧ last = .int .u64 (lastOfW (l.take k) : Nat) ∧ (∃ f, Folded ((liveW (l.take k)).map Win.three) f ∧ Whole1 wr (w.heap.size + 1) 184 f.cells) ∧ Whole1 wr w.heap.size 88 zeroWin ∧ Below w.heap.size w wr) (fun _ _ i _ => n - (intOf i).toNat)
  case atStart =>
    refine ⟨0, Nat.zero_le _, rfl, rfl, rfl, ⟨Fd.zero, .nil, ?_⟩, (Whole1.new _ _ _).alloc _, ((Below.refl _ _).alloc (Nat.le_refl _) _).alloc (by simp) _⟩
    have h := Whole1.new (w.alloc (Obj.cells zeroWin 88)) 184 Fd.zero.cells
    simp only [World.size_alloc] at h
    exact h
  case round =>
    obtain ⟨k, hk, rfl, rfl, rfl, ⟨f, hf, hw⟩, hz, hb⟩ := hrel
    have hfn := hf.n
    have hfb := hf.bits (live_bits hok k)
    have hll := liveW_le (l.take k)
    rw [List.length_map] at hfn
    rw [List.length_take, hl, Nat.min_eq_left hk] at hll
    have hfn1 : 0 ≤ f.n := by omega
    have hfn2 : f.n ≤ 4611686018427387904 := by omega
    clear hfn hll
    by_cases hlt : k < n
    · obtain ⟨gs, o, rfl, hgs, x, hx, c0, c1, c2, c3, c4, c5⟩ := win_cells_at hr hl hb k hlt
      have hT := hidden (take_snoc? hx)
      have hL := hidden hl
      have hxo := hok x (List.mem_of_getElem? hx)
      have hgw : gs < wr.heap.size := by have := hb.size; omega
      clear hl hx hok hr
      obtain ⟨x0, x1, x2, x3, x4, x5⟩ := x
      obtain ⟨⟨hx1, hx1'⟩, hx2, hx3, hx4, hx5⟩ := hxo
      simp only at c0 c1 c2 c3 c4 c5 hx1 hx1' hx2 hx3 hx4 hx5
      by_cases h0 : x1 = 0
      · subst h0
        have hz0 : ((0 : Int) != 0) = false := rfl
        go_wp2
        go_roundw
        case rel =>
          obtain ⟨e1, e2, e3⟩ := live_zero (l.take k) ⟨x0, 0, x2, x3, x4, x5⟩ rfl
          refine ⟨k + 1, by omega, by go_num, ?_, ?_, ⟨f, ?_, hw.alloc _⟩, hz.alloc _, hb.alloc hb.size _⟩
          · rw [hT.out, e2]
          · rw [hT.out, e3]
          · rw [hT.out, e1]; exact hf
        case measure => simp [intOf]; omega
      · have hz0 : (x1 != 0) = true := by simp [h0]
        have H0 := hidden h0
        clear h0
        go_upto_region 7 with (fail)
        have hxb : Whole1 (wr.alloc (Obj.cells #[.int .i64 x0, .int .i64 x1, .int .u64 (x2 : Nat), .int .u64 (x3 : Nat), .int .u64 (x4 : Nat), .int .u64 (x5 : Nat)] 88)) wr.heap.size 88 #[.int .i64 x0, .int .i64 x1, .int .u64 (x2 : Nat), .int .u64 (x3 : Nat), .int .u64 (x4 : Nat), .int .u64 (x5 : Nat)] := Whole1.new _ _ _
        have hw1 := hw.alloc (Obj.cells #[.int .i64 x0, .int .i64 x1, .int .u64 (x2 : Nat), .int .u64 (x3 : Nat), .int .u64 (x4 : Nat), .int .u64 (x5 : Nat)] 88)
        have hz1 := hz.alloc (Obj.cells #[.int .i64 x0, .int .i64 x1, .int .u64 (x2 : Nat), .int .u64 (x3 : Nat), .int .u64 (x4 : Nat), .int .u64 (x5 : Nat)] 88)
        have hb1 := hb.alloc hb.size (Obj.cells #[.int .i64 x0, .int .i64 x1, .int .u64 (x2 : Nat), .int .u64 (x3 : Nat), .int .u64 (x4 : Nat), .int .u64 (x5 : Nat)] 88)
        have hne : w.heap.size + 1 ≠ wr.heap.size := by have := hw.lt; omega
        have hne0 : w.heap.size ≠ wr.heap.size := by have := hw.lt; omega
        clear hw hz hb c0 c1 c2 c3 c4 c5
        generalize wr.alloc _ = w1 at hxb hw1 hz1 hb1 ⊢
        have d1 : w1.cell? ⟨wr.heap.size, 1, none⟩ = some (.int .i64 x1) := hxb.cell 1
        have d2 : w1.cell? ⟨wr.heap.size, 2, none⟩ = some (.int .u64 (x2 : Nat)) := hxb.cell 2
        have d3 : w1.cell? ⟨wr.heap.size, 3, none⟩ = some (.int .u64 (x3 : Nat)) := hxb.cell 3
        have d4 : w1.cell? ⟨wr.heap.size, 4, none⟩ = some (.int .u64 (x4 : Nat)) := hxb.cell 4
        have d5 : w1.cell? ⟨wr.heap.size, 5, none⟩ = some (.int .u64 (x5 : Nat)) := hxb.cell 5
        refine region_tail 9 (by kernel_rfl) (by kernel_rfl) ?_
        simp only [List.take_succ_cons, List.take_zero, List.drop_succ_cons, List.drop_zero]
        still_step
        still_step
        still_call (still_of (float_any _ _))
        still_step
        still_step
        still_call (still_of (float_any _ _))
        still_step
        still_step
        still_call (still_of (float_any _ _))
        refine wpStill_nil ?_
        have hw2 := hw1.drew
        have hz2 := hz1.drew
        have hb2 := hb1.drew
        have hxb2 := hxb.drew
        have hs2 : w.heap.size ≤ w1.drew.heap.size := hb1.size
        clear hw1 hz1 hb1 hxb d1 d2 d3 d4 d5
        generalize w1.drew = w2 at hw2 hz2 hb2 hxb2 hs2 ⊢
        go_wp2_with fail
        refine (add_any f _ _ _ _ _ hw2 hfn1 hfn2 hx3 hx4 hfb.1 hfb.2).mono ?_
        rintro e w3 ⟨rfl, r, hsum, hw3, hg3⟩
        have hx3' := hxb2.grown hg3 (by simp; omega)
        have d1 : w3.cell? ⟨wr.heap.size, 1, none⟩ = some (.int .i64 x1) := hx3'.cell 1
        have d5 : w3.cell? ⟨wr.heap.size, 5, none⟩ = some (.int .u64 (x5 : Nat)) := hx3'.cell 5
        have hb3 : Hid (Below w.heap.size w w3) := below_gb hb2 hg3 hs2 (by omega)
        have hz3 := hidden (hz2.grown hg3 (by simp))
        have hF := hidden (hf.snoc (a := x3) (b := x4) hsum)
        have hw3' := hidden hw3
        obtain ⟨e1, e2, e3⟩ := live_some (l.take k) ⟨x0, x1, x2, x3, x4, x5⟩ H0.out
        have E1 := hidden e1
        have E2 := hidden e2
        have E3 := hidden e3
        clear hw2 hz2 hb2 hxb2 hs2 hg3 hsum hf hw3 hx3' e1 e2 e3
        go_wp2_with fail
        go_quiet (fail)
        go_wp2
        go_roundw
        case rel =>
          refine ⟨k + 1, by omega, by go_num, ?_, ?_, ⟨_, ?_, hw3'.out.drewN _⟩, hz3.out.drewN _, below_drewN hb3.out _⟩
          · rw [hT.out, E2.out]
          · rw [hT.out, E3.out]
          · rw [hT.out, E1.out, List.map_append]; exact hF.out
        case measure => simp [intOf]; omega
    · obtain rfl : k = n := by omega
      have hL := hidden hl
      clear hl hr hok
      obtain ⟨W, hW⟩ : ∃ W, f.window start (cntOf (l.take k)) (lastOfW (l.take k)) = W := ⟨_, rfl⟩
      have hW0 := hidden hW
      go_wp2_with (fail)
      refine (window_any f _ _ _ _ _ hw).mono ?_
      rintro e w1 ⟨rfl, hb1⟩
      rw [hW]
      clear hW
      obtain ⟨x0, x1, x2, x3, x4, x5⟩ := W
      rw [show (Win.mk x0 x1 x2 x3 x4 x5).cells.toArray = #[.int .i64 x0, .int .i64 x1, .int .u64 (x2 : Nat), .int .u64 (x3 : Nat), .int .u64 (x4 : Nat), .int .u64 (x5 : Nat)] from rfl]
      have hz1 := hz.below hb1 hz.lt
      have d0 : w1.cell? ⟨w.heap.size, 0, none⟩ = some (.int .i64 0) := hz1.cell 0
      have d1 : w1.cell? ⟨w.heap.size, 1, none⟩ = some (.int .i64 0) := hz1.cell 1
      have d2 : w1.cell? ⟨w.heap.size, 2, none⟩ = some (.int .u64 0) := hz1.cell 2
      have d3 : w1.cell? ⟨w.heap.size, 3, none⟩ = some (.int .u64 0) := hz1.cell 3
      have d4 : w1.cell? ⟨w.heap.size, 4, none⟩ = some (.int .u64 0) := hz1.cell 4
      have d5 : w1.cell? ⟨w.heap.size, 5, none⟩ = some (.int .u64 0) := hz1.cell 5
      have e0 := hz1.free 0
      have e1 := hz1.free 1
      have e2 := hz1.free 2
      have e3 := hz1.free 3
      have e4 := hz1.free 4
      have e5 := hz1.free 5
      go_wp2
      have hF := put6 hz1 (.int .i64 x0) (.int .i64 x1) (.int .u64 (x2 : Nat)) (.int .u64 (x3 : Nat)) (.int .u64 (x4 : Nat)) (.int .u64 (x5 : Nat))
      have hbF := below6 (hb.trans (hb1.mono hb.size)) (Nat.le_refl _) (.int .i64 x0) (.int .i64 x1) (.int .u64 (x2 : Nat)) (.int .u64 (x3 : Nat)) (.int .u64 (x4 : Nat)) (.int .u64 (x5 : Nat))
      clear d0 d1 d2 d3 d4 d5 e0 e1 e2 e3 e4 e5
      generalize World.setCell _ _ _ = wF at hF hbF ⊢
      have d0 : wF.cell? ⟨w.heap.size, 0, none⟩ = some (.int .i64 x0) := hF.cell 0
      have d1 : wF.cell? ⟨w.heap.size, 1, none⟩ = some (.int .i64 x1) := hF.cell 1
      have d2 : wF.cell? ⟨w.heap.size, 2, none⟩ = some (.int .u64 (x2 : Nat)) := hF.cell 2
      have d3 : wF.cell? ⟨w.heap.size, 3, none⟩ = some (.int .u64 (x3 : Nat)) := hF.cell 3
      have d4 : wF.cell? ⟨w.heap.size, 4, none⟩ = some (.int .u64 (x4 : Nat)) := hF.cell 4
      have d5 : wF.cell? ⟨w.heap.size, 5, none⟩ = some (.int .u64 (x5 : Nat)) := hF.cell 5
      refine bodyPost_ret (v := .agg #[.int .i64 x0, .int .i64 x1, .int .u64 (x2 : Nat), .int .u64 (x3 : Nat), .int .u64 (x4 : Nat), .int .u64 (x5 : Nat)]) (by simp [results, Try.results100, go_sem, d0, d1, d2, d3, d4, d5]) rfl ⟨f, ?_, ?_, hbF⟩
      · rw [List.take_of_length_le (by rw [hL.out]; exact Nat.le_refl _)] at hf; exact hf
      · have hW := hW0.out
        rw [List.take_of_length_le (by rw [hL.out]; exact Nat.le_refl _)] at hW
        rw [hW]; rfl

end Go.Proofs.Ytohocdbneopooaa

namespace Go.Proofs.Ytohocdbneopooaa
set_option maxRecDepth 100000
open Go.RowKit

def mergeWin (start : Int) (l : List Win) : Win := refWin start (cntOf l) (lastOfW l) ((liveW l).map Win.sum) ((liveW l).map Win.min) ((liveW l).map Win.max)

def accWin (start cnt : Int) (last : Nat) : Array Value := #[.int .i64 start, .int .i64 cnt, .int .u64 0, .int .u64 0, .int .u64 0, .int .u64 (last : Nat)]

set_option maxHeartbeats 3200000 in
theorem rmerge_any (start : Int) (A : Option Addr) (n cap : Nat) (l : List Win) (w : World) (hr : Row w w.heap.size 6 A n (winCells l)) (hl : l.length = n) (hn : n * 48 ≤ 140737488351232) (hok : ∀ s ∈ l, s.ok) :
    Calls Try.prog 101 #[.int .i64 start, .slice A n cap] w
      fun e w' => e = .returned (.agg (mergeWin start l).cells.toArray) ∧ Below w.heap.size w w' := by
  obtain ⟨i0, hi, iz0, iz1, iz2⟩ := info_parts info_u64
  have hL := hidden hl
  go_enter Try.func101, Try.ntmps101
  go_wp2
  go_loopw [6, 7, 8, 9] (fun v1 v2 v3 i wr => ∃ k : Nat, k ≤ n ∧ i = .int .i64 k ∧
      wr.ownsRow (w.heap.size + 2) 53 1 v1 (liveW (l.take k)).length (u64s ((liveW (l.take k)).map Win.sum)) ∧ wr.ownsRow (w.heap.size + 2) 53 1 v2 (liveW (l.take k)).length (u64s ((liveW (l.take k)).map Win.min)) ∧ wr.ownsRow (w.heap.size + 2) 53 1 v3 (liveW (l.take k)).length (u64s ((liveW (l.take k)).map Win.max)) ∧
      Apart v1 v2 ∧ Apart v1 v3 ∧ Apart v2 v3 ∧ Whole1 wr w.heap.size 89 zeroWin ∧ Whole1 wr (w.heap.size + 1) 89 (accWin start (cntOf (l.take k)) (lastOfW (l.take k))) ∧ Below w.heap.size w wr ∧ w.heap.size + 2 ≤ wr.heap.size) (fun _ _ _ i _ => n - (intOf i).toNat)
  case atStart =>
    refine ⟨0, Nat.zero_le _, rfl, World.ownsRow_nil _ _ _ _, World.ownsRow_nil _ _ _ _, World.ownsRow_nil _ _ _ _, Apart.nil_left, Apart.nil_left, Apart.nil_left, (Whole1.new _ _ _).alloc _, ?_, ((Below.refl _ _).alloc (Nat.le_refl _) _).alloc (by simp) _, by simp⟩
    have h := Whole1.new (w.alloc (Obj.cells zeroWin 89)) 89 (accWin start 0 0)
    simp only [World.size_alloc] at h
    exact h
  case round =>
    obtain ⟨k, hk, rfl, ho1, ho2, ho3, a12, a13, a23, hz, hs, hb, hsz⟩ := hrel
    by_cases hlt : k < n
    · obtain ⟨gs, o, rfl, hgs, x, hx, c0, c1, c2, c3, c4, c5⟩ := win_cells_at hr hl hb k hlt
      have hT := hidden (take_snoc? hx)
      have hxo := hok x (List.mem_of_getElem? hx)
      have hgw : gs < wr.heap.size := by have := hb.size; omega
      have hll := liveW_le (l.take k)
      rw [List.length_take, hl, Nat.min_eq_left hk] at hll
      clear hl hx
      obtain ⟨x0, x1, x2, x3, x4, x5⟩ := x
      obtain ⟨⟨hx1, hx1'⟩, hx2, hx3, hx4, hx5⟩ := hxo
      simp only at c0 c1 c2 c3 c4 c5 hx1 hx1' hx2 hx3 hx4 hx5
      by_cases h0 : x1 = 0
      · subst h0
        have hz0 : ((0 : Int) == 0) = true := rfl
        go_wp2
        go_roundw
        case rel =>
          obtain ⟨e1, e2, e3⟩ := live_zero (l.take k) ⟨x0, 0, x2, x3, x4, x5⟩ rfl
          refine ⟨k + 1, by omega, by go_num, ?_⟩
          rw [hT.out, e1, e2, e3]
          exact ⟨ho1, ho2, ho3, a12, a13, a23, hz, hs, hb, hsz⟩
        case measure => simp [intOf]; omega
      · have hz0 : (x1 == 0) = false := by simp [h0]
        obtain ⟨e1, e2, e3⟩ := live_some (l.take k) ⟨x0, x1, x2, x3, x4, x5⟩ h0
        have E1 := hidden e1
        have E2 := hidden e2
        have E3 := hidden e3
        have H0 := hidden h0
        clear h0 e1 e2 e3
        have q1 : wr.cell? ⟨w.heap.size + 1, 1, none⟩ = some (.int .i64 (cntOf (l.take k))) := hs.cell 1
        have q5 : wr.cell? ⟨w.heap.size + 1, 5, none⟩ = some (.int .u64 (lastOfW (l.take k) : Nat)) := hs.cell 5
        have f1 := hs.free 1
        have f5 := hs.free 5
        have hne : gs ≠ w.heap.size + 1 := by omega
        have hk0 : (0 : Int) ≤ (k : Int) := by omega
        have hkn : (k : Int) < (n : Int) := by omega
        go_upto_region 9 with (fail)
        go_cut [] (fun wx => Whole1 wx (w.heap.size + 1) 89 (accWin start (wrap64 (cntOf (l.take k) + x1)) (lastOfW (l.take k))) ∧ wr.grownBy wx (some (w.heap.size + 1)))
        case first =>
          go_region
          go_wp2_with fail
          go_meet
          exact ⟨(hs.put 1 _).drew, gb_drew (gb_put (gb_refl _ _) _ _)⟩
        case rest =>
          obtain ⟨hs1, hg1⟩ := hcut
          have hblk : wc.heap[gs]? = wr.heap[gs]? := hg1.block gs hgw (by intro h; injection h with h; omega)
          have cc : ∀ j u, wr.cell? ⟨gs, j, none⟩ = some u → wc.cell? ⟨gs, j, none⟩ = some u := fun j u hu => (World.cell?_of_block (a := ⟨gs, j, none⟩) hblk).trans hu
          have b2 := hidden (cc _ _ c2)
          have b3 := hidden (cc _ _ c3)
          have b4 := hidden (cc _ _ c4)
          have b5 := cc _ _ c5
          have p1 := ho1.kept hg1 (.inr (fun h => own_ne ho1 (g := w.heap.size + 1) (by omega) h.symm))
          have p2 := ho2.kept hg1 (.inr (fun h => own_ne ho2 (g := w.heap.size + 1) (by omega) h.symm))
          have p3 := ho3.kept hg1 (.inr (fun h => own_ne ho3 (g := w.heap.size + 1) (by omega) h.symm))
          have hz1' := hidden (hz.grown hg1 (by simp))
          have hbb := hidden (below_gb hb hg1 hb.size (by omega))
          have hsz1 := hg1.size
          have d5 : wc.cell? ⟨w.heap.size + 1, 5, none⟩ = some (.int .u64 (lastOfW (l.take k) : Nat)) := hs1.cell 5
          have g5 := hs1.free 5
          have P1 := hidden p1
          have P2 := hidden p2
          have P3 := hidden p3
          have S1 := hidden hs1
          clear c0 c1 c2 c3 c4 c5 q1 q5 f1 f5 cc hblk ho1 ho2 ho3 hz hs hb p1 p2 p3 hs1 hr hg1
          go_upto_region 11 with (fail)
          have S2 : Whole1 _ (w.heap.size + 1) 89 (accWin start (wrap64 (cntOf (l.take k) + x1)) x5) := S1.out.put 5 (.int .u64 (x5 : Nat))
          have Z2 := hz1'.out.off (p := ⟨w.heap.size + 1, 5, none⟩) (by simp) (.int .u64 (x5 : Nat))
          have B2 := hbb.out.setCell (p := ⟨w.heap.size + 1, 5, none⟩) (by simp) (.int .u64 (x5 : Nat))
          have o1 := ownsRow_setCell_below P1.out (a := ⟨w.heap.size + 1, 5, none⟩) (by simp) (.int .u64 (x5 : Nat))
          have o2 := ownsRow_setCell_below P2.out (a := ⟨w.heap.size + 1, 5, none⟩) (by simp) (.int .u64 (x5 : Nat))
          have o3 := ownsRow_setCell_below P3.out (a := ⟨w.heap.size + 1, 5, none⟩) (by simp) (.int .u64 (x5 : Nat))
          have hnb : gs ≠ (⟨w.heap.size + 1, 5, none⟩ : Addr).block := by simp; omega
          have k2 : (wc.setCell ⟨w.heap.size + 1, 5, none⟩ (.int .u64 (x5 : Nat))).cell? ⟨gs, o + k * 6 + 2, none⟩ = some (.int .u64 (x2 : Nat)) := (World.cell?_of_block (Below.heap_setCell _ _ _ _ hnb)).trans b2.out
          have k3 : (wc.setCell ⟨w.heap.size + 1, 5, none⟩ (.int .u64 (x5 : Nat))).cell? ⟨gs, o + k * 6 + 3, none⟩ = some (.int .u64 (x3 : Nat)) := (World.cell?_of_block (Below.heap_setCell _ _ _ _ hnb)).trans b3.out
          have k4 : (wc.setCell ⟨w.heap.size + 1, 5, none⟩ (.int .u64 (x5 : Nat))).cell? ⟨gs, o + k * 6 + 4, none⟩ = some (.int .u64 (x4 : Nat)) := (World.cell?_of_block (Below.heap_setCell _ _ _ _ hnb)).trans b4.out
          have hsz2 : w.heap.size + 2 ≤ (wc.setCell ⟨w.heap.size + 1, 5, none⟩ (.int .u64 (x5 : Nat))).heap.size := by simp; omega
          clear b2 b3 b4 b5 P1 P2 P3 S1 hz1' hbb d5 g5 hnb
          generalize wc.setCell _ _ = w5 at S2 Z2 B2 o1 o2 o3 k2 k3 k4 hsz2 ⊢
          have fr1 := Row.fresh w5 53 1 1 [Value.int IntKind.u64 (x2 : Nat)] rfl
          have L3 := hidden k3
          have L4 := hidden k4
          clear k3 k4
          go_upto_region 12 with (at_builtin; refine wpList_app _ rfl _ _ 188 rfl (w.heap.size + 2) 53 i0 _ 1 8 Try.underlying188 hi iz0 iz1 iz2 rfl (by decide) _ _ _ rfl (o1.alloc _) _ _ _ _ _ rfl fr1 (by simp [Value.oneCell']) (by unfold maxLen; omega) (by omega) (by simp; omega) ?_; intro v1 w6 own1 hg6 hat6)
          have P1 := hidden own1
          have P2 := hidden (app_own hg6 a12 o2)
          have P3 := hidden (app_own hg6 a13 o3)
          have b12 := app_apart hat6 a12 o2
          have b13 := app_apart hat6 a13 o3
          have S6 := hidden (app_whole hg6 o1 S2 (by omega))
          have Z6 := hidden (app_whole hg6 o1 Z2 (by omega))
          have B6 := hidden (app_below hg6 o1 B2 (by omega) (by omega))
          have sz6 := app_size hg6
          have k3 := app_cell hg6 o1 L3.out (by omega)
          have k4 := hidden (app_cell hg6 o1 L4.out (by omega))
          have o2 := P2.out
          clear own1 hg6 hat6 o1 o3 S2 Z2 B2 L3 L4 k2 fr1 a12 a13 P2
          have fr2 := Row.fresh w6 53 1 1 [Value.int IntKind.u64 (x3 : Nat)] rfl
          go_upto_region 13 with (at_builtin; refine wpList_app _ rfl _ _ 188 rfl (w.heap.size + 2) 53 i0 _ 1 8 Try.underlying188 hi iz0 iz1 iz2 rfl (by decide) _ _ _ rfl (o2.alloc _) _ _ _ _ _ rfl fr2 (by simp [Value.oneCell']) (by unfold maxLen; omega) (by omega) (by simp; omega) ?_; intro v2 w7 own2 hg7 hat7)
          have Q1 := hidden (app_own hg7 b12.symm P1.out)
          have Q2 := hidden own2
          have Q3 := hidden (app_own hg7 a23 P3.out)
          have c12 := (app_apart hat7 b12.symm P1.out).symm
          have c23 := app_apart hat7 a23 P3.out
          have S7 := hidden (app_whole hg7 o2 S6.out (by omega))
          have Z7 := hidden (app_whole hg7 o2 Z6.out (by omega))
          have B7 := hidden (app_below hg7 o2 B6.out (by omega) (by omega))
          have sz7 := app_size hg7
          have k5 := app_cell hg7 o2 k4.out (by omega)
          have o3 := Q3.out
          clear own2 hg7 hat7 o2 S6 Z6 B6 k4 k3 fr2 b12 a23 P1 P3 Q3
          have fr3 := Row.fresh w7 53 1 1 [Value.int IntKind.u64 (x4 : Nat)] rfl
          go_wp2_with (at_builtin; refine wpList_app _ rfl _ _ 188 rfl (w.heap.size + 2) 53 i0 _ 1 8 Try.underlying188 hi iz0 iz1 iz2 rfl (by decide) _ _ _ rfl (o3.alloc _) _ _ _ _ _ rfl fr3 (by simp [Value.oneCell']) (by unfold maxLen; omega) (by omega) (by simp; omega) ?_; intro v3 w8 own3 hg8 hat8)
          go_roundw
          case rel =>
            refine ⟨k + 1, by omega, by go_num, ?_⟩
            rw [hT.out, E1.out, E2.out, E3.out]
            simp only [List.map_append, List.length_append, u64s]
            exact ⟨app_own hg8 b13.symm Q1.out, app_own hg8 c23.symm Q2.out, own3, c12, (app_apart hat8 b13.symm Q1.out).symm, (app_apart hat8 c23.symm Q2.out).symm, app_whole hg8 o3 Z7.out (by omega), app_whole hg8 o3 S7.out (by omega), app_below hg8 o3 B7.out (by omega) (by omega), by have := app_size hg8; omega⟩
          case measure => simp [intOf]; omega
    · obtain rfl : k = n := by omega
      rw [List.take_of_length_le (by rw [hl]; exact Nat.le_refl _)] at ho1 ho2 ho3 hs
      obtain ⟨A1, c1, rfl, hc1, hr1⟩ := own_shape ho1
      obtain ⟨A2, c2, rfl, hc2, hr2⟩ := own_shape ho2
      obtain ⟨A3, c3, rfl, hc3, hr3⟩ := own_shape ho3
      have hml : (liveW l).length ≤ k := by rw [← hl]; exact liveW_le l
      go_upto_if 65 with (fail)
      go_cut [] (fun wx => Whole1 wx w.heap.size 89 zeroWin ∧ Whole1 wx (w.heap.size + 1) 89 (mergeWin start l).cells.toArray ∧ Below w.heap.size w wx)
      case first =>
        have hbits : ∀ (g : Win → Nat), (∀ x ∈ l, g x < 18446744073709551616) → ∀ x ∈ (liveW l).map g, x < 18446744073709551616 := by
          intro g hg x hx
          obtain ⟨s, h1, rfl⟩ := List.mem_map.1 hx
          exact hg s (List.mem_filter.1 h1).1
        have v1 := hbits Win.sum (fun x hx => (hok x hx).2.1)
        have v2 := hbits Win.min (fun x hx => (hok x hx).2.2.1)
        have v3 := hbits Win.max (fun x hx => (hok x hx).2.2.2.1)
        have M1 : ((liveW l).map Win.sum).length = (liveW l).length := List.length_map _
        have M2 : ((liveW l).map Win.min).length = (liveW l).length := List.length_map _
        have M3 : ((liveW l).map Win.max).length = (liveW l).length := List.length_map _
        by_cases hk0 : (liveW l).length = 0
        · have hl0 : liveW l = [] := List.eq_nil_of_length_eq_zero hk0
          have hW : (mergeWin start l).cells.toArray = accWin start (cntOf l) (lastOfW l) := by
            have : mergeWin start l = ⟨start, 0, 0, 0, 0, 0⟩ := by unfold mergeWin refWin; rw [hl0]; exact if_pos rfl
            rw [this]
            have h1 : cntOf l = 0 := by unfold cntOf; rw [hl0]; rfl
            have h2 : lastOfW l = 0 := by unfold lastOfW; rw [hl0]; rfl
            rw [h1, h2]; rfl
          have hW0 := hidden hW
          have hk1 : ¬ (0 : Int) < ((liveW l).length : Int) := by omega
          clear hW hk0 hl0 M1 M2 M3 hl v1 v2 v3 hbits
          go_wp2
          go_meet
          exact ⟨hz, by rw [hW0.out]; exact hs, hb⟩
        · have hne : (liveW l).map Win.sum ≠ [] := by
            intro h
            rw [h] at M1
            exact hk0 M1.symm
          have hW : mergeWin start l = ⟨start, cntOf l, csum ((liveW l).map Win.sum), (leastOf ((liveW l).map Win.min)).2, (greatOf ((liveW l).map Win.max)).2, lastOfW l⟩ := if_neg hne
          have hW0 := hidden hW
          have hk1 : (0 : Int) < ((liveW l).length : Int) := by omega
          have hk2 : 1 ≤ (liveW l).length := by omega
          have hb0 := hidden hb
          clear hW hk0 hl hb hne hr
          generalize hm : (liveW l).length = m at *
          have hm0 := hidden hm
          clear hm
          have mk2 : m ≤ 4611686018427387904 := by omega
          go_wp2_with fail
          refine (rsum_any A1 m c1 _ wr _ hr1 M1 mk2 hk2 v1).mono ?_
          rintro e w1 ⟨r, hS, rfl, q, hq⟩
          have hcs : (if nanN r = true then 9221120237041090560 else r) = csum ((liveW l).map Win.sum) := hS.canon.2
          rw [hcs]
          have hown2 : w1.ownsRow (w.heap.size + 2) 53 1 (.slice A2 m c2) m (u64s ((liveW l).map Win.min)) := by rw [hq]; exact own_drewN ho2 q
          have hown3 : w1.ownsRow (w.heap.size + 2) 53 1 (.slice A3 m c3) m (u64s ((liveW l).map Win.max)) := by rw [hq]; exact own_drewN ho3 q
          have hz1 : Whole1 w1 w.heap.size 89 zeroWin := by rw [hq]; exact hz
          have hs1 : Whole1 w1 (w.heap.size + 1) 89 (accWin start (cntOf l) (lastOfW l)) := by rw [hq]; exact hs
          have hb1 : Hid (Below w.heap.size w w1) := by rw [hq]; exact below_drewN hb0.out q
          clear hq hcs hS ho1 ho2 ho3 hz hs hb0 hr1 hr2 hr3 a12 a13 a23
          have d2 : w1.cell? ⟨w.heap.size + 1, 2, none⟩ = some (.int .u64 0) := hs1.cell 2
          have d3 : w1.cell? ⟨w.heap.size + 1, 3, none⟩ = some (.int .u64 0) := hs1.cell 3
          have d4 : w1.cell? ⟨w.heap.size + 1, 4, none⟩ = some (.int .u64 0) := hs1.cell 4
          have e2 := hs1.free 2
          have e3 := hs1.free 3
          have e4 := hs1.free 4
          have hown2' := ownsRow_setCell_below hown2 (a := ⟨w.heap.size + 1, 2, none⟩) (by simp) (.int .u64 (csum ((liveW l).map Win.sum) : Nat))
          have hown3' := ownsRow_setCell_below (ownsRow_setCell_below hown3 (a := ⟨w.heap.size + 1, 2, none⟩) (by simp) (.int .u64 (csum ((liveW l).map Win.sum) : Nat))) (a := ⟨w.heap.size + 1, 3, none⟩) (by simp) (.int .u64 ((leastOf ((liveW l).map Win.min)).2 : Nat))
          go_wp2_with fail
          refine (rleast_any _ m c2 _ _ _ (Row.of_own hown2') M2 mk2 v2).mono ?_
          rintro e w2 ⟨rfl, rfl⟩
          go_wp2_with fail
          refine (rgreatest_any _ m c3 _ _ _ (Row.of_own hown3') M3 mk2 v3).mono ?_
          rintro e w2 ⟨rfl, rfl⟩
          go_wp2
          go_meet
          rw [hW0.out]
          refine ⟨((hz1.off (p := ⟨w.heap.size + 1, 2, none⟩) (by simp) _).off (p := ⟨w.heap.size + 1, 3, none⟩) (by simp) _).off (p := ⟨w.heap.size + 1, 4, none⟩) (by simp) _, ((hs1.put 2 _).put 3 _).put 4 _, ?_⟩
          exact ((hb1.out.setCell (p := ⟨w.heap.size + 1, 2, none⟩) (by simp) _).setCell (p := ⟨w.heap.size + 1, 3, none⟩) (by simp) _).setCell (p := ⟨w.heap.size + 1, 4, none⟩) (by simp) _
      case rest =>
        obtain ⟨hz2, hs2, hb2⟩ := hcut
        generalize hWW : mergeWin start l = W at hs2
        obtain ⟨x0, x1, x2, x3, x4, x5⟩ := W
        have hWW := hidden hWW
        have d0 : wc.cell? ⟨w.heap.size, 0, none⟩ = some (.int .i64 0) := hz2.cell 0
        have d1 : wc.cell? ⟨w.heap.size, 1, none⟩ = some (.int .i64 0) := hz2.cell 1
        have d2 : wc.cell? ⟨w.heap.size, 2, none⟩ = some (.int .u64 0) := hz2.cell 2
        have d3 : wc.cell? ⟨w.heap.size, 3, none⟩ = some (.int .u64 0) := hz2.cell 3
        have d4 : wc.cell? ⟨w.heap.size, 4, none⟩ = some (.int .u64 0) := hz2.cell 4
        have d5 : wc.cell? ⟨w.heap.size, 5, none⟩ = some (.int .u64 0) := hz2.cell 5
        have e0 := hz2.free 0
        have e1 := hz2.free 1
        have e2 := hz2.free 2
        have e3 := hz2.free 3
        have e4 := hz2.free 4
        have e5 := hz2.free 5
        have g0 : wc.cell? ⟨w.heap.size + 1, 0, none⟩ = some (.int .i64 x0) := hs2.cell 0
        have g1 : wc.cell? ⟨w.heap.size + 1, 1, none⟩ = some (.int .i64 x1) := hs2.cell 1
        have g2 : wc.cell? ⟨w.heap.size + 1, 2, none⟩ = some (.int .u64 (x2 : Nat)) := hs2.cell 2
        have g3 : wc.cell? ⟨w.heap.size + 1, 3, none⟩ = some (.int .u64 (x3 : Nat)) := hs2.cell 3
        have g4 : wc.cell? ⟨w.heap.size + 1, 4, none⟩ = some (.int .u64 (x4 : Nat)) := hs2.cell 4
        have g5 : wc.cell? ⟨w.heap.size + 1, 5, none⟩ = some (.int .u64 (x5 : Nat)) := hs2.cell 5
        clear ho1 ho2 ho3 hz hs hb hr1 hr2 hr3 a12 a13 a23 hl hr hok
        go_wp2
        have hF := put6 hz2 (.int .i64 x0) (.int .i64 x1) (.int .u64 (x2 : Nat)) (.int .u64 (x3 : Nat)) (.int .u64 (x4 : Nat)) (.int .u64 (x5 : Nat))
        have hbF := below6 hb2 (Nat.le_refl _) (.int .i64 x0) (.int .i64 x1) (.int .u64 (x2 : Nat)) (.int .u64 (x3 : Nat)) (.int .u64 (x4 : Nat)) (.int .u64 (x5 : Nat))
        clear d0 d1 d2 d3 d4 d5 e0 e1 e2 e3 e4 e5
        generalize World.setCell _ _ _ = wF at hF hbF ⊢
        have d0 : wF.cell? ⟨w.heap.size, 0, none⟩ = some (.int .i64 x0) := hF.cell 0
        have d1 : wF.cell? ⟨w.heap.size, 1, none⟩ = some (.int .i64 x1) := hF.cell 1
        have d2 : wF.cell? ⟨w.heap.size, 2, none⟩ = some (.int .u64 (x2 : Nat)) := hF.cell 2
        have d3 : wF.cell? ⟨w.heap.size, 3, none⟩ = some (.int .u64 (x3 : Nat)) := hF.cell 3
        have d4 : wF.cell? ⟨w.heap.size, 4, none⟩ = some (.int .u64 (x4 : Nat)) := hF.cell 4
        have d5 : wF.cell? ⟨w.heap.size, 5, none⟩ = some (.int .u64 (x5 : Nat)) := hF.cell 5
        refine bodyPost_ret (v := .agg #[.int .i64 x0, .int .i64 x1, .int .u64 (x2 : Nat), .int .u64 (x3 : Nat), .int .u64 (x4 : Nat), .int .u64 (x5 : Nat)]) (by simp [results, Try.results101, go_sem, d0, d1, d2, d3, d4, d5]) rfl ⟨?_, hbF⟩
        rw [hWW.out]; rfl

theorem merge_is {l : List Win} {f : Fd} (h : Folded ((liveW l).map Win.three) f) (hok : ∀ s ∈ l, s.ok) (start : Int) : f.window start (cntOf l) (lastOfW l) = mergeWin start l := by
  have := h.win (fun x hx => by
    obtain ⟨s, hs, rfl⟩ := List.mem_map.1 hx
    have := hok s (List.mem_filter.1 hs).1
    exact ⟨this.2.2.1, this.2.2.2.1⟩) start (cntOf l) (lastOfW l)
  rw [this]
  simp only [List.map_map, mergeWin]
  rfl

end Go.Proofs.Ytohocdbneopooaa

namespace Go.Proofs.Ytohocdbneopooaa
set_option maxRecDepth 100000
open Go.RowKit

set_option maxHeartbeats 400000 in
theorem sampleTime_any (x : Smp) (w : World) :
    Calls Try.prog 93 #[.agg #[.int .i64 x.t, .int .u64 (x.v : Nat)]] w fun e w' => e = .returned (.int .i64 x.t) ∧ Below w.heap.size w w' := by
  go_enter Try.func93, Try.ntmps93
  go_wp2
  go_ret
  exact ⟨rfl, (Below.refl _ _).alloc (Nat.le_refl _) _⟩

set_option maxHeartbeats 400000 in
theorem okSample_any (x : Smp) (w : World) :
    Calls Try.prog 94 #[.agg #[.int .i64 x.t, .int .u64 (x.v : Nat)]] w fun e w' => e = .returned (.int .i64 0) ∧ Below w.heap.size w w' := by
  go_enter Try.func94, Try.ntmps94
  go_wp2
  go_ret
  exact ⟨rfl, (Below.refl _ _).alloc (Nat.le_refl _) _⟩

set_option maxHeartbeats 400000 in
theorem windowTime_any (x : Win) (w : World) :
    Calls Try.prog 98 #[.agg #[.int .i64 x.start, .int .i64 x.count, .int .u64 (x.sum : Nat), .int .u64 (x.min : Nat), .int .u64 (x.max : Nat), .int .u64 (x.last : Nat)]] w fun e w' => e = .returned (.int .i64 x.start) ∧ Below w.heap.size w w' := by
  go_enter Try.func98, Try.ntmps98
  go_wp2
  go_ret
  exact ⟨rfl, (Below.refl _ _).alloc (Nat.le_refl _) _⟩

def badWin (x : Win) : Int := if x.count < 1 then 110 else 0

set_option maxHeartbeats 400000 in
theorem counted_any (x : Win) (w : World) :
    Calls Try.prog 99 #[.agg #[.int .i64 x.start, .int .i64 x.count, .int .u64 (x.sum : Nat), .int .u64 (x.min : Nat), .int .u64 (x.max : Nat), .int .u64 (x.last : Nat)]] w fun e w' => e = .returned (.int .i64 (badWin x)) ∧ Below w.heap.size w w' := by
  by_cases h : x.count < 1
  · have hb : Hid (badWin x = 110) := if_pos h
    go_enter Try.func99, Try.ntmps99
    go_wp2
    go_ret
    exact ⟨ret_int hb.out.symm, (Below.refl _ _).alloc (Nat.le_refl _) _⟩
  · have hb : Hid (badWin x = 0) := if_neg h
    go_enter Try.func99, Try.ntmps99
    go_wp2
    go_ret
    exact ⟨ret_int hb.out.symm, (Below.refl _ _).alloc (Nat.le_refl _) _⟩

/-! ### plain -/
section
variable {α : Type} (at_ : α → Int) (bad : α → Int) (d : Int)

/-- does the time at place k not rise? -/
def ordB (l : List α) (k : Nat) (t : Int) : Bool := match k with | 0 => false | j + 1 => match l[j]? with | some y => decide (t ≤ at_ y) | none => false

theorem ordB_succ {l : List α} {j : Nat} {y : α} (h : l[j]? = some y) (t : Int) : ordB at_ l (j + 1) t = decide (t ≤ at_ y) := by simp [ordB, h]

/-- The error at place k, if it is the first. -/
def stepErr (l : List α) (k : Nat) : Int :=
  match l[k]? with
  | none => 0
  | some x => if (beginOf (at_ x) d).2 ≠ 0 then (beginOf (at_ x) d).2 else if ordB at_ l k (at_ x) = true then 90 else bad x

theorem stepErr_eq {l : List α} {k : Nat} {x : α} (h : l[k]? = some x) {b e : Int} (hb : beginOf (at_ x) d = (b, e)) : stepErr at_ bad d l k = if e ≠ 0 then e else if ordB at_ l k (at_ x) = true then 90 else bad x := by
  unfold stepErr; rw [h]; simp only [hb]

/-- The list's first error. -/
def errOf (l : List α) : Int := if d < 1 ∨ 1099511627776 < d then 100 else (((List.range l.length).map (stepErr at_ bad d l)).find? (fun e => e != 0)).getD 0

theorem find_first {f : Nat → Int} : ∀ (n k : Nat), k < n → (∀ j, j < k → f j = 0) → f k ≠ 0 → (((List.range n).map f).find? (fun e => e != 0)) = some (f k) := by
  intro n
  induction n with
  | zero => intro k h; omega
  | succ n ih =>
    intro k hk h0 h1
    rw [List.range_succ, List.map_append, List.find?_append]
    rcases Nat.lt_or_ge k n with h | h
    · rw [ih k h h0 h1]; rfl
    · have : k = n := by omega
      subst this
      have hn : ((List.range k).map f).find? (fun e => e != 0) = none := by
        rw [List.find?_eq_none]
        intro x hx
        obtain ⟨j, hj, rfl⟩ := List.mem_map.1 hx
        simp [h0 j (List.mem_range.1 hj)]
      rw [hn]
      simp [h1]

theorem errOf_width (l : List α) (h : d < 1 ∨ 1099511627776 < d) : errOf at_ bad d l = 100 := if_pos h
theorem errOf_at {l : List α} {k : Nat} (hd : ¬(d < 1 ∨ 1099511627776 < d)) (hk : k < l.length) (h0 : ∀ j, j < k → stepErr at_ bad d l j = 0) (h1 : stepErr at_ bad d l k ≠ 0) : errOf at_ bad d l = stepErr at_ bad d l k := by
  unfold errOf; rw [if_neg hd, find_first _ _ hk h0 h1]; rfl
theorem errOf_none {l : List α} (hd : ¬(d < 1 ∨ 1099511627776 < d)) (h0 : ∀ j, j < l.length → stepErr at_ bad d l j = 0) : errOf at_ bad d l = 0 := by
  unfold errOf; rw [if_neg hd]
  have hn : ((List.range l.length).map (stepErr at_ bad d l)).find? (fun e => e != 0) = none := by
    rw [List.find?_eq_none]
    intro x hx
    obtain ⟨j, hj, rfl⟩ := List.mem_map.1 hx
    simp [h0 j (List.mem_range.1 hj)]
  rw [hn]; rfl

/-- What lies in one window with its neighbours, from the left: the groups that are closed, and the open one. -/
def grpStep (s : List (Int × List α) × List α × Int) (x : α) : List (Int × List α) × List α × Int :=
  if s.2.1 = [] then (s.1, [x], at_ x / d * d) else if at_ x / d * d = s.2.2 then (s.1, s.2.1 ++ [x], s.2.2) else (s.1 ++ [(s.2.2, s.2.1)], [x], at_ x / d * d)

def grpScan (l : List α) : List (Int × List α) × List α × Int := l.foldl (grpStep at_ d) ([], [], 0)

/-- The groups. -/
def groupsOf (l : List α) : List (Int × List α) := let s := grpScan at_ d l; if s.2.1 = [] then s.1 else s.1 ++ [(s.2.2, s.2.1)]

theorem grpScan_snoc (l : List α) (x : α) : grpScan at_ d (l ++ [x]) = grpStep at_ d (grpScan at_ d l) x := by simp [grpScan]

/-- the groups, put together, are the list; the open group is empty of an empty list alone -/
theorem grpScan_flat (l : List α) : ((grpScan at_ d l).1.flatMap (·.2)) ++ (grpScan at_ d l).2.1 = l ∧ ((grpScan at_ d l).2.1 = [] → l = []) := by
  suffices H : ∀ m : List α, ((grpScan at_ d m.reverse).1.flatMap (·.2)) ++ (grpScan at_ d m.reverse).2.1 = m.reverse ∧ ((grpScan at_ d m.reverse).2.1 = [] → m.reverse = []) by
    have := H l.reverse
    rwa [List.reverse_reverse] at this
  intro m
  induction m with
  | nil => exact ⟨rfl, fun _ => rfl⟩
  | cons x m ih =>
    rw [List.reverse_cons, grpScan_snoc]
    obtain ⟨h1, h2⟩ := ih
    generalize grpScan at_ d m.reverse = s at *
    obtain ⟨a, b, c⟩ := s
    simp only at h1 h2
    unfold grpStep
    by_cases hb : b = []
    · subst hb
      simp only [if_true]
      refine ⟨?_, fun h => by simp at h⟩
      have := h2 rfl
      rw [this] at h1 ⊢
      simpa using h1
    · simp only [hb, if_false]
      split
      · refine ⟨?_, fun h => by simp at h⟩
        simp only
        rw [← List.append_assoc, h1]
      · refine ⟨?_, fun h => by simp at h⟩
        simp only [List.flatMap_append, List.flatMap_cons, List.flatMap_nil, List.append_nil]
        rw [h1]

theorem grpScan_cur (l : List α) : (grpScan at_ d l).2.1.length ≤ l.length ∧ (grpScan at_ d l).2.1 = l.drop (l.length - (grpScan at_ d l).2.1.length) := by
  have h := (grpScan_flat at_ d l).1
  generalize (grpScan at_ d l).1.flatMap (·.2) = a at h
  generalize (grpScan at_ d l).2.1 = c at *
  subst h
  simp

theorem grp_count (l : List α) : (groupsOf at_ d l).length ≤ l.length := by
  suffices H : ∀ m : List α, (grpScan at_ d m.reverse).1.length + (if (grpScan at_ d m.reverse).2.1 = [] then 0 else 1) ≤ m.reverse.length by
    have := H l.reverse
    rw [List.reverse_reverse] at this
    unfold groupsOf
    simp only
    split
    · rename_i h; rw [if_pos h] at this; omega
    · rename_i h; rw [if_neg h] at this; rw [List.length_append, List.length_singleton]; omega
  intro m
  induction m with
  | nil => simp [grpScan]
  | cons x m ih =>
    rw [List.reverse_cons, grpScan_snoc, List.length_append, List.length_reverse]
    rw [List.length_reverse] at ih
    generalize grpScan at_ d m.reverse = s at *
    obtain ⟨a, b, c⟩ := s
    unfold grpStep
    simp only [List.length_cons, List.length_nil] at ih ⊢
    by_cases hb : b = []
    · simp only [hb, if_true] at ih ⊢; simp; omega
    · simp only [hb, if_false] at ih ⊢
      split
      · simp; omega
      · simp; omega
theorem grpScan_len (l : List α) : (grpScan at_ d l).1.length ≤ l.length := by
  have := grp_count at_ d l
  unfold groupsOf at this
  simp only at this
  split at this
  · exact this
  · rw [List.length_append] at this; omega
end
end Go.Proofs.Ytohocdbneopooaa
