/- Merge over windows: what it returns. Condition: the windows' bits fit 64 bits, the list is no longer than 2^62. -/
import Derived.Test.YtohocdbneopooaaFoldRFold
import Derived.Test.YtohocdbneopooaaFoldArgs
import Derived.StillTailTactics
namespace Go.Proofs.Ytohocdbneopooaa
set_option maxRecDepth 100000
open Go.RowKit

theorem still_of {P : Program} {f : FuncId} {args : Array Value} {w : World} {v : Value} (h : Calls P f args w fun e w' => e = .returned v ∧ w = w') : Calls P f args w fun e w' => e = .returned v ∧ w' = w :=
  h.mono fun _ _ ⟨he, hw⟩ => ⟨he, hw.symm⟩

/-- A region that draws its order: reads and quiet calls ahead of a forced tail. -/
theorem region_tail {P : Program} {id : Nat} {Q : Exit → Act → World → Prop} {a : Act} {w : World} {l : List Oper} (n : Nat) (hm : P.follows .mixedOrders = true) (hB : Region.lexTailB .any l.toArray n = true)
    (h : wpStill P l.toArray w.drew (fun a' => wpList P l.toArray Q (l.drop n) a' w.drew) (l.take n) a) : (Code.region id l.toArray true).wp P Q a w :=
  wp_region_still_tail n hm hB h

def liveW (l : List Win) : List Win := l.filter fun x => x.count != 0
def cntOf (l : List Win) : Int := (liveW l).foldl (fun a x => wrap64 (a + x.count)) 0
def lastOfW (l : List Win) : Nat := match (liveW l).getLast? with | some x => x.last | none => 0
def Win.three (x : Win) : Nat × Nat × Nat := (x.sum, x.min, x.max)

theorem liveW_snoc (l : List Win) (x : Win) : liveW (l ++ [x]) = if x.count = 0 then liveW l else liveW l ++ [x] := by
  unfold liveW
  rw [List.filter_append]
  by_cases h : x.count = 0 <;> simp [h]

theorem live_zero (l : List Win) (x : Win) (h : x.count = 0) : liveW (l ++ [x]) = liveW l ∧ cntOf (l ++ [x]) = cntOf l ∧ lastOfW (l ++ [x]) = lastOfW l := by
  have := liveW_snoc l x
  rw [if_pos h] at this
  exact ⟨this, by unfold cntOf; rw [this], by unfold lastOfW; rw [this]⟩
theorem live_some (l : List Win) (x : Win) (h : ¬ x.count = 0) : liveW (l ++ [x]) = liveW l ++ [x] ∧ cntOf (l ++ [x]) = wrap64 (cntOf l + x.count) ∧ lastOfW (l ++ [x]) = x.last := by
  have := liveW_snoc l x
  rw [if_neg h] at this
  exact ⟨this, by unfold cntOf; rw [this]; simp, by unfold lastOfW; rw [this]; simp⟩

theorem liveW_le (l : List Win) : (liveW l).length ≤ l.length := List.length_filter_le _ _
theorem live_bits {l : List Win} (h : ∀ x ∈ l, x.ok) (k : Nat) : ∀ x ∈ (liveW (l.take k)).map Win.three, x.2.1 < 18446744073709551616 ∧ x.2.2 < 18446744073709551616 := by
  intro x hx
  obtain ⟨s, hs, rfl⟩ := List.mem_map.1 hx
  have := h s (List.mem_of_mem_take (List.mem_filter.1 hs).1)
  exact ⟨this.2.2.1, this.2.2.2.1⟩

theorem win_cells_at {w wr : World} {A : Option Addr} {n : Nat} {l : List Win} {B : Nat} (hr : Row w B 6 A n (winCells l)) (hl : l.length = n) (hb : Below B w wr) (k : Nat) (hk : k < n) :
    ∃ gs o, A = some ⟨gs, o, none⟩ ∧ gs < B ∧ ∃ x, l[k]? = some x ∧ wr.cell? ⟨gs, o + k * 6, none⟩ = some (.int .i64 x.start) ∧ wr.cell? ⟨gs, o + k * 6 + 1, none⟩ = some (.int .i64 x.count) ∧ wr.cell? ⟨gs, o + k * 6 + 2, none⟩ = some (.int .u64 (x.sum : Nat)) ∧
      wr.cell? ⟨gs, o + k * 6 + 3, none⟩ = some (.int .u64 (x.min : Nat)) ∧ wr.cell? ⟨gs, o + k * 6 + 4, none⟩ = some (.int .u64 (x.max : Nat)) ∧ wr.cell? ⟨gs, o + k * 6 + 5, none⟩ = some (.int .u64 (x.last : Nat)) := by
  obtain ⟨gs, o, rfl, hgs, hc⟩ := hr.at_ (by omega)
  have hkl : k < l.length := by omega
  have hs := winCells_at l k hkl
  have hx : ∀ j u, j < 6 → (winCells l)[k * 6 + j]? = some u → wr.cell? ⟨gs, o + (k * 6 + j), none⟩ = some u := fun j u hj hu => ((hb.cell (p := ⟨gs, o + (k * 6 + j), none⟩) hgs).trans (hc (k * 6 + j) (by omega))).trans hu
  exact ⟨gs, o, rfl, hgs, l[k], List.getElem?_eq_getElem hkl, hx 0 _ (by omega) hs.1, hx 1 _ (by omega) hs.2.1, hx 2 _ (by omega) hs.2.2.1, hx 3 _ (by omega) hs.2.2.2.1, hx 4 _ (by omega) hs.2.2.2.2.1, hx 5 _ (by omega) hs.2.2.2.2.2⟩

set_option maxHeartbeats 1600000 in
theorem merge_any (start : Int) (A : Option Addr) (n cap : Nat) (l : List Win) (w : World) (hr : Row w w.heap.size 6 A n (winCells l)) (hl : l.length = n) (hn : n ≤ 4611686018427387904) (hok : ∀ s ∈ l, s.ok) :
    Calls Try.prog 100 #[.int .i64 start, .slice A n cap] w
      fun e w' => ∃ f, Folded ((liveW l).map Win.three) f ∧ e = .returned (.agg (f.window start (cntOf l) (lastOfW l)).cells.toArray) ∧ Below w.heap.size w w' := by
  go_enter Try.func100, Try.ntmps100
  go_wp2
  go_loopw [6, 7, 12] (fun cnt last i wr => ∃ k : Nat, k ≤ n ∧ i = .int .i64 k ∧ cnt = .int .i64 (cntOf (l.take k)) ∧ last = .int .u64 (lastOfW (l.take k) : Nat) ∧ (∃ f, Folded ((liveW (l.take k)).map Win.three) f ∧ Whole1 wr (w.heap.size + 1) 184 f.cells) ∧ Whole1 wr w.heap.size 88 zeroWin ∧ Below w.heap.size w wr) (fun _ _ i _ => n - (intOf i).toNat)
  case atStart =>
    refine ⟨0, Nat.zero_le _, rfl, rfl, rfl, ⟨Fd.zero, .nil, ?_⟩, (Whole1.new _ _ _).alloc _, ((Below.refl _ _).alloc (Nat.le_refl _) _).alloc (by simp) _⟩
    have h := Whole1.new (w.alloc (Obj.cells zeroWin 88)) 184 Fd.zero.cells
    simp only [World.size_alloc] at h
    exact h
  case round =>
    obtain ⟨k, hk, rfl, rfl, rfl, ⟨f, hf, hw⟩, hz, hb⟩ := hrel
    have hfn := hf.n
    have hfb := hf.bits (live_bits hok k)
    have hll := liveW_le (l.take k)
    rw [List.length_map] at hfn
    rw [List.length_take, hl, Nat.min_eq_left hk] at hll
    have hfn1 : 0 ≤ f.n := by omega
    have hfn2 : f.n ≤ 4611686018427387904 := by omega
    clear hfn hll
    by_cases hlt : k < n
    · obtain ⟨gs, o, rfl, hgs, x, hx, c0, c1, c2, c3, c4, c5⟩ := win_cells_at hr hl hb k hlt
      have hT := hidden (take_snoc? hx)
      have hL := hidden hl
      have hxo := hok x (List.mem_of_getElem? hx)
      have hgw : gs < wr.heap.size := by have := hb.size; omega
      clear hl hx hok hr
      obtain ⟨x0, x1, x2, x3, x4, x5⟩ := x
      obtain ⟨⟨hx1, hx1'⟩, hx2, hx3, hx4, hx5⟩ := hxo
      simp only at c0 c1 c2 c3 c4 c5 hx1 hx1' hx2 hx3 hx4 hx5
      by_cases h0 : x1 = 0
      · subst h0
        have hz0 : ((0 : Int) != 0) = false := rfl
        go_wp2
        go_roundw
        case rel =>
          obtain ⟨e1, e2, e3⟩ := live_zero (l.take k) ⟨x0, 0, x2, x3, x4, x5⟩ rfl
          refine ⟨k + 1, by omega, by go_num, ?_, ?_, ⟨f, ?_, hw.alloc _⟩, hz.alloc _, hb.alloc hb.size _⟩
          · rw [hT.out, e2]
          · rw [hT.out, e3]
          · rw [hT.out, e1]; exact hf
        case measure => simp [intOf]; omega
      · have hz0 : (x1 != 0) = true := by simp [h0]
        have H0 := hidden h0
        clear h0
        go_upto_region 7 with (fail)
        have hxb : Whole1 (wr.alloc (Obj.cells #[.int .i64 x0, .int .i64 x1, .int .u64 (x2 : Nat), .int .u64 (x3 : Nat), .int .u64 (x4 : Nat), .int .u64 (x5 : Nat)] 88)) wr.heap.size 88 #[.int .i64 x0, .int .i64 x1, .int .u64 (x2 : Nat), .int .u64 (x3 : Nat), .int .u64 (x4 : Nat), .int .u64 (x5 : Nat)] := Whole1.new _ _ _
        have hw1 := hw.alloc (Obj.cells #[.int .i64 x0, .int .i64 x1, .int .u64 (x2 : Nat), .int .u64 (x3 : Nat), .int .u64 (x4 : Nat), .int .u64 (x5 : Nat)] 88)
        have hz1 := hz.alloc (Obj.cells #[.int .i64 x0, .int .i64 x1, .int .u64 (x2 : Nat), .int .u64 (x3 : Nat), .int .u64 (x4 : Nat), .int .u64 (x5 : Nat)] 88)
        have hb1 := hb.alloc hb.size (Obj.cells #[.int .i64 x0, .int .i64 x1, .int .u64 (x2 : Nat), .int .u64 (x3 : Nat), .int .u64 (x4 : Nat), .int .u64 (x5 : Nat)] 88)
        have hne : w.heap.size + 1 ≠ wr.heap.size := by have := hw.lt; omega
        have hne0 : w.heap.size ≠ wr.heap.size := by have := hw.lt; omega
        clear hw hz hb c0 c1 c2 c3 c4 c5
        generalize wr.alloc _ = w1 at hxb hw1 hz1 hb1 ⊢
        have d1 : w1.cell? ⟨wr.heap.size, 1, none⟩ = some (.int .i64 x1) := hxb.cell 1
        have d2 : w1.cell? ⟨wr.heap.size, 2, none⟩ = some (.int .u64 (x2 : Nat)) := hxb.cell 2
        have d3 : w1.cell? ⟨wr.heap.size, 3, none⟩ = some (.int .u64 (x3 : Nat)) := hxb.cell 3
        have d4 : w1.cell? ⟨wr.heap.size, 4, none⟩ = some (.int .u64 (x4 : Nat)) := hxb.cell 4
        have d5 : w1.cell? ⟨wr.heap.size, 5, none⟩ = some (.int .u64 (x5 : Nat)) := hxb.cell 5
        refine region_tail 9 (by kernel_rfl) (by kernel_rfl) ?_
        simp only [List.take_succ_cons, List.take_zero, List.drop_succ_cons, List.drop_zero]
        still_step
        still_step
        still_call (still_of (float_any _ _))
        still_step
        still_step
        still_call (still_of (float_any _ _))
        still_step
        still_step
        still_call (still_of (float_any _ _))
        refine wpStill_nil ?_
        have hw2 := hw1.drew
        have hz2 := hz1.drew
        have hb2 := hb1.drew
        have hxb2 := hxb.drew
        have hs2 : w.heap.size ≤ w1.drew.heap.size := hb1.size
        clear hw1 hz1 hb1 hxb d1 d2 d3 d4 d5
        generalize w1.drew = w2 at hw2 hz2 hb2 hxb2 hs2 ⊢
        go_wp2_with fail
        refine (add_any f _ _ _ _ _ hw2 hfn1 hfn2 hx3 hx4 hfb.1 hfb.2).mono ?_
        rintro e w3 ⟨rfl, r, hsum, hw3, hg3⟩
        have hx3' := hxb2.grown hg3 (by simp; omega)
        have d1 : w3.cell? ⟨wr.heap.size, 1, none⟩ = some (.int .i64 x1) := hx3'.cell 1
        have d5 : w3.cell? ⟨wr.heap.size, 5, none⟩ = some (.int .u64 (x5 : Nat)) := hx3'.cell 5
        have hb3 : Hid (Below w.heap.size w w3) := below_gb hb2 hg3 hs2 (by omega)
        have hz3 := hidden (hz2.grown hg3 (by simp))
        have hF := hidden (hf.snoc (a := x3) (b := x4) hsum)
        have hw3' := hidden hw3
        obtain ⟨e1, e2, e3⟩ := live_some (l.take k) ⟨x0, x1, x2, x3, x4, x5⟩ H0.out
        have E1 := hidden e1
        have E2 := hidden e2
        have E3 := hidden e3
        clear hw2 hz2 hb2 hxb2 hs2 hg3 hsum hf hw3 hx3' e1 e2 e3
        go_wp2_with fail
        go_quiet (fail)
        go_wp2
        go_roundw
        case rel =>
          refine ⟨k + 1, by omega, by go_num, ?_, ?_, ⟨_, ?_, hw3'.out.drewN _⟩, hz3.out.drewN _, below_drewN hb3.out _⟩
          · rw [hT.out, E2.out]
          · rw [hT.out, E3.out]
          · rw [hT.out, E1.out, List.map_append]; exact hF.out
        case measure => simp [intOf]; omega
    · obtain rfl : k = n := by omega
      have hL := hidden hl
      clear hl hr hok
      obtain ⟨W, hW⟩ : ∃ W, f.window start (cntOf (l.take k)) (lastOfW (l.take k)) = W := ⟨_, rfl⟩
      have hW0 := hidden hW
      go_wp2_with (fail)
      refine (window_any f _ _ _ _ _ hw).mono ?_
      rintro e w1 ⟨rfl, hb1⟩
      rw [hW]
      clear hW
      obtain ⟨x0, x1, x2, x3, x4, x5⟩ := W
      rw [show (Win.mk x0 x1 x2 x3 x4 x5).cells.toArray = #[.int .i64 x0, .int .i64 x1, .int .u64 (x2 : Nat), .int .u64 (x3 : Nat), .int .u64 (x4 : Nat), .int .u64 (x5 : Nat)] from rfl]
      have hz1 := hz.below hb1 hz.lt
      have d0 : w1.cell? ⟨w.heap.size, 0, none⟩ = some (.int .i64 0) := hz1.cell 0
      have d1 : w1.cell? ⟨w.heap.size, 1, none⟩ = some (.int .i64 0) := hz1.cell 1
      have d2 : w1.cell? ⟨w.heap.size, 2, none⟩ = some (.int .u64 0) := hz1.cell 2
      have d3 : w1.cell? ⟨w.heap.size, 3, none⟩ = some (.int .u64 0) := hz1.cell 3
      have d4 : w1.cell? ⟨w.heap.size, 4, none⟩ = some (.int .u64 0) := hz1.cell 4
      have d5 : w1.cell? ⟨w.heap.size, 5, none⟩ = some (.int .u64 0) := hz1.cell 5
      have e0 := hz1.free 0
      have e1 := hz1.free 1
      have e2 := hz1.free 2
      have e3 := hz1.free 3
      have e4 := hz1.free 4
      have e5 := hz1.free 5
      go_wp2
      have hF := put6 hz1 (.int .i64 x0) (.int .i64 x1) (.int .u64 (x2 : Nat)) (.int .u64 (x3 : Nat)) (.int .u64 (x4 : Nat)) (.int .u64 (x5 : Nat))
      have hbF := below6 (hb.trans (hb1.mono hb.size)) (Nat.le_refl _) (.int .i64 x0) (.int .i64 x1) (.int .u64 (x2 : Nat)) (.int .u64 (x3 : Nat)) (.int .u64 (x4 : Nat)) (.int .u64 (x5 : Nat))
      clear d0 d1 d2 d3 d4 d5 e0 e1 e2 e3 e4 e5
      generalize World.setCell _ _ _ = wF at hF hbF ⊢
      have d0 : wF.cell? ⟨w.heap.size, 0, none⟩ = some (.int .i64 x0) := hF.cell 0
      have d1 : wF.cell? ⟨w.heap.size, 1, none⟩ = some (.int .i64 x1) := hF.cell 1
      have d2 : wF.cell? ⟨w.heap.size, 2, none⟩ = some (.int .u64 (x2 : Nat)) := hF.cell 2
      have d3 : wF.cell? ⟨w.heap.size, 3, none⟩ = some (.int .u64 (x3 : Nat)) := hF.cell 3
      have d4 : wF.cell? ⟨w.heap.size, 4, none⟩ = some (.int .u64 (x4 : Nat)) := hF.cell 4
      have d5 : wF.cell? ⟨w.heap.size, 5, none⟩ = some (.int .u64 (x5 : Nat)) := hF.cell 5
      refine bodyPost_ret (v := .agg #[.int .i64 x0, .int .i64 x1, .int .u64 (x2 : Nat), .int .u64 (x3 : Nat), .int .u64 (x4 : Nat), .int .u64 (x5 : Nat)]) (by simp [results, Try.results100, go_sem, d0, d1, d2, d3, d4, d5]) rfl ⟨f, ?_, ?_, hbF⟩
      · rw [List.take_of_length_le (by rw [hL.out]; exact Nat.le_refl _)] at hf; exact hf
      · have hW := hW0.out
        rw [List.take_of_length_le (by rw [hL.out]; exact Nat.le_refl _)] at hW
        rw [hW]; rfl

end Go.Proofs.Ytohocdbneopooaa
