/- The reference's Merge: what it returns. Condition: the windows' bits fit 64 bits; the row is within the reach. -/
import Derived.Test.YtohocdbneopooaaFoldMerge
import Derived.Test.YtohocdbneopooaaOwn
import Derived.BigRegion
namespace Go.Proofs.Ytohocdbneopooaa
set_option maxRecDepth 100000
open Go.RowKit

def mergeWin (start : Int) (l : List Win) : Win := refWin start (cntOf l) (lastOfW l) ((liveW l).map Win.sum) ((liveW l).map Win.min) ((liveW l).map Win.max)

def accWin (start cnt : Int) (last : Nat) : Array Value := #[.int .i64 start, .int .i64 cnt, .int .u64 0, .int .u64 0, .int .u64 0, .int .u64 (last : Nat)]

set_option maxHeartbeats 3200000 in
theorem rmerge_any (start : Int) (A : Option Addr) (n cap : Nat) (l : List Win) (w : World) (hr : Row w w.heap.size 6 A n (winCells l)) (hl : l.length = n) (hn : n * 48 ≤ 140737488351232) (hok : ∀ s ∈ l, s.ok) :
    Calls Try.prog 101 #[.int .i64 start, .slice A n cap] w
      fun e w' => e = .returned (.agg (mergeWin start l).cells.toArray) ∧ Below w.heap.size w w' := by
  obtain ⟨i0, hi, iz0, iz1, iz2⟩ := info_parts info_u64
  have hL := hidden hl
  go_enter Try.func101, Try.ntmps101
  go_wp2
  go_loopw [6, 7, 8, 9] (fun v1 v2 v3 i wr => ∃ k : Nat, k ≤ n ∧ i = .int .i64 k ∧
      wr.ownsRow (w.heap.size + 2) 53 1 v1 (liveW (l.take k)).length (u64s ((liveW (l.take k)).map Win.sum)) ∧ wr.ownsRow (w.heap.size + 2) 53 1 v2 (liveW (l.take k)).length (u64s ((liveW (l.take k)).map Win.min)) ∧ wr.ownsRow (w.heap.size + 2) 53 1 v3 (liveW (l.take k)).length (u64s ((liveW (l.take k)).map Win.max)) ∧
      Apart v1 v2 ∧ Apart v1 v3 ∧ Apart v2 v3 ∧ Whole1 wr w.heap.size 89 zeroWin ∧ Whole1 wr (w.heap.size + 1) 89 (accWin start (cntOf (l.take k)) (lastOfW (l.take k))) ∧ Below w.heap.size w wr ∧ w.heap.size + 2 ≤ wr.heap.size) (fun _ _ _ i _ => n - (intOf i).toNat)
  case atStart =>
    refine ⟨0, Nat.zero_le _, rfl, World.ownsRow_nil _ _ _ _, World.ownsRow_nil _ _ _ _, World.ownsRow_nil _ _ _ _, Apart.nil_left, Apart.nil_left, Apart.nil_left, (Whole1.new _ _ _).alloc _, ?_, ((Below.refl _ _).alloc (Nat.le_refl _) _).alloc (by simp) _, by simp⟩
    have h := Whole1.new (w.alloc (Obj.cells zeroWin 89)) 89 (accWin start 0 0)
    simp only [World.size_alloc] at h
    exact h
  case round =>
    obtain ⟨k, hk, rfl, ho1, ho2, ho3, a12, a13, a23, hz, hs, hb, hsz⟩ := hrel
    by_cases hlt : k < n
    · obtain ⟨gs, o, rfl, hgs, x, hx, c0, c1, c2, c3, c4, c5⟩ := win_cells_at hr hl hb k hlt
      have hT := hidden (take_snoc? hx)
      have hxo := hok x (List.mem_of_getElem? hx)
      have hgw : gs < wr.heap.size := by have := hb.size; omega
      have hll := liveW_le (l.take k)
      rw [List.length_take, hl, Nat.min_eq_left hk] at hll
      clear hl hx
      obtain ⟨x0, x1, x2, x3, x4, x5⟩ := x
      obtain ⟨⟨hx1, hx1'⟩, hx2, hx3, hx4, hx5⟩ := hxo
      simp only at c0 c1 c2 c3 c4 c5 hx1 hx1' hx2 hx3 hx4 hx5
      by_cases h0 : x1 = 0
      · subst h0
        have hz0 : ((0 : Int) == 0) = true := rfl
        go_wp2
        go_roundw
        case rel =>
          obtain ⟨e1, e2, e3⟩ := live_zero (l.take k) ⟨x0, 0, x2, x3, x4, x5⟩ rfl
          refine ⟨k + 1, by omega, by go_num, ?_⟩
          rw [hT.out, e1, e2, e3]
          exact ⟨ho1, ho2, ho3, a12, a13, a23, hz, hs, hb, hsz⟩
        case measure => simp [intOf]; omega
      · have hz0 : (x1 == 0) = false := by simp [h0]
        obtain ⟨e1, e2, e3⟩ := live_some (l.take k) ⟨x0, x1, x2, x3, x4, x5⟩ h0
        have E1 := hidden e1
        have E2 := hidden e2
        have E3 := hidden e3
        have H0 := hidden h0
        clear h0 e1 e2 e3
        have q1 : wr.cell? ⟨w.heap.size + 1, 1, none⟩ = some (.int .i64 (cntOf (l.take k))) := hs.cell 1
        have q5 : wr.cell? ⟨w.heap.size + 1, 5, none⟩ = some (.int .u64 (lastOfW (l.take k) : Nat)) := hs.cell 5
        have f1 := hs.free 1
        have f5 := hs.free 5
        have hne : gs ≠ w.heap.size + 1 := by omega
        have hk0 : (0 : Int) ≤ (k : Int) := by omega
        have hkn : (k : Int) < (n : Int) := by omega
        go_upto_region 9 with (fail)
        go_cut [] (fun wx => Whole1 wx (w.heap.size + 1) 89 (accWin start (wrap64 (cntOf (l.take k) + x1)) (lastOfW (l.take k))) ∧ wr.grownBy wx (some (w.heap.size + 1)))
        case first =>
          go_region
          go_wp2_with fail
          go_meet
          exact ⟨(hs.put 1 _).drew, gb_drew (gb_put (gb_refl _ _) _ _)⟩
        case rest =>
          obtain ⟨hs1, hg1⟩ := hcut
          have hblk : wc.heap[gs]? = wr.heap[gs]? := hg1.block gs hgw (by intro h; injection h with h; omega)
          have cc : ∀ j u, wr.cell? ⟨gs, j, none⟩ = some u → wc.cell? ⟨gs, j, none⟩ = some u := fun j u hu => (World.cell?_of_block (a := ⟨gs, j, none⟩) hblk).trans hu
          have b2 := hidden (cc _ _ c2)
          have b3 := hidden (cc _ _ c3)
          have b4 := hidden (cc _ _ c4)
          have b5 := cc _ _ c5
          have p1 := ho1.kept hg1 (.inr (fun h => own_ne ho1 (g := w.heap.size + 1) (by omega) h.symm))
          have p2 := ho2.kept hg1 (.inr (fun h => own_ne ho2 (g := w.heap.size + 1) (by omega) h.symm))
          have p3 := ho3.kept hg1 (.inr (fun h => own_ne ho3 (g := w.heap.size + 1) (by omega) h.symm))
          have hz1' := hidden (hz.grown hg1 (by simp))
          have hbb := hidden (below_gb hb hg1 hb.size (by omega))
          have hsz1 := hg1.size
          have d5 : wc.cell? ⟨w.heap.size + 1, 5, none⟩ = some (.int .u64 (lastOfW (l.take k) : Nat)) := hs1.cell 5
          have g5 := hs1.free 5
          have P1 := hidden p1
          have P2 := hidden p2
          have P3 := hidden p3
          have S1 := hidden hs1
          clear c0 c1 c2 c3 c4 c5 q1 q5 f1 f5 cc hblk ho1 ho2 ho3 hz hs hb p1 p2 p3 hs1 hr hg1
          go_upto_region 11 with (fail)
          have S2 : Whole1 _ (w.heap.size + 1) 89 (accWin start (wrap64 (cntOf (l.take k) + x1)) x5) := S1.out.put 5 (.int .u64 (x5 : Nat))
          have Z2 := hz1'.out.off (p := ⟨w.heap.size + 1, 5, none⟩) (by simp) (.int .u64 (x5 : Nat))
          have B2 := hbb.out.setCell (p := ⟨w.heap.size + 1, 5, none⟩) (by simp) (.int .u64 (x5 : Nat))
          have o1 := ownsRow_setCell_below P1.out (a := ⟨w.heap.size + 1, 5, none⟩) (by simp) (.int .u64 (x5 : Nat))
          have o2 := ownsRow_setCell_below P2.out (a := ⟨w.heap.size + 1, 5, none⟩) (by simp) (.int .u64 (x5 : Nat))
          have o3 := ownsRow_setCell_below P3.out (a := ⟨w.heap.size + 1, 5, none⟩) (by simp) (.int .u64 (x5 : Nat))
          have hnb : gs ≠ (⟨w.heap.size + 1, 5, none⟩ : Addr).block := by simp; omega
          have k2 : (wc.setCell ⟨w.heap.size + 1, 5, none⟩ (.int .u64 (x5 : Nat))).cell? ⟨gs, o + k * 6 + 2, none⟩ = some (.int .u64 (x2 : Nat)) := (World.cell?_of_block (Below.heap_setCell _ _ _ _ hnb)).trans b2.out
          have k3 : (wc.setCell ⟨w.heap.size + 1, 5, none⟩ (.int .u64 (x5 : Nat))).cell? ⟨gs, o + k * 6 + 3, none⟩ = some (.int .u64 (x3 : Nat)) := (World.cell?_of_block (Below.heap_setCell _ _ _ _ hnb)).trans b3.out
          have k4 : (wc.setCell ⟨w.heap.size + 1, 5, none⟩ (.int .u64 (x5 : Nat))).cell? ⟨gs, o + k * 6 + 4, none⟩ = some (.int .u64 (x4 : Nat)) := (World.cell?_of_block (Below.heap_setCell _ _ _ _ hnb)).trans b4.out
          have hsz2 : w.heap.size + 2 ≤ (wc.setCell ⟨w.heap.size + 1, 5, none⟩ (.int .u64 (x5 : Nat))).heap.size := by simp; omega
          clear b2 b3 b4 b5 P1 P2 P3 S1 hz1' hbb d5 g5 hnb
          generalize wc.setCell _ _ = w5 at S2 Z2 B2 o1 o2 o3 k2 k3 k4 hsz2 ⊢
          have fr1 := Row.fresh w5 53 1 1 [Value.int IntKind.u64 (x2 : Nat)] rfl
          have L3 := hidden k3
          have L4 := hidden k4
          clear k3 k4
          go_upto_region 12 with (at_builtin; refine wpList_app _ rfl _ _ 188 rfl (w.heap.size + 2) 53 i0 _ 1 8 Try.underlying188 hi iz0 iz1 iz2 rfl (by decide) _ _ _ rfl (o1.alloc _) _ _ _ _ _ rfl fr1 (by simp [Value.oneCell']) (by unfold maxLen; omega) (by omega) (by simp; omega) ?_; intro v1 w6 own1 hg6 hat6)
          have P1 := hidden own1
          have P2 := hidden (app_own hg6 a12 o2)
          have P3 := hidden (app_own hg6 a13 o3)
          have b12 := app_apart hat6 a12 o2
          have b13 := app_apart hat6 a13 o3
          have S6 := hidden (app_whole hg6 o1 S2 (by omega))
          have Z6 := hidden (app_whole hg6 o1 Z2 (by omega))
          have B6 := hidden (app_below hg6 o1 B2 (by omega) (by omega))
          have sz6 := app_size hg6
          have k3 := app_cell hg6 o1 L3.out (by omega)
          have k4 := hidden (app_cell hg6 o1 L4.out (by omega))
          have o2 := P2.out
          clear own1 hg6 hat6 o1 o3 S2 Z2 B2 L3 L4 k2 fr1 a12 a13 P2
          have fr2 := Row.fresh w6 53 1 1 [Value.int IntKind.u64 (x3 : Nat)] rfl
          go_upto_region 13 with (at_builtin; refine wpList_app _ rfl _ _ 188 rfl (w.heap.size + 2) 53 i0 _ 1 8 Try.underlying188 hi iz0 iz1 iz2 rfl (by decide) _ _ _ rfl (o2.alloc _) _ _ _ _ _ rfl fr2 (by simp [Value.oneCell']) (by unfold maxLen; omega) (by omega) (by simp; omega) ?_; intro v2 w7 own2 hg7 hat7)
          have Q1 := hidden (app_own hg7 b12.symm P1.out)
          have Q2 := hidden own2
          have Q3 := hidden (app_own hg7 a23 P3.out)
          have c12 := (app_apart hat7 b12.symm P1.out).symm
          have c23 := app_apart hat7 a23 P3.out
          have S7 := hidden (app_whole hg7 o2 S6.out (by omega))
          have Z7 := hidden (app_whole hg7 o2 Z6.out (by omega))
          have B7 := hidden (app_below hg7 o2 B6.out (by omega) (by omega))
          have sz7 := app_size hg7
          have k5 := app_cell hg7 o2 k4.out (by omega)
          have o3 := Q3.out
          clear own2 hg7 hat7 o2 S6 Z6 B6 k4 k3 fr2 b12 a23 P1 P3 Q3
          have fr3 := Row.fresh w7 53 1 1 [Value.int IntKind.u64 (x4 : Nat)] rfl
          go_wp2_with (at_builtin; refine wpList_app _ rfl _ _ 188 rfl (w.heap.size + 2) 53 i0 _ 1 8 Try.underlying188 hi iz0 iz1 iz2 rfl (by decide) _ _ _ rfl (o3.alloc _) _ _ _ _ _ rfl fr3 (by simp [Value.oneCell']) (by unfold maxLen; omega) (by omega) (by simp; omega) ?_; intro v3 w8 own3 hg8 hat8)
          go_roundw
          case rel =>
            refine ⟨k + 1, by omega, by go_num, ?_⟩
            rw [hT.out, E1.out, E2.out, E3.out]
            simp only [List.map_append, List.length_append, u64s]
            exact ⟨app_own hg8 b13.symm Q1.out, app_own hg8 c23.symm Q2.out, own3, c12, (app_apart hat8 b13.symm Q1.out).symm, (app_apart hat8 c23.symm Q2.out).symm, app_whole hg8 o3 Z7.out (by omega), app_whole hg8 o3 S7.out (by omega), app_below hg8 o3 B7.out (by omega) (by omega), by have := app_size hg8; omega⟩
          case measure => simp [intOf]; omega
    · obtain rfl : k = n := by omega
      rw [List.take_of_length_le (by rw [hl]; exact Nat.le_refl _)] at ho1 ho2 ho3 hs
      obtain ⟨A1, c1, rfl, hc1, hr1⟩ := own_shape ho1
      obtain ⟨A2, c2, rfl, hc2, hr2⟩ := own_shape ho2
      obtain ⟨A3, c3, rfl, hc3, hr3⟩ := own_shape ho3
      have hml : (liveW l).length ≤ k := by rw [← hl]; exact liveW_le l
      go_upto_if 65 with (fail)
      go_cut [] (fun wx => Whole1 wx w.heap.size 89 zeroWin ∧ Whole1 wx (w.heap.size + 1) 89 (mergeWin start l).cells.toArray ∧ Below w.heap.size w wx)
      case first =>
        have hbits : ∀ (g : Win → Nat), (∀ x ∈ l, g x < 18446744073709551616) → ∀ x ∈ (liveW l).map g, x < 18446744073709551616 := by
          intro g hg x hx
          obtain ⟨s, h1, rfl⟩ := List.mem_map.1 hx
          exact hg s (List.mem_filter.1 h1).1
        have v1 := hbits Win.sum (fun x hx => (hok x hx).2.1)
        have v2 := hbits Win.min (fun x hx => (hok x hx).2.2.1)
        have v3 := hbits Win.max (fun x hx => (hok x hx).2.2.2.1)
        have M1 : ((liveW l).map Win.sum).length = (liveW l).length := List.length_map _
        have M2 : ((liveW l).map Win.min).length = (liveW l).length := List.length_map _
        have M3 : ((liveW l).map Win.max).length = (liveW l).length := List.length_map _
        by_cases hk0 : (liveW l).length = 0
        · have hl0 : liveW l = [] := List.eq_nil_of_length_eq_zero hk0
          have hW : (mergeWin start l).cells.toArray = accWin start (cntOf l) (lastOfW l) := by
            have : mergeWin start l = ⟨start, 0, 0, 0, 0, 0⟩ := by unfold mergeWin refWin; rw [hl0]; exact if_pos rfl
            rw [this]
            have h1 : cntOf l = 0 := by unfold cntOf; rw [hl0]; rfl
            have h2 : lastOfW l = 0 := by unfold lastOfW; rw [hl0]; rfl
            rw [h1, h2]; rfl
          have hW0 := hidden hW
          have hk1 : ¬ (0 : Int) < ((liveW l).length : Int) := by omega
          clear hW hk0 hl0 M1 M2 M3 hl v1 v2 v3 hbits
          go_wp2
          go_meet
          exact ⟨hz, by rw [hW0.out]; exact hs, hb⟩
        · have hne : (liveW l).map Win.sum ≠ [] := by
            intro h
            rw [h] at M1
            exact hk0 M1.symm
          have hW : mergeWin start l = ⟨start, cntOf l, csum ((liveW l).map Win.sum), (leastOf ((liveW l).map Win.min)).2, (greatOf ((liveW l).map Win.max)).2, lastOfW l⟩ := if_neg hne
          have hW0 := hidden hW
          have hk1 : (0 : Int) < ((liveW l).length : Int) := by omega
          have hk2 : 1 ≤ (liveW l).length := by omega
          have hb0 := hidden hb
          clear hW hk0 hl hb hne hr
          generalize hm : (liveW l).length = m at *
          have hm0 := hidden hm
          clear hm
          have mk2 : m ≤ 4611686018427387904 := by omega
          go_wp2_with fail
          refine (rsum_any A1 m c1 _ wr _ hr1 M1 mk2 hk2 v1).mono ?_
          rintro e w1 ⟨r, hS, rfl, q, hq⟩
          have hcs : (if nanN r = true then 9221120237041090560 else r) = csum ((liveW l).map Win.sum) := hS.canon.2
          rw [hcs]
          have hown2 : w1.ownsRow (w.heap.size + 2) 53 1 (.slice A2 m c2) m (u64s ((liveW l).map Win.min)) := by rw [hq]; exact own_drewN ho2 q
          have hown3 : w1.ownsRow (w.heap.size + 2) 53 1 (.slice A3 m c3) m (u64s ((liveW l).map Win.max)) := by rw [hq]; exact own_drewN ho3 q
          have hz1 : Whole1 w1 w.heap.size 89 zeroWin := by rw [hq]; exact hz
          have hs1 : Whole1 w1 (w.heap.size + 1) 89 (accWin start (cntOf l) (lastOfW l)) := by rw [hq]; exact hs
          have hb1 : Hid (Below w.heap.size w w1) := by rw [hq]; exact below_drewN hb0.out q
          clear hq hcs hS ho1 ho2 ho3 hz hs hb0 hr1 hr2 hr3 a12 a13 a23
          have d2 : w1.cell? ⟨w.heap.size + 1, 2, none⟩ = some (.int .u64 0) := hs1.cell 2
          have d3 : w1.cell? ⟨w.heap.size + 1, 3, none⟩ = some (.int .u64 0) := hs1.cell 3
          have d4 : w1.cell? ⟨w.heap.size + 1, 4, none⟩ = some (.int .u64 0) := hs1.cell 4
          have e2 := hs1.free 2
          have e3 := hs1.free 3
          have e4 := hs1.free 4
          have hown2' := ownsRow_setCell_below hown2 (a := ⟨w.heap.size + 1, 2, none⟩) (by simp) (.int .u64 (csum ((liveW l).map Win.sum) : Nat))
          have hown3' := ownsRow_setCell_below (ownsRow_setCell_below hown3 (a := ⟨w.heap.size + 1, 2, none⟩) (by simp) (.int .u64 (csum ((liveW l).map Win.sum) : Nat))) (a := ⟨w.heap.size + 1, 3, none⟩) (by simp) (.int .u64 ((leastOf ((liveW l).map Win.min)).2 : Nat))
          go_wp2_with fail
          refine (rleast_any _ m c2 _ _ _ (Row.of_own hown2') M2 mk2 v2).mono ?_
          rintro e w2 ⟨rfl, rfl⟩
          go_wp2_with fail
          refine (rgreatest_any _ m c3 _ _ _ (Row.of_own hown3') M3 mk2 v3).mono ?_
          rintro e w2 ⟨rfl, rfl⟩
          go_wp2
          go_meet
          rw [hW0.out]
          refine ⟨((hz1.off (p := ⟨w.heap.size + 1, 2, none⟩) (by simp) _).off (p := ⟨w.heap.size + 1, 3, none⟩) (by simp) _).off (p := ⟨w.heap.size + 1, 4, none⟩) (by simp) _, ((hs1.put 2 _).put 3 _).put 4 _, ?_⟩
          exact ((hb1.out.setCell (p := ⟨w.heap.size + 1, 2, none⟩) (by simp) _).setCell (p := ⟨w.heap.size + 1, 3, none⟩) (by simp) _).setCell (p := ⟨w.heap.size + 1, 4, none⟩) (by simp) _
      case rest =>
        obtain ⟨hz2, hs2, hb2⟩ := hcut
        generalize hWW : mergeWin start l = W at hs2
        obtain ⟨x0, x1, x2, x3, x4, x5⟩ := W
        have hWW := hidden hWW
        have d0 : wc.cell? ⟨w.heap.size, 0, none⟩ = some (.int .i64 0) := hz2.cell 0
        have d1 : wc.cell? ⟨w.heap.size, 1, none⟩ = some (.int .i64 0) := hz2.cell 1
        have d2 : wc.cell? ⟨w.heap.size, 2, none⟩ = some (.int .u64 0) := hz2.cell 2
        have d3 : wc.cell? ⟨w.heap.size, 3, none⟩ = some (.int .u64 0) := hz2.cell 3
        have d4 : wc.cell? ⟨w.heap.size, 4, none⟩ = some (.int .u64 0) := hz2.cell 4
        have d5 : wc.cell? ⟨w.heap.size, 5, none⟩ = some (.int .u64 0) := hz2.cell 5
        have e0 := hz2.free 0
        have e1 := hz2.free 1
        have e2 := hz2.free 2
        have e3 := hz2.free 3
        have e4 := hz2.free 4
        have e5 := hz2.free 5
        have g0 : wc.cell? ⟨w.heap.size + 1, 0, none⟩ = some (.int .i64 x0) := hs2.cell 0
        have g1 : wc.cell? ⟨w.heap.size + 1, 1, none⟩ = some (.int .i64 x1) := hs2.cell 1
        have g2 : wc.cell? ⟨w.heap.size + 1, 2, none⟩ = some (.int .u64 (x2 : Nat)) := hs2.cell 2
        have g3 : wc.cell? ⟨w.heap.size + 1, 3, none⟩ = some (.int .u64 (x3 : Nat)) := hs2.cell 3
        have g4 : wc.cell? ⟨w.heap.size + 1, 4, none⟩ = some (.int .u64 (x4 : Nat)) := hs2.cell 4
        have g5 : wc.cell? ⟨w.heap.size + 1, 5, none⟩ = some (.int .u64 (x5 : Nat)) := hs2.cell 5
        clear ho1 ho2 ho3 hz hs hb hr1 hr2 hr3 a12 a13 a23 hl hr hok
        go_wp2
        have hF := put6 hz2 (.int .i64 x0) (.int .i64 x1) (.int .u64 (x2 : Nat)) (.int .u64 (x3 : Nat)) (.int .u64 (x4 : Nat)) (.int .u64 (x5 : Nat))
        have hbF := below6 hb2 (Nat.le_refl _) (.int .i64 x0) (.int .i64 x1) (.int .u64 (x2 : Nat)) (.int .u64 (x3 : Nat)) (.int .u64 (x4 : Nat)) (.int .u64 (x5 : Nat))
        clear d0 d1 d2 d3 d4 d5 e0 e1 e2 e3 e4 e5
        generalize World.setCell _ _ _ = wF at hF hbF ⊢
        have d0 : wF.cell? ⟨w.heap.size, 0, none⟩ = some (.int .i64 x0) := hF.cell 0
        have d1 : wF.cell? ⟨w.heap.size, 1, none⟩ = some (.int .i64 x1) := hF.cell 1
        have d2 : wF.cell? ⟨w.heap.size, 2, none⟩ = some (.int .u64 (x2 : Nat)) := hF.cell 2
        have d3 : wF.cell? ⟨w.heap.size, 3, none⟩ = some (.int .u64 (x3 : Nat)) := hF.cell 3
        have d4 : wF.cell? ⟨w.heap.size, 4, none⟩ = some (.int .u64 (x4 : Nat)) := hF.cell 4
        have d5 : wF.cell? ⟨w.heap.size, 5, none⟩ = some (.int .u64 (x5 : Nat)) := hF.cell 5
        refine bodyPost_ret (v := .agg #[.int .i64 x0, .int .i64 x1, .int .u64 (x2 : Nat), .int .u64 (x3 : Nat), .int .u64 (x4 : Nat), .int .u64 (x5 : Nat)]) (by simp [results, Try.results101, go_sem, d0, d1, d2, d3, d4, d5]) rfl ⟨?_, hbF⟩
        rw [hWW.out]; rfl

theorem merge_is {l : List Win} {f : Fd} (h : Folded ((liveW l).map Win.three) f) (hok : ∀ s ∈ l, s.ok) (start : Int) : f.window start (cntOf l) (lastOfW l) = mergeWin start l := by
  have := h.win (fun x hx => by
    obtain ⟨s, hs, rfl⟩ := List.mem_map.1 hx
    have := hok s (List.mem_filter.1 hs).1
    exact ⟨this.2.2.1, this.2.2.2.1⟩) start (cntOf l) (lastOfW l)
  rw [this]
  simp only [List.map_map, mergeWin]
  rfl

end Go.Proofs.Ytohocdbneopooaa
