/- The reference's Fold: what it returns. Condition: the samples' values fit 64 bits; the row is within the reach. -/
import Derived.Test.YtohocdbneopooaaFoldPlain
namespace Go.Proofs.Ytohocdbneopooaa
set_option maxRecDepth 100000
open Go.RowKit

def vals (l : List Smp) : List Nat := l.map Smp.v
theorem info_u64 : (Try.prog.info? 53).map (fun i => (i.zero, i.size, i.bytes)) = some (some (.int .u64 0), 1, 8) := by kernel_rfl
theorem u64s_one (l : List Nat) : ∀ u ∈ u64s l, u.oneCell' = true := by
  intro u hu
  obtain ⟨x, _, rfl⟩ := List.mem_map.1 hu
  rfl

def startWin (start n : Int) : Array Value := #[.int .i64 start, .int .i64 n, .int .u64 0, .int .u64 0, .int .u64 0, .int .u64 0]

theorem smp_cells_at {w wr : World} {A : Option Addr} {n : Nat} {l : List Smp} {B : Nat} (hr : Row w B 2 A n (smpCells l)) (hl : l.length = n) (hb : Below B w wr) (k : Nat) (hk : k < n) :
    ∃ gs o, A = some ⟨gs, o, none⟩ ∧ ∃ x, l[k]? = some x ∧ wr.cell? ⟨gs, o + k * 2, none⟩ = some (.int .i64 x.t) ∧ wr.cell? ⟨gs, o + k * 2 + 1, none⟩ = some (.int .u64 (x.v : Nat)) := by
  obtain ⟨gs, o, rfl, hgs, hc⟩ := hr.at_ (by omega)
  have hkl : k < l.length := by omega
  have hs := smpCells_at l k hkl
  exact ⟨gs, o, rfl, l[k], List.getElem?_eq_getElem hkl, ((hb.cell (p := ⟨gs, o + k * 2, none⟩) hgs).trans (hc (k * 2) (by omega))).trans hs.1, ((hb.cell (p := ⟨gs, o + k * 2 + 1, none⟩) hgs).trans (hc (k * 2 + 1) (by omega))).trans hs.2⟩

theorem take_snoc? {α : Type} {l : List α} {k : Nat} {x : α} (h : l[k]? = some x) : l.take (k + 1) = l.take k ++ [x] := by
  obtain ⟨hk, rfl⟩ := List.getElem?_eq_some_iff.1 h
  exact take_succ_snoc l k hk

set_option maxHeartbeats 1600000 in
theorem rfold_any (start : Int) (A : Option Addr) (n cap : Nat) (l : List Smp) (w : World) (hr : Row w w.heap.size 2 A n (smpCells l)) (hl : l.length = n) (hn : n * 16 ≤ 140737488351232) (hok : ∀ s ∈ l, s.ok) :
    Calls Try.prog 96 #[.int .i64 start, .slice A n cap] w
      fun e w' => e = .returned (.agg (refWin start n (lastV l) (vals l) (vals l) (vals l)).cells.toArray) ∧ Below w.heap.size w w' := by
  obtain ⟨i0, hi, hz0, hz1, hz2⟩ := info_parts info_u64
  have hL := hidden hl
  go_enter Try.func96, Try.ntmps96
  go_wp2
  go_loopw [6, 7] (fun v i wr => ∃ k : Nat, k ≤ n ∧ i = .int .i64 k ∧ wr.ownsRow (w.heap.size + 2) 53 1 v k (u64s (vals (l.take k))) ∧ Whole1 wr w.heap.size 89 zeroWin ∧ Whole1 wr (w.heap.size + 1) 89 (startWin start n) ∧ Below w.heap.size w wr ∧ w.heap.size + 2 ≤ wr.heap.size) (fun _ i _ => n - (intOf i).toNat)
  case atStart =>
    refine ⟨0, Nat.zero_le _, rfl, World.ownsRow_nil _ _ _ _, (Whole1.new _ _ _).alloc _, ?_, ((Below.refl _ _).alloc (Nat.le_refl _) _).alloc (by simp) _, by simp⟩
    have h := Whole1.new (w.alloc (Obj.cells zeroWin 89)) 89 (startWin start n)
    simp only [World.size_alloc] at h
    exact h
  case round =>
    obtain ⟨k, hk, rfl, hown, hz, hs, hb, hsz⟩ := hrel
    by_cases hlt : k < n
    · obtain ⟨gs, o, rfl, x, hx, c0, c1⟩ := smp_cells_at hr hl hb k hlt
      have hT := hidden (take_snoc? hx)
      clear hx hr c0 hl
      have hfr := Row.fresh wr 53 1 1 [Value.int IntKind.u64 (x.v : Nat)] rfl
      go_wp2_with (at_builtin; refine wpList_app _ rfl _ _ 188 rfl (w.heap.size + 2) 53 i0 _ 1 8 Try.underlying188 hi hz0 hz1 hz2 rfl (by decide) _ _ _ rfl (hown.alloc _) _ _ _ _ _ rfl hfr (by simp [Value.oneCell']) (by unfold maxLen; omega) (by omega) (by simp; omega) ?_; intro v1 w1 hown1 hg1 hat1)
      go_roundw
      case rel =>
        refine ⟨k + 1, by omega, by go_num, ?_, (hz.alloc _).grown hg1 (own_ne hown (by omega)), (hs.alloc _).grown hg1 (own_ne hown (by omega)), (hb.alloc hb.size _).grown hg1 (by simp; omega) (own_ge hown (by omega)), ?_⟩
        · rw [hT.out, vals, List.map_append, u64s, List.map_append]; exact hown1
        · have := hg1.size
          simp at this
          omega
      case measure => simp [intOf]; omega
    · obtain rfl : k = n := by omega
      rw [List.take_of_length_le (by rw [hl]; exact Nat.le_refl _)] at hown
      obtain ⟨A1, c1, rfl, hc1, hr1⟩ := own_shape hown
      go_upto_if 28 with (fail)
      go_cut [] (fun wx => Whole1 wx w.heap.size 89 zeroWin ∧ Whole1 wx (w.heap.size + 1) 89 (refWin start k (lastV l) (vals l) (vals l) (vals l)).cells.toArray ∧ Below w.heap.size w wx)
      case first =>
        by_cases hk0 : k = 0
        · subst hk0
          have hl0 : l = [] := List.eq_nil_of_length_eq_zero hL.out
          subst hl0
          go_wp2
          go_meet
          exact ⟨hz, hs, hb⟩
        · obtain ⟨m, rfl⟩ : ∃ m, k = m + 1 := ⟨k - 1, by omega⟩
          have hm1 : (0 : Int) < (m : Int) + 1 := by omega
          have hbits : ∀ x ∈ vals l, x < 18446744073709551616 := by
            intro x hx
            obtain ⟨s, h1, rfl⟩ := List.mem_map.1 hx
            exact hok s h1
          have hvl : (vals l).length = m + 1 := by rw [vals, List.length_map]; exact hL.out
          have hlast : (u64s (vals l))[m]? = some (.int .u64 (lastV l : Nat)) := by
            have h2 : m < (vals l).length := by omega
            have h3 : m < l.length := by rw [hL.out]; omega
            rw [u64s_at _ m h2]
            congr 2
            simp only [vals, List.getElem_map, lastV]
            rw [List.getLast?_eq_getElem?, show l.length - 1 = m from by rw [hL.out]; rfl, List.getElem?_eq_getElem h3]
          have hlast0 := hidden hlast
          have hb0 := hidden hb
          clear hlast hb hl
          go_wp2_with fail
          refine (rsum_any A1 (m + 1) c1 (vals l) wr _ hr1 hvl (by omega) (by omega) hbits).mono ?_
          rintro e w1 ⟨r, hS, rfl, q, hq⟩
          have hcs : (if nanN r = true then 9221120237041090560 else r) = csum (vals l) := hS.canon.2
          rw [hcs]
          have hown1 : w1.ownsRow (w.heap.size + 2) 53 1 (.slice A1 (m + 1) c1) (m + 1) (u64s (vals l)) := by rw [hq]; exact own_drewN hown q
          have hz1 : Whole1 w1 w.heap.size 89 zeroWin := by rw [hq]; exact hz
          have hs1 : Whole1 w1 (w.heap.size + 1) 89 (startWin start ((m + 1 : Nat) : Int)) := by rw [hq]; exact hs
          have hb1 : Hid (Below w.heap.size w w1) := by rw [hq]; exact below_drewN hb0.out q
          clear hq hcs hS hown hz hs hb0 hr1
          have d2 : w1.cell? ⟨w.heap.size + 1, 2, none⟩ = some (.int .u64 0) := hs1.cell 2
          have d3 : w1.cell? ⟨w.heap.size + 1, 3, none⟩ = some (.int .u64 0) := hs1.cell 3
          have d4 : w1.cell? ⟨w.heap.size + 1, 4, none⟩ = some (.int .u64 0) := hs1.cell 4
          have d5 : w1.cell? ⟨w.heap.size + 1, 5, none⟩ = some (.int .u64 0) := hs1.cell 5
          have e2 := hs1.free 2
          have e3 := hs1.free 3
          have e4 := hs1.free 4
          have e5 := hs1.free 5
          obtain ⟨g, c, hA, hgb, hglt, _, hcell⟩ := own_at hown1 (by omega)
          injection hA with hA hm hc
          subst hA hc
          have dl : w1.cell? ⟨g, m, none⟩ = some (.int .u64 (lastV l : Nat)) := (hcell m (by omega)).trans hlast0.out
          have hgne : g ≠ w.heap.size + 1 := by omega
          have hown2 := ownsRow_setCell_below hown1 (a := ⟨w.heap.size + 1, 2, none⟩) (by simp) (.int .u64 (csum (vals l) : Nat))
          have hown3 := ownsRow_setCell_below hown2 (a := ⟨w.heap.size + 1, 3, none⟩) (by simp) (.int .u64 ((leastOf (vals l)).2 : Nat))
          clear hcell
          go_wp2_with fail
          refine (rleast_any _ (m + 1) c1 (vals l) _ _ (Row.of_own hown2) hvl (by omega) hbits).mono ?_
          rintro e w2 ⟨rfl, rfl⟩
          go_wp2_with fail
          refine (rgreatest_any _ (m + 1) c1 (vals l) _ _ (Row.of_own hown3) hvl (by omega) hbits).mono ?_
          rintro e w2 ⟨rfl, rfl⟩
          go_wp2
          go_meet
          have hne : vals l ≠ [] := by intro h; rw [h] at hvl; simp at hvl
          have hRW : refWin start ((m + 1 : Nat) : Int) (lastV l) (vals l) (vals l) (vals l) = ⟨start, ((m + 1 : Nat) : Int), csum (vals l), (leastOf (vals l)).2, (greatOf (vals l)).2, lastV l⟩ := if_neg hne
          rw [hRW]
          refine ⟨(((hz1.off (p := ⟨w.heap.size + 1, 2, none⟩) (by simp) _).off (p := ⟨w.heap.size + 1, 3, none⟩) (by simp) _).off (p := ⟨w.heap.size + 1, 4, none⟩) (by simp) _).off (p := ⟨w.heap.size + 1, 5, none⟩) (by simp) _, (((hs1.put 2 _).put 3 _).put 4 _).put 5 _, ?_⟩
          exact (((hb1.out.setCell (p := ⟨w.heap.size + 1, 2, none⟩) (by simp) _).setCell (p := ⟨w.heap.size + 1, 3, none⟩) (by simp) _).setCell (p := ⟨w.heap.size + 1, 4, none⟩) (by simp) _).setCell (p := ⟨w.heap.size + 1, 5, none⟩) (by simp) _
      case rest =>
        obtain ⟨hz2, hs2, hb2⟩ := hcut
        generalize hWW : refWin start k (lastV l) (vals l) (vals l) (vals l) = W at hs2
        obtain ⟨x0, x1, x2, x3, x4, x5⟩ := W
        have hWW := hidden hWW
        have d0 : wc.cell? ⟨w.heap.size, 0, none⟩ = some (.int .i64 0) := hz2.cell 0
        have d1 : wc.cell? ⟨w.heap.size, 1, none⟩ = some (.int .i64 0) := hz2.cell 1
        have d2 : wc.cell? ⟨w.heap.size, 2, none⟩ = some (.int .u64 0) := hz2.cell 2
        have d3 : wc.cell? ⟨w.heap.size, 3, none⟩ = some (.int .u64 0) := hz2.cell 3
        have d4 : wc.cell? ⟨w.heap.size, 4, none⟩ = some (.int .u64 0) := hz2.cell 4
        have d5 : wc.cell? ⟨w.heap.size, 5, none⟩ = some (.int .u64 0) := hz2.cell 5
        have e0 := hz2.free 0
        have e1 := hz2.free 1
        have e2 := hz2.free 2
        have e3 := hz2.free 3
        have e4 := hz2.free 4
        have e5 := hz2.free 5
        have g0 : wc.cell? ⟨w.heap.size + 1, 0, none⟩ = some (.int .i64 x0) := hs2.cell 0
        have g1 : wc.cell? ⟨w.heap.size + 1, 1, none⟩ = some (.int .i64 x1) := hs2.cell 1
        have g2 : wc.cell? ⟨w.heap.size + 1, 2, none⟩ = some (.int .u64 (x2 : Nat)) := hs2.cell 2
        have g3 : wc.cell? ⟨w.heap.size + 1, 3, none⟩ = some (.int .u64 (x3 : Nat)) := hs2.cell 3
        have g4 : wc.cell? ⟨w.heap.size + 1, 4, none⟩ = some (.int .u64 (x4 : Nat)) := hs2.cell 4
        have g5 : wc.cell? ⟨w.heap.size + 1, 5, none⟩ = some (.int .u64 (x5 : Nat)) := hs2.cell 5
        go_wp2
        have hF := put6 hz2 (.int .i64 x0) (.int .i64 x1) (.int .u64 (x2 : Nat)) (.int .u64 (x3 : Nat)) (.int .u64 (x4 : Nat)) (.int .u64 (x5 : Nat))
        have hbF := below6 hb2 (Nat.le_refl _) (.int .i64 x0) (.int .i64 x1) (.int .u64 (x2 : Nat)) (.int .u64 (x3 : Nat)) (.int .u64 (x4 : Nat)) (.int .u64 (x5 : Nat))
        clear d0 d1 d2 d3 d4 d5 e0 e1 e2 e3 e4 e5
        generalize World.setCell _ _ _ = wF at hF hbF ⊢
        have d0 : wF.cell? ⟨w.heap.size, 0, none⟩ = some (.int .i64 x0) := hF.cell 0
        have d1 : wF.cell? ⟨w.heap.size, 1, none⟩ = some (.int .i64 x1) := hF.cell 1
        have d2 : wF.cell? ⟨w.heap.size, 2, none⟩ = some (.int .u64 (x2 : Nat)) := hF.cell 2
        have d3 : wF.cell? ⟨w.heap.size, 3, none⟩ = some (.int .u64 (x3 : Nat)) := hF.cell 3
        have d4 : wF.cell? ⟨w.heap.size, 4, none⟩ = some (.int .u64 (x4 : Nat)) := hF.cell 4
        have d5 : wF.cell? ⟨w.heap.size, 5, none⟩ = some (.int .u64 (x5 : Nat)) := hF.cell 5
        refine bodyPost_ret (v := .agg #[.int .i64 x0, .int .i64 x1, .int .u64 (x2 : Nat), .int .u64 (x3 : Nat), .int .u64 (x4 : Nat), .int .u64 (x5 : Nat)]) (by simp [results, Try.results96, go_sem, d0, d1, d2, d3, d4, d5]) rfl ⟨?_, hbF⟩
        rw [hWW.out]; rfl

theorem fold_is {l : List Smp} {f : Fd} (h : Folded (l.map Smp.three) f) (hok : ∀ s ∈ l, s.ok) (start n : Int) : f.window start n (lastV l) = refWin start n (lastV l) (vals l) (vals l) (vals l) := by
  have := h.win (fun x hx => by
    obtain ⟨s, hs, rfl⟩ := List.mem_map.1 hx
    exact ⟨hok s hs, hok s hs⟩) start n (lastV l)
  rw [this]
  simp only [List.map_map, vals]
  rfl

end Go.Proofs.Ytohocdbneopooaa
