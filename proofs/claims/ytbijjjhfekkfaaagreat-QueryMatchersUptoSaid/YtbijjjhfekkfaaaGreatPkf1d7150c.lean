/- The law's helpers labelsRef and seriesRef: what they return. Condition: the rows are within the reach. Clipping by what a list tells, plainly; halves; a list cut down to some labels. No condition. What was taken away, opened. No condition. -/
import Derived.Test.YtbijjjhfekkfaaaGreatPkc787b734
import Derived.Test.YtbijjjhfekkfaaaGreatPkc02694b5
import Derived.Test.YtbijjjhfekkfaaaGreatPk33371d00
import Derived.Test.YtbijjjhfekkfaaaGreatPkfb9d4d2a
import Derived.Test.YtbijjjhfekkfaaaGreatPkc2774c96
namespace Go.Proofs.YtbijjjhfekkfaaaGreat
set_option maxRecDepth 100000
open Go.RowKit

set_option maxHeartbeats 1600000 in
theorem labelsRef26_any (A : Option Addr) (n cap : Nat) (l : List Lbl) (w : World) (hr : Row w w.heap.size 2 A n (lblCells l)) (hl : l.length = n) (hn : n * 32 ≤ 140737488351232) :
    Calls Tryz.prog 64 #[.slice A n cap] w fun e w' => ∃ v, e = .returned v ∧ w'.ownsRow w.heap.size 245 2 v n (lblCells l) ∧ Below w.heap.size w w' := by
  obtain ⟨i0, hi, hz0, hz1, hz2⟩ := info_parts info_rlbl
  go_enter Tryz.func64, Tryz.ntmps64
  go_wp2
  go_loopw [3, 8] (fun v i wr => ∃ k : Nat, k ≤ n ∧ i = .int .i64 k ∧ wr.ownsRow w.heap.size 245 2 v k (lblCells (l.take k)) ∧ Below w.heap.size w wr) (fun _ i _ => n - (intOf i).toNat)
  case atStart => exact ⟨0, Nat.zero_le _, rfl, World.ownsRow_nil _ _ _ _, Below.refl _ _⟩
  case round =>
    obtain ⟨k, hk, rfl, hown, hb⟩ := hrel
    by_cases hlt : k < n
    · obtain ⟨gs, o, rfl, hgs, hc⟩ := hr.at_ (by omega)
      have hkl : k < l.length := by omega
      have hs := lblCells_at l k hkl
      have c0 : wr.cell? ⟨gs, o + k * 2, none⟩ = some (.string l[k].name) := ((hb.cell (p := ⟨gs, o + k * 2, none⟩) hgs).trans (hc (k * 2) (by omega))).trans hs.1
      have c1 : wr.cell? ⟨gs, o + k * 2 + 1, none⟩ = some (.string l[k].value) := ((hb.cell (p := ⟨gs, o + k * 2 + 1, none⟩) hgs).trans (hc (k * 2 + 1) (by omega))).trans hs.2
      have hT := hidden (take_succ_snoc l k hkl)
      have hbs := hb.size
      clear hs hc hr hl
      have hfr := Row.fresh (wr.alloc (Obj.cells #[Value.string l[k].name, Value.string l[k].value] 114)) 245 2 1 [Value.string l[k].name, Value.string l[k].value] rfl
      rw [World.size_alloc] at hfr
      go_wp2_with (at_builtin; refine wpList_app _ rfl _ _ 120 rfl w.heap.size 245 i0 _ 2 32 Tryz.underlying120 hi hz0 hz1 hz2 rfl (by decide) _ _ _ rfl ((hown.alloc _).alloc _) _ _ _ _ _ rfl hfr (by simp [Value.oneCell']) (by unfold maxLen; omega) (by omega) (by simp; omega) ?_; intro v1 w1 hown1 hg1 hat1)
      go_roundw
      case rel =>
        refine ⟨k + 1, by omega, by go_num, ?_, ?_⟩
        · rw [hT.out, lblCells_snoc]; exact hown1
        · exact ((hb.alloc hbs _).alloc (by simp; omega) _).grown hg1 (by simp; omega) (fun j hj => (hown.lt j hj).1)
      case measure => simp [intOf]; omega
    · obtain rfl : k = n := by omega
      have hL := hidden hl
      clear hl
      go_wp2
      go_ret
      exact ⟨_, rfl, by rw [List.take_of_length_le (by rw [hL.out]; exact Nat.le_refl _)] at hown; exact hown, hb⟩

set_option maxRecDepth 100000 in
set_option maxHeartbeats 3200000 in
theorem seriesRef26_any (A : Option Addr) (n cap : Nat) (ss : List Ser) (w : World) (hr : Row w w.heap.size 3 A n (serCells ss)) (hl : ss.length = n) (hn : n * 72 ≤ 140737488351232) (hat : ∀ x ∈ ss, x.At w w.heap.size) (hok : ∀ x ∈ ss, x.Fit) :
    Calls Tryz.prog 19 #[.slice A n cap] w fun e w' => ∃ v L, e = .returned v ∧ w'.ownsRow w.heap.size 126 3 v n (serCells L) ∧ SersAs w' w.heap.size ss L ∧ Below w.heap.size w w' := by
  obtain ⟨i0, hi, hz0, hz1, hz2⟩ := info_parts info_rser
  obtain ⟨i1, hi1, hz10, hz11, hz12⟩ := info_parts info_rsmp
  obtain ⟨i2, hi2, hz20, hz21, hz22⟩ := info_parts info_rwin
  have hL := hidden hl
  clear hl
  go_enter Tryz.func19, Tryz.ntmps19
  go_wp2
  go_loopw [3, 13] (fun v i wr => ∃ (k : Nat) (L : List Ser) (vo : Value), vo = v ∧ k ≤ n ∧ i = .int .i64 k ∧ wr.ownsRow w.heap.size 126 3 v k (serCells L) ∧ SersAs wr w.heap.size (ss.take k) L ∧ (∀ y ∈ L, y.Off v.ownBlock) ∧ Below w.heap.size w wr) (fun _ i _ => n - (intOf i).toNat)
  case atStart => exact ⟨0, [], _, rfl, Nat.zero_le _, rfl, World.ownsRow_nil _ _ _ _, ⟨by simp, by simp, by simp, by simp⟩, by simp, Below.refl _ _⟩
  case round =>
    obtain ⟨k, L, vo, rfl, hk, rfl, hown, hA, hoff, hb⟩ := hrel
    by_cases hlt : k < n
    · obtain ⟨wo, rfl⟩ : ∃ wo : World, wo = wr := ⟨_, rfl⟩
      obtain ⟨gs, o, rfl, hgs, x, hx, c0, c1, c2⟩ := ser_cells_at hr hL.out hb k hlt
      have hxm := List.mem_of_getElem? hx
      have hxa := (hat x hxm).below hb
      have hxo := hok x hxm
      obtain ⟨⟨Al, nl, cl, ll⟩, ⟨As, ns, cs, ls⟩, ⟨Aw, nw, cw, lw⟩⟩ := x
      simp only [Sl.val] at c0 c1 c2
      obtain ⟨⟨_, hll, hrl⟩, ⟨_, hls, hrs⟩, ⟨_, hlw, hrw⟩⟩ := hxa
      simp only at hll hrl hls hrs hlw hrw
      obtain ⟨bl, bs, bw⟩ := hxo
      simp only [reachBytes] at bl bs bw
      have hbs := hb.size
      go_wp2_with fail
      refine (labelsRef26_any Al nl cl ll _ ((hrl.more hbs).alloc (Nat.le_refl _) _ |>.more (by simp)) hll bl).mono ?_
      rintro e w1 ⟨vl, rfl, hol, hb1⟩
      obtain ⟨Bl, kl, rfl, hkl, hr9⟩ := own_shape hol
      have hg5 : Whole1 w1 wo.heap.size 57 #[.slice Al nl cl, .slice As ns cs, .slice Aw nw cw] := (Whole1.new wo _ _).below hb1 (by simp)
      have hbw1 : Below w.heap.size w w1 := (hb.alloc hbs _).trans (hb1.mono (by simp; omega))
      have hw1s : wo.heap.size + 1 ≤ w1.heap.size := by have := hb1.size; simpa using this
      have hol' : w1.ownsRow (wo.heap.size + 1) 245 2 (.slice Bl nl kl) nl (lblCells ll) := by simpa using hol
      have hown1 : w1.ownsRow w.heap.size 126 3 vo k (serCells L) := own_below (hown.alloc _) hb1 (Nat.le_refl _)
      have hlb : ∀ q, (Value.slice Bl nl kl).ownBlock = some q → q < w1.heap.size := fun q hq => (hol'.lt q hq).2
      have HLB := hidden hlb
      clear hol hlb
      go_upto_region 6 with (fail)
      have hW6 := Whole1.new w1 126 #[.slice Bl nl kl, .slice none 0 0, .slice none 0 0]
      have hW5 := hg5.alloc (Obj.cells #[.slice Bl nl kl, .slice none 0 0, .slice none 0 0] 126)
      have hWb := hbw1.alloc hbw1.size (Obj.cells #[.slice Bl nl kl, .slice none 0 0, .slice none 0 0] 126)
      have hWl := hol'.alloc (Obj.cells #[.slice Bl nl kl, .slice none 0 0, .slice none 0 0] 126)
      have hWo := hown1.alloc (Obj.cells #[.slice Bl nl kl, .slice none 0 0, .slice none 0 0] 126)
      have hWg : wo.grownBy (w1.alloc (Obj.cells #[.slice Bl nl kl, .slice none 0 0, .slice none 0 0] 126)) none := gb_alloc (gb_trans (gb_alloc (gb_refl wo none) _) (gb_below hb1 none)) _
      have hWs : (w1.alloc (Obj.cells #[.slice Bl nl kl, .slice none 0 0, .slice none 0 0] 126)).heap.size = w1.heap.size + 1 := by simp
      generalize w1.alloc _ = W0 at *
      have H5 := hidden hW5
      have HB := hidden hWb
      have HL := hidden hWl
      have HO := hidden hWo
      have HG := hidden hWg
      have HS := hidden hWs
      clear hW5 hWb hWl hWo hWg hWs hg5 hol' hown1 hbw1 hb1
      obtain ⟨g6, hg6⟩ : ∃ g6, w1.heap.size = g6 := ⟨_, rfl⟩
      rw [hg6] at hW6 HS hw1s HLB ⊢
      have hr1 : Row w w.heap.size 2 As ns (smpCells ls) := (hat _ hxm).smp.2.2
      have hr2 : Row w w.heap.size 6 Aw nw (winCells lw) := (hat _ hxm).win.2.2
      clear hr9 hg6 w1
      have c5 : ∀ j, W0.cell? ⟨wo.heap.size, j, none⟩ = #[Value.slice Al nl cl, .slice As ns cs, .slice Aw nw cw][j]? := H5.out.cell
      have c51 : W0.cell? ⟨wo.heap.size, 1, none⟩ = some (.slice As ns cs) := c5 1
      have c52 : W0.cell? ⟨wo.heap.size, 2, none⟩ = some (.slice Aw nw cw) := c5 2
      clear c5
      go_wp2_with fail
      go_loopw [24] (fun i wx => ∃ (j : Nat) (v2 : Value), j ≤ ns ∧ i = .int .i64 j ∧ W0.grownBy wx (some g6) ∧ Whole1 wx g6 126 #[.slice Bl nl kl, v2, .slice none 0 0] ∧ wx.ownsRow (g6 + 1) 156 2 v2 j (smpCells (ls.take j))) (fun i _ => ns - (intOf i).toNat)
      case atStart => exact ⟨0, _, Nat.zero_le _, rfl, gb_refl _ _, hW6, World.ownsRow_nil _ _ _ _⟩
      case round =>
        obtain ⟨j, v2, hj, rfl, hg, hX, ho2⟩ := hrel
        by_cases hjn : j < ns
        · have hbx := below_gb HB.out hg (by rw [HS.out]; omega) (by omega)
          obtain ⟨g7, o7, rfl, y, hy, d0, d1⟩ := smp_cells_at hr1 hls hbx j hjn
          have hT := hidden (take_snoc? hy)
          obtain ⟨yt, yv⟩ := y
          simp only at d0 d1
          have hXl := hX.lt
          have hXx := (hX.alloc (Obj.cells #[.int .i64 yt, .int .u64 ((yv : Nat) : Int)] 112))
          have hgx := gb_alloc hg (Obj.cells #[.int .i64 yt, .int .u64 ((yv : Nat) : Int)] 112)
          have hox := ho2.alloc (Obj.cells #[.int .i64 yt, .int .u64 ((yv : Nat) : Int)] 112)
          have e1 := hXx.cell 1
          have f1 := hXx.free 1
          have hfr := Row.fresh (wr.alloc (Obj.cells #[.int .i64 yt, .int .u64 ((yv : Nat) : Int)] 112)) 156 2 1 [.int .i64 yt, .int .u64 ((yv : Nat) : Int)] rfl
          rw [World.size_alloc] at hfr
          have hgs' := hg.size
          rw [HS.out] at hgs'
          go_wp2_with (at_builtin; refine wpList_app _ rfl _ _ 122 rfl (g6 + 1) 156 i1 _ 2 16 Tryz.underlying122 hi1 hz10 hz11 hz12 rfl (by decide) _ _ _ rfl (hox.alloc _) _ _ _ _ _ rfl hfr (by simp [Value.oneCell']) (by unfold maxLen; omega) (by omega) (by simp; omega) ?_; intro v9 w9 hown9 hg9 hat9; obtain ⟨A9, c9, rfl, hc9, hr9⟩ := own_shape hown9; have hX9 := (hXx.alloc _).grown hg9 (own_ne ho2 (by omega)); have e9 := hX9.cell 1; have f9 := hX9.free 1)
          go_roundw
          case rel => exact ⟨j + 1, _, by omega, by go_num, gb_put (gb_far (gb_alloc hgx _) hg9 (fun q hq => by have := (ho2.lt q hq).1; rw [HS.out]; omega)) 1 _, hX9.put 1 _, by rw [hT.out, smpCells_snoc]; exact hown9.kept (gb_put (gb_refl w9 _) 1 _) (.inr fun e => own_ne hown9 (show g6 < g6 + 1 by omega) e.symm)⟩
          case measure => simp [intOf]; omega
        · obtain rfl : ns = j := by omega
          obtain ⟨W1, rfl⟩ : ∃ W1 : World, W1 = wr := ⟨_, rfl⟩
          obtain ⟨A2, k2, rfl, hk2, hr9⟩ := own_shape ho2
          rw [List.take_of_length_le (by rw [hls]; exact Nat.le_refl _)] at ho2
          clear hr9
          have h51 := H5.out.grown hg (by intro e; injection e with e; omega)
          have c6 : W1.cell? ⟨wo.heap.size, 2, none⟩ = some (.slice Aw nw cw) := h51.cell 2
          have hbW1 := below_gb HB.out hg (by rw [HS.out]; omega) (by omega)
          have hW1s := hg.size
          rw [HS.out] at hW1s
          have HG1 := hidden hg
          have HB1 := hidden hbW1
          have HO2 := hidden ho2
          have hX1 := hX
          clear hg hbW1 ho2 hX h51 c51 c52
          go_wp2_with fail
          go_loopw [42] (fun i wx => ∃ (j : Nat) (v3 : Value), j ≤ nw ∧ i = .int .i64 j ∧ W1.grownBy wx (some g6) ∧ Whole1 wx g6 126 #[.slice Bl nl kl, .slice A2 ns k2, v3] ∧ wx.ownsRow W1.heap.size 158 6 v3 j (winCells (lw.take j))) (fun i _ => nw - (intOf i).toNat)
          case atStart => exact ⟨0, _, Nat.zero_le _, rfl, gb_refl _ _, hX1, World.ownsRow_nil _ _ _ _⟩
          case round =>
            obtain ⟨j, v3, hj, rfl, hg, hX, ho3⟩ := hrel
            by_cases hjn : j < nw
            · have hbx := below_gb HB1.out hg (by omega) (by omega)
              obtain ⟨g7, o7, rfl, _, y, hy, d0, d1, d2, d3, d4, d5⟩ := win_cells_at hr2 hlw hbx j hjn
              have hT := hidden (take_snoc? hy)
              obtain ⟨y0, y1, y2, y3, y4, y5⟩ := y
              simp only at d0 d1 d2 d3 d4 d5
              have hXl := hX.lt
              have hXx := (hX.alloc (Obj.cells #[.int .i64 y0, .int .i64 y1, .int .u64 ((y2 : Nat) : Int), .int .u64 ((y3 : Nat) : Int), .int .u64 ((y4 : Nat) : Int), .int .u64 ((y5 : Nat) : Int)] 159))
              have hgx := gb_alloc hg (Obj.cells #[.int .i64 y0, .int .i64 y1, .int .u64 ((y2 : Nat) : Int), .int .u64 ((y3 : Nat) : Int), .int .u64 ((y4 : Nat) : Int), .int .u64 ((y5 : Nat) : Int)] 159)
              have hox := ho3.alloc (Obj.cells #[.int .i64 y0, .int .i64 y1, .int .u64 ((y2 : Nat) : Int), .int .u64 ((y3 : Nat) : Int), .int .u64 ((y4 : Nat) : Int), .int .u64 ((y5 : Nat) : Int)] 159)
              have e1 := hXx.cell 2
              have f1 := hXx.free 2
              have hfr := Row.fresh (wr.alloc (Obj.cells #[.int .i64 y0, .int .i64 y1, .int .u64 ((y2 : Nat) : Int), .int .u64 ((y3 : Nat) : Int), .int .u64 ((y4 : Nat) : Int), .int .u64 ((y5 : Nat) : Int)] 159)) 158 6 1 [.int .i64 y0, .int .i64 y1, .int .u64 ((y2 : Nat) : Int), .int .u64 ((y3 : Nat) : Int), .int .u64 ((y4 : Nat) : Int), .int .u64 ((y5 : Nat) : Int)] rfl
              rw [World.size_alloc] at hfr
              have hgs' := hg.size
              go_wp2_with (at_builtin; refine wpList_app _ rfl _ _ 124 rfl W1.heap.size 158 i2 _ 6 48 Tryz.underlying124 hi2 hz20 hz21 hz22 rfl (by decide) _ _ _ rfl (hox.alloc _) _ _ _ _ _ rfl hfr (by simp [Value.oneCell']) (by unfold maxLen; omega) (by omega) (by simp; omega) ?_; intro v9 w9 hown9 hg9 hat9; obtain ⟨A9, c9, rfl, hc9, hr9⟩ := own_shape hown9; have hX9 := (hXx.alloc _).grown hg9 (own_ne ho3 (by omega)); have e9 := hX9.cell 2; have f9 := hX9.free 2)
              go_roundw
              case rel => exact ⟨j + 1, _, by omega, by go_num, gb_put (gb_far (gb_alloc hgx _) hg9 (fun q hq => by have := (ho3.lt q hq).1; omega)) 2 _, hX9.put 2 _, by rw [hT.out, winCells_snoc]; exact hown9.kept (gb_put (gb_refl w9 _) 2 _) (.inr fun e => own_ne hown9 (show g6 < W1.heap.size by omega) e.symm)⟩
              case measure => simp [intOf]; omega
            · obtain rfl : nw = j := by omega
              obtain ⟨W2, rfl⟩ : ∃ W2 : World, W2 = wr := ⟨_, rfl⟩
              obtain ⟨A3, k3, rfl, hk3, hr9⟩ := own_shape ho3
              rw [List.take_of_length_le (by rw [hlw]; exact Nat.le_refl _)] at ho3
              clear hr9
              have hW2s := hg.size
              have hne : ∀ q, vo.ownBlock = some q → q < wo.heap.size := fun q hq => (hown.lt q hq).2
              have hoO : W2.ownsRow w.heap.size 126 3 vo k (serCells L) := (HO.out.kept HG1.out (.inr fun e => by have := hne _ e; omega)).kept hg (.inr fun e => by have := hne _ e; omega)
              have hoL : W2.ownsRow (wo.heap.size + 1) 245 2 (.slice Bl nl kl) nl (lblCells ll) := (HL.out.kept HG1.out (.inr fun e => by have := HLB.out _ e; omega)).kept hg (.inr fun e => by have := HLB.out _ e; omega)
              have hoS : W2.ownsRow (g6 + 1) 156 2 (.slice A2 ns k2) ns (smpCells ls) := HO2.out.kept hg (.inr fun e => own_ne HO2.out (by omega) e.symm)
              have hLw : ∀ y ∈ L, y.At W2 wo.heap.size := fun y hy => (((hA.at_ y hy).grown HG.out ⟨Sl.off_none _, Sl.off_none _, Sl.off_none _⟩ (Nat.le_refl _)).grown HG1.out ((hA.at_ y hy).off (by omega)) (by rw [HS.out]; omega)).grown hg ((hA.at_ y hy).off (by omega)) (by omega)
              have hb2 := below_gb HB1.out hg (by omega) (by omega)
              have q0 : W2.cell? ⟨g6, 0, none⟩ = some (.slice Bl nl kl) := hX.cell 0
              have q1 : W2.cell? ⟨g6, 1, none⟩ = some (.slice A2 ns k2) := hX.cell 1
              have q2 : W2.cell? ⟨g6, 2, none⟩ = some (.slice A3 nw k3) := hX.cell 2
              have hfr := Row.fresh W2 126 3 1 [.slice Bl nl kl, .slice A2 ns k2, .slice A3 nw k3] rfl
              go_wp2_with (at_builtin; refine wpList_app _ rfl _ _ 47 rfl w.heap.size 126 i0 _ 3 72 Tryz.underlying47 hi hz0 hz1 hz2 rfl (by decide) _ _ _ rfl (hoO.alloc _) _ _ _ _ _ rfl hfr (by simp [Value.oneCell']) (by unfold maxLen; omega) (by omega) (by simp; omega) ?_; intro v9 w9 hown9 hg9 hat9)
              go_roundw
              case rel =>
                have hyv : (Ser.mk ⟨Bl, nl, kl, ll⟩ ⟨A2, ns, k2, ls⟩ ⟨A3, nw, k3, lw⟩).Off vo.ownBlock := by
                  cases hvb : vo.ownBlock with
                  | none => exact Ser.off_none _
                  | some q => exact ⟨Sl.off_own hoL (by have := hne q hvb; omega), Sl.off_own hoS (by have := hne q hvb; omega), Sl.off_own ho3 (by have := hne q hvb; omega)⟩
                have hy : (Ser.mk ⟨Bl, nl, kl, ll⟩ ⟨A2, ns, k2, ls⟩ ⟨A3, nw, k3, lw⟩).At W2 W2.heap.size := ⟨⟨hkl, hll, Row.of_own hoL⟩, ⟨hk2, hls, Row.of_own hoS⟩, ⟨hk3, hlw, Row.of_own ho3⟩⟩
                have hm := sers_more hA hx (y := Ser.mk ⟨Bl, nl, kl, ll⟩ ⟨A2, ns, k2, ls⟩ ⟨A3, nw, k3, lw⟩) ⟨rfl, rfl, rfl⟩ hLw hy (fun q hq => ⟨Sl.off_own hoL (by omega), Sl.off_own hoS (by omega), Sl.off_own ho3 (by omega)⟩) hyv hoff (by omega) hg9 hat9
                exact ⟨k + 1, _, v9, rfl, by omega, by go_num, by rw [serCells_snoc]; exact hown9, hm.1, hm.2, (hb2.alloc hb2.size _).grown hg9 (by have := hb2.size; simp; omega) (fun q hq => (hown.lt q hq).1)⟩
              case measure => simp [intOf]; omega
    · obtain rfl : n = k := by omega
      rw [List.take_of_length_le (by rw [hL.out]; exact Nat.le_refl _)] at hA
      go_wp2
      go_ret
      exact ⟨_, L, rfl, hown, hA, hb⟩
end Go.Proofs.YtbijjjhfekkfaaaGreat

namespace Go.Proofs.YtbijjjhfekkfaaaGreat
set_option maxRecDepth 100000
open Go.RowKit

def clip1 (a b : Int) (s : SK) : SK := (s.1, s.2.1.filter (fun y => inR a b y.t), s.2.2.filter (fun y => inR a b y.start))
theorem clip1_of (a b : Int) (k : List Lbl) : ∀ l : List SK, smpsOf k (l.map (clip1 a b)) = (smpsOf k l).filter (fun y => inR a b y.t) ∧ winsOf k (l.map (clip1 a b)) = (winsOf k l).filter (fun y => inR a b y.start)
  | [] => ⟨rfl, rfl⟩
  | x :: l => by
    obtain ⟨h1, h2⟩ := clip1_of a b k l
    have e : x :: l = [x] ++ l := rfl
    have e2 : (x :: l).map (clip1 a b) = [clip1 a b x] ++ l.map (clip1 a b) := rfl
    rw [e2, e, smpsOf_app, smpsOf_app, winsOf_app, winsOf_app, h1, h2, smpsOf_one, smpsOf_one, winsOf_one, winsOf_one, List.filter_append, List.filter_append]
    have hk : (clip1 a b x).1 = x.1 := rfl
    rw [hk]
    by_cases h : x.1 = k
    · rw [if_pos h, if_pos h, if_pos h, if_pos h]; exact ⟨rfl, rfl⟩
    · rw [if_neg h, if_neg h, if_neg h, if_neg h]; exact ⟨rfl, rfl⟩
theorem find_filter {α : Type} (tt : α → Int) (q : Int → Bool) (t : Int) (l : List α) : (l.filter fun x => q (tt x)).find? (fun x => tt x == t) = if q t = true then l.find? (fun x => tt x == t) else none := by
  induction l with
  | nil => simp
  | cons x l ih =>
    rw [List.filter_cons]
    by_cases ht : tt x = t
    · subst ht
      by_cases hq : q (tt x) = true
      · rw [if_pos hq, if_pos hq, List.find?_cons_of_pos (by simp), List.find?_cons_of_pos (by simp)]
      · rw [if_neg hq, ih, if_neg hq, if_neg hq]
    · have hb : ∀ r : List α, (x :: r).find? (fun x => tt x == t) = r.find? (fun x => tt x == t) := fun r => List.find?_cons_of_neg (by simpa using ht)
      by_cases hq : q (tt x) = true
      · rw [if_pos hq, hb, hb, ih]
      · rw [if_neg hq, hb, ih]
theorem sem_clip (a b : Int) (l : List SK) (k : List Lbl) (t : Int) : semS (clipSK a b l) k t = (if inR a b t = true then semS l k t else none) ∧ semW (clipSK a b l) k t = (if inR a b t = true then semW l k t else none) := by
  have he := eqv_fulls (l.map (clip1 a b)) k t
  have h1 : semS (clipSK a b l) k t = semS (l.map (clip1 a b)) k t := he.1
  have h2 : semW (clipSK a b l) k t = semW (l.map (clip1 a b)) k t := he.2
  rw [h1, h2]
  unfold semS semW
  rw [(clip1_of a b k l).1, (clip1_of a b k l).2]
  exact ⟨find_filter Smp.t (inR a b) t _, find_filter Win.start (inR a b) t _⟩
theorem canon_clip (a b : Int) {l : List SK} (h : Canon l) : Canon (clipSK a b l) := by
  have hmem : ∀ e ∈ clipSK a b l, ∃ s ∈ l, e = clip1 a b s := fun e he => by
    obtain ⟨s, hs, rfl⟩ := List.mem_map.1 (List.mem_filter.1 he).1
    exact ⟨s, hs, rfl⟩
  refine ⟨?_, fun e he => ?_, fun e he => ?_, fun e he => fulls_full _ e he⟩
  · have : (l.map (clip1 a b)).Pairwise fun x y => cmpLs x.1 y.1 < 0 := List.pairwise_map.2 h.order
    exact this.sublist List.filter_sublist
  · obtain ⟨s, hs, rfl⟩ := hmem e he
    exact (h.smps s hs).sublist List.filter_sublist
  · obtain ⟨s, hs, rfl⟩ := hmem e he
    exact (h.wins s hs).sublist List.filter_sublist
theorem clip_len (a b : Int) (l : List SK) : (clipSK a b l).length ≤ l.length ∧ MR.ssum (clipSK a b l) ≤ MR.ssum l := by
  constructor
  · refine Nat.le_trans (List.length_filter_le _ _) ?_
    rw [List.length_map]; exact Nat.le_refl _
  · refine Nat.le_trans (show MR.ssum (fulls _) ≤ MR.ssum _ from ssum_sub List.filter_sublist) ?_
    induction l with
    | nil => exact Nat.le_refl _
    | cons x l ih =>
      have e : ∀ (x : SK) (l : List SK), MR.ssum (x :: l) = x.2.1.length + x.2.2.length + MR.ssum l := fun x l => by simp [MR.ssum]
      rw [List.map_cons, e, e]
      have h1 := List.length_filter_le (fun y : Smp => inR a b y.t) x.2.1
      have h2 := List.length_filter_le (fun y : Win => inR a b y.start) x.2.2
      have := ih
      simp only at *
      omega
/-- all times within the machine's integers -/
theorem inR_yes {a b t : Int} (h : a ≤ t ∧ t ≤ b) : inR a b t = true := by simp [inR, h.1, h.2]
theorem inR_no {a b t : Int} (h : ¬ (a ≤ t ∧ t ≤ b)) : inR a b t = false := by
  unfold inR
  by_cases h1 : a ≤ t
  · have : ¬ t ≤ b := fun h2 => h ⟨h1, h2⟩
    simp [this]
  · simp [h1]
/-- the whole range clips nothing away -/
theorem clip_empty {a b : Int} (h : b < a) (l : List SK) : clipSK a b l = [] := by
  have hn : ∀ t, inR a b t = false := fun t => inR_no (by omega)
  unfold clipSK fulls
  rw [List.filter_eq_nil_iff]
  intro s hs
  obtain ⟨s', _, rfl⟩ := List.mem_map.1 hs
  simp [hn]
/-- those whose labels fit -/
def filtK (ms : List Mt) (l : List SK) : List SK := l.filter fun s => allM s.1 ms
theorem filtK_of (ms : List Mt) (k : List Lbl) : ∀ l : List SK, smpsOf k (filtK ms l) = (if allM k ms = true then smpsOf k l else []) ∧ winsOf k (filtK ms l) = (if allM k ms = true then winsOf k l else [])
  | [] => by simp [filtK, smpsOf, winsOf]
  | s :: l => by
    have ih := filtK_of ms k l
    have e1 : smpsOf k (s :: l) = smpsOf k [s] ++ smpsOf k l := smpsOf_app k [s] l
    have e2 : winsOf k (s :: l) = winsOf k [s] ++ winsOf k l := winsOf_app k [s] l
    by_cases hs : allM s.1 ms = true
    · have e3 : filtK ms (s :: l) = [s] ++ filtK ms l := by unfold filtK; rw [List.filter_cons_of_pos (p := fun s : SK => allM s.1 ms) hs]; rfl
      rw [e3, smpsOf_app, winsOf_app, ih.1, ih.2, e1, e2, smpsOf_one, winsOf_one]
      by_cases hk : s.1 = k
      · rw [← hk, if_pos rfl, if_pos rfl, if_pos hs, if_pos hs, if_pos hs, if_pos hs]; exact ⟨rfl, rfl⟩
      · rw [if_neg hk, if_neg hk]; exact ⟨rfl, rfl⟩
    · have e3 : filtK ms (s :: l) = filtK ms l := by unfold filtK; rw [List.filter_cons_of_neg (p := fun s : SK => allM s.1 ms) hs]
      rw [e3, ih.1, ih.2, e1, e2, smpsOf_one, winsOf_one]
      by_cases hk : s.1 = k
      · rw [← hk, if_neg hs, if_neg hs, if_neg hs, if_neg hs]; exact ⟨rfl, rfl⟩
      · rw [if_neg hk, if_neg hk]; exact ⟨rfl, rfl⟩
theorem sem_filt (ms : List Mt) (l : List SK) (k : List Lbl) (t : Int) : semS (filtK ms l) k t = (if allM k ms = true then semS l k t else none) ∧ semW (filtK ms l) k t = (if allM k ms = true then semW l k t else none) := by
  unfold semS semW
  rw [(filtK_of ms k l).1, (filtK_of ms k l).2]
  by_cases h : allM k ms = true
  · rw [if_pos h, if_pos h, if_pos h, if_pos h]; exact ⟨rfl, rfl⟩
  · rw [if_neg h, if_neg h, if_neg h, if_neg h]; exact ⟨rfl, rfl⟩
theorem canon_filt (ms : List Mt) {l : List SK} (h : Canon l) : Canon (filtK ms l) := by
  obtain ⟨h1, h2, h3, h4⟩ := h
  exact ⟨h1.sublist List.filter_sublist, fun e he => h2 e (List.mem_filter.1 he).1, fun e he => h3 e (List.mem_filter.1 he).1, fun e he => h4 e (List.mem_filter.1 he).1⟩
/-- what is asked for in two ranges that make a third is what is asked for in that -/
theorem eqv_ranges (ms : List Mt) {S : List SK} {a b c d e f : Int} (h : ∀ t, (e ≤ t ∧ t ≤ f) ↔ (a ≤ t ∧ t ≤ b) ∨ (c ≤ t ∧ t ≤ d)) : Eqv (filtK ms (clipSK a b S) ++ filtK ms (clipSK c d S)) (filtK ms (clipSK e f S)) := fun k t => by
  rw [semS_app, semW_app, (sem_filt ms _ k t).1, (sem_filt ms _ k t).2, (sem_filt ms _ k t).1, (sem_filt ms _ k t).2, (sem_filt ms _ k t).1, (sem_filt ms _ k t).2, (sem_clip a b S k t).1, (sem_clip a b S k t).2, (sem_clip c d S k t).1, (sem_clip c d S k t).2, (sem_clip e f S k t).1, (sem_clip e f S k t).2]
  by_cases hm : allM k ms = true
  · simp only [if_pos hm]
    by_cases h1 : a ≤ t ∧ t ≤ b
    · rw [inR_yes h1, inR_yes ((h t).2 (.inl h1))]
      simp only [if_true]
      by_cases h2 : c ≤ t ∧ t ≤ d
      · rw [inR_yes h2]; simp only [if_true]
        exact ⟨by cases semS S k t <;> rfl, by cases semW S k t <;> rfl⟩
      · rw [inR_no h2]
        exact ⟨by cases semS S k t <;> rfl, by cases semW S k t <;> rfl⟩
    · rw [inR_no h1]
      by_cases h2 : c ≤ t ∧ t ≤ d
      · rw [inR_yes h2, inR_yes ((h t).2 (.inr h2))]
        exact ⟨rfl, rfl⟩
      · rw [inR_no h2, inR_no (fun h3 => ((h t).1 h3).elim h1 h2)]
        exact ⟨rfl, rfl⟩
  · simp only [if_neg hm]
    exact ⟨rfl, rfl⟩
theorem filt_len (ms : List Mt) (l : List SK) : (filtK ms l).length ≤ l.length ∧ MR.ssum (filtK ms l) ≤ MR.ssum l := ⟨List.length_filter_le _ _, ssum_sub List.filter_sublist⟩
end Go.Proofs.YtbijjjhfekkfaaaGreat

namespace Go.Proofs.YtbijjjhfekkfaaaGreat
set_option maxRecDepth 100000
open Go.RowKit

structure Gon.Fit (x : Gon) : Prop where
  labn : x.lab.n * 32 ≤ 140737488351232
  n0 : x.s0.n * 16 ≤ 140737488351232
  n1 : x.s1.n * 16 ≤ 140737488351232
  n2 : x.s2.n * 16 ≤ 140737488351232
structure Gon.Off (X : Option Nat) (x : Gon) : Prop where
  lab : x.lab.Off X
  s0 : x.s0.Off X
  s1 : x.s1.Off X
  s2 : x.s2.Off X

section
variable {H : Type} {enc : TypeId × Value → H} {P : Program} {W : World} {b : Nat}
/-- an array of three -/
theorem open_arr3 {t e : TypeId} {fuel : Nat} {c0 c1 c2 : Value} {x : DataW H × List MemPlace} (ht : P.underlying t = some (.array 3 e)) (hce : P.cellsOf e = 1) (h : DataW.trod enc P W 0 (fun _ => true) true fuel t [c0, c1, c2] = some x) (hf : Fits P W b t x) :
    ∃ n y0 y1 y2, (DataW.trod enc P W 0 (fun _ => true) true n e [c0] = some y0 ∧ Fits P W b e y0) ∧ (DataW.trod enc P W 0 (fun _ => true) true n e [c1] = some y1 ∧ Fits P W b e y1) ∧ (DataW.trod enc P W 0 (fun _ => true) true n e [c2] = some y2 ∧ Fits P W b e y2) := by
  obtain ⟨y0, y1, y2, n, rfl, h0, h1, h2⟩ := Go.ChangeShapes.trod_array3 ht hce h
  have hb : Rows.uptoBulkAll [y0.1, y1.1, y2.1] + 1 ≤ b := hf.small
  have hw : ∀ d ∈ [y0.1, y1.1, y2.1], (∀ k ∈ d.weights P e, k ≤ reachBytes) ∧ Rows.uptoBulk d ≤ b := fun d hd => ⟨fun k hk => hf.light k (by simp only [DataW.weights, ht]; exact weights_all hd hk), by have := bulk_mem hd; omega⟩
  refine ⟨n, y0, y1, y2, ⟨h0, fun p hp => hf.old p (by simp [hp]), (hw _ (by simp)).1, (hw _ (by simp)).2⟩, ⟨h1, fun p hp => hf.old p (by simp [hp]), (hw _ (by simp)).1, (hw _ (by simp)).2⟩, ⟨h2, fun p hp => hf.old p (by simp [hp]), (hw _ (by simp)).1, (hw _ (by simp)).2⟩⟩

theorem opens_spn : Opens enc Tryz.prog W b 83 Spn.cells Spn.ok := by
  intro fuel cs x h hf
  obtain ⟨n, hl, hp⟩ := open_ones Tryz.underlying83 (by kernel_rfl) (by kernel_rfl) h hf
  obtain ⟨u0, y0, c0, t0, f0⟩ := hp 0 _ rfl
  obtain ⟨u1, y1, c1, t1, f1⟩ := hp 1 _ rfl
  obtain ⟨s0, e0, g0⟩ := opens_int Tryz.underlying2 _ _ _ t0 f0
  obtain ⟨s1, e1, g1⟩ := opens_int Tryz.underlying2 _ _ _ t1 f1
  simp only [List.cons.injEq, and_true] at e0 e1
  subst e0 e1
  have w0 := wf_i64 g0
  have w1 := wf_i64 g1
  match cs, hl with
  | [a, c], _ =>
    simp only [List.getElem?_cons_zero, List.getElem?_cons_succ, Option.some.injEq] at c0 c1
    exact ⟨⟨s0, s1⟩, by rw [c0, c1]; rfl, w0.1, w0.2, w1.1, w1.2⟩
theorem opens_gon : Opens enc Tryz.prog W b 359 Gon.cells (fun x => x.At W W.heap.size ∧ x.Fit) := by
  intro fuel cs x h hf
  obtain ⟨n, hl, hp⟩ := open_parts Tryz.underlying359 h hf
  obtain ⟨y0, t0, f0⟩ := hp 0 _ rfl
  obtain ⟨y1, t1, f1⟩ := hp 1 _ rfl
  rw [show Tryz.prog.cellsOf 359 = 4 from by kernel_rfl] at hl
  match cs, hl with
  | [a, c, d, e], _ =>
    have t0 : DataW.trod enc Tryz.prog W 0 (fun _ => true) true n 53 (([a, c, d, e].drop 0).take (Tryz.prog.cellsOf 53)) = some y0 := t0
    have t1 : DataW.trod enc Tryz.prog W 0 (fun _ => true) true n 107 (([a, c, d, e].drop 1).take (Tryz.prog.cellsOf 107)) = some y1 := t1
    rw [show Tryz.prog.cellsOf 53 = 1 from by kernel_rfl] at t0
    rw [show Tryz.prog.cellsOf 107 = 3 from by kernel_rfl] at t1
    simp only [List.drop_zero, List.drop_succ_cons, List.take_succ_cons, List.take_zero] at t0 t1
    obtain ⟨s0, e0, g0⟩ := opens_slice (k := 2) (f := Lbl.cells) Tryz.underlying53 (by kernel_rfl) (by decide) (fun _ => rfl) opens_lbl _ _ _ t0 f0
    obtain ⟨m, z0, z1, z2, ⟨r0, q0⟩, ⟨r1, q1⟩, ⟨r2, q2⟩⟩ := open_arr3 Tryz.underlying107 (by kernel_rfl) t1 f1
    obtain ⟨s1, e1, g1⟩ := opens_slice (k := 2) (f := Spn.cells) Tryz.underlying105 (by kernel_rfl) (by decide) (fun _ => rfl) opens_spn _ _ _ r0 q0
    obtain ⟨s2, e2, g2⟩ := opens_slice (k := 2) (f := Spn.cells) Tryz.underlying105 (by kernel_rfl) (by decide) (fun _ => rfl) opens_spn _ _ _ r1 q1
    obtain ⟨s3, e3, g3⟩ := opens_slice (k := 2) (f := Spn.cells) Tryz.underlying105 (by kernel_rfl) (by decide) (fun _ => rfl) opens_spn _ _ _ r2 q2
    simp only [List.cons.injEq, and_true] at e0 e1 e2 e3
    subst e0 e1 e2 e3
    exact ⟨⟨s0, s1, s2, s3⟩, rfl, ⟨g0.1, g1.1, g2.1, g3.1⟩, ⟨g0.2.2.1, g1.2.2.1, g2.2.2.1, g3.2.2.1⟩⟩
end
end Go.Proofs.YtbijjjhfekkfaaaGreat
