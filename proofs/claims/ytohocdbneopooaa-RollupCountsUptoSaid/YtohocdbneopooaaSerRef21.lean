/- The law's helpers labelsRef and seriesRef: what they return. Condition: the rows are within the reach. -/
import Derived.Test.YtohocdbneopooaaSerMem
namespace Go.Proofs.Ytohocdbneopooaa
set_option maxRecDepth 100000
open Go.RowKit

set_option maxHeartbeats 1600000 in
theorem labelsRef21_any (A : Option Addr) (n cap : Nat) (l : List Lbl) (w : World) (hr : Row w w.heap.size 2 A n (lblCells l)) (hl : l.length = n) (hn : n * 32 ≤ 140737488351232) :
    Calls Try.prog 69 #[.slice A n cap] w fun e w' => ∃ v, e = .returned v ∧ w'.ownsRow w.heap.size 146 2 v n (lblCells l) ∧ Below w.heap.size w w' := by
  obtain ⟨i0, hi, hz0, hz1, hz2⟩ := info_parts info_rlbl
  go_enter Try.func69, Try.ntmps69
  go_wp2
  go_loopw [3, 8] (fun v i wr => ∃ k : Nat, k ≤ n ∧ i = .int .i64 k ∧ wr.ownsRow w.heap.size 146 2 v k (lblCells (l.take k)) ∧ Below w.heap.size w wr) (fun _ i _ => n - (intOf i).toNat)
  case atStart => exact ⟨0, Nat.zero_le _, rfl, World.ownsRow_nil _ _ _ _, Below.refl _ _⟩
  case round =>
    obtain ⟨k, hk, rfl, hown, hb⟩ := hrel
    by_cases hlt : k < n
    · obtain ⟨gs, o, rfl, hgs, hc⟩ := hr.at_ (by omega)
      have hkl : k < l.length := by omega
      have hs := lblCells_at l k hkl
      have c0 : wr.cell? ⟨gs, o + k * 2, none⟩ = some (.string l[k].name) := ((hb.cell (p := ⟨gs, o + k * 2, none⟩) hgs).trans (hc (k * 2) (by omega))).trans hs.1
      have c1 : wr.cell? ⟨gs, o + k * 2 + 1, none⟩ = some (.string l[k].value) := ((hb.cell (p := ⟨gs, o + k * 2 + 1, none⟩) hgs).trans (hc (k * 2 + 1) (by omega))).trans hs.2
      have hT := hidden (take_succ_snoc l k hkl)
      have hbs := hb.size
      clear hs hc hr hl
      have hfr := Row.fresh (wr.alloc (Obj.cells #[Value.string l[k].name, Value.string l[k].value] 57)) 146 2 1 [Value.string l[k].name, Value.string l[k].value] rfl
      rw [World.size_alloc] at hfr
      go_wp2_with (at_builtin; refine wpList_app _ rfl _ _ 80 rfl w.heap.size 146 i0 _ 2 32 Try.underlying80 hi hz0 hz1 hz2 rfl (by decide) _ _ _ rfl ((hown.alloc _).alloc _) _ _ _ _ _ rfl hfr (by simp [Value.oneCell']) (by unfold maxLen; omega) (by omega) (by simp; omega) ?_; intro v1 w1 hown1 hg1 hat1)
      go_roundw
      case rel =>
        refine ⟨k + 1, by omega, by go_num, ?_, ?_⟩
        · rw [hT.out, lblCells_snoc]; exact hown1
        · exact ((hb.alloc hbs _).alloc (by simp; omega) _).grown hg1 (by simp; omega) (fun j hj => (hown.lt j hj).1)
      case measure => simp [intOf]; omega
    · obtain rfl : k = n := by omega
      have hL := hidden hl
      clear hl
      go_wp2
      go_ret
      exact ⟨_, rfl, by rw [List.take_of_length_le (by rw [hL.out]; exact Nat.le_refl _)] at hown; exact hown, hb⟩

set_option maxRecDepth 100000 in
set_option maxHeartbeats 3200000 in
theorem seriesRef21_any (A : Option Addr) (n cap : Nat) (ss : List Ser) (w : World) (hr : Row w w.heap.size 3 A n (serCells ss)) (hl : ss.length = n) (hn : n * 72 ≤ 140737488351232) (hat : ∀ x ∈ ss, x.At w w.heap.size) (hok : ∀ x ∈ ss, x.Fit) :
    Calls Try.prog 26 #[.slice A n cap] w fun e w' => ∃ v L, e = .returned v ∧ w'.ownsRow w.heap.size 85 3 v n (serCells L) ∧ SersAs w' w.heap.size ss L ∧ Below w.heap.size w w' := by
  obtain ⟨i0, hi, hz0, hz1, hz2⟩ := info_parts info_rser
  obtain ⟨i1, hi1, hz10, hz11, hz12⟩ := info_parts info_rsmp
  obtain ⟨i2, hi2, hz20, hz21, hz22⟩ := info_parts info_rwin
  have hL := hidden hl
  clear hl
  go_enter Try.func26, Try.ntmps26
  go_wp2
  go_loopw [3, 13] (fun v i wr => ∃ (k : Nat) (L : List Ser) (vo : Value), vo = v ∧ k ≤ n ∧ i = .int .i64 k ∧ wr.ownsRow w.heap.size 85 3 v k (serCells L) ∧ SersAs wr w.heap.size (ss.take k) L ∧ (∀ y ∈ L, y.Off v.ownBlock) ∧ Below w.heap.size w wr) (fun _ i _ => n - (intOf i).toNat)
  case atStart => exact ⟨0, [], _, rfl, Nat.zero_le _, rfl, World.ownsRow_nil _ _ _ _, ⟨by simp, by simp, by simp, by simp⟩, by simp, Below.refl _ _⟩
  case round =>
    obtain ⟨k, L, vo, rfl, hk, rfl, hown, hA, hoff, hb⟩ := hrel
    by_cases hlt : k < n
    · obtain ⟨wo, rfl⟩ : ∃ wo : World, wo = wr := ⟨_, rfl⟩
      obtain ⟨gs, o, rfl, hgs, x, hx, c0, c1, c2⟩ := ser_cells_at hr hL.out hb k hlt
      have hxm := List.mem_of_getElem? hx
      have hxa := (hat x hxm).below hb
      have hxo := hok x hxm
      obtain ⟨⟨Al, nl, cl, ll⟩, ⟨As, ns, cs, ls⟩, ⟨Aw, nw, cw, lw⟩⟩ := x
      simp only [Sl.val] at c0 c1 c2
      obtain ⟨⟨_, hll, hrl⟩, ⟨_, hls, hrs⟩, ⟨_, hlw, hrw⟩⟩ := hxa
      simp only at hll hrl hls hrs hlw hrw
      obtain ⟨bl, bs, bw⟩ := hxo
      simp only [reachBytes] at bl bs bw
      have hbs := hb.size
      go_wp2_with fail
      refine (labelsRef21_any Al nl cl ll _ ((hrl.more hbs).alloc (Nat.le_refl _) _ |>.more (by simp)) hll bl).mono ?_
      rintro e w1 ⟨vl, rfl, hol, hb1⟩
      obtain ⟨Bl, kl, rfl, hkl, hr9⟩ := own_shape hol
      have hg5 : Whole1 w1 wo.heap.size 46 #[.slice Al nl cl, .slice As ns cs, .slice Aw nw cw] := (Whole1.new wo _ _).below hb1 (by simp)
      have hbw1 : Below w.heap.size w w1 := (hb.alloc hbs _).trans (hb1.mono (by simp; omega))
      have hw1s : wo.heap.size + 1 ≤ w1.heap.size := by have := hb1.size; simpa using this
      have hol' : w1.ownsRow (wo.heap.size + 1) 146 2 (.slice Bl nl kl) nl (lblCells ll) := by simpa using hol
      have hown1 : w1.ownsRow w.heap.size 85 3 vo k (serCells L) := own_below (hown.alloc _) hb1 (Nat.le_refl _)
      have hlb : ∀ q, (Value.slice Bl nl kl).ownBlock = some q → q < w1.heap.size := fun q hq => (hol'.lt q hq).2
      have HLB := hidden hlb
      clear hol hlb
      go_upto_region 6 with (fail)
      have hW6 := Whole1.new w1 85 #[.slice Bl nl kl, .slice none 0 0, .slice none 0 0]
      have hW5 := hg5.alloc (Obj.cells #[.slice Bl nl kl, .slice none 0 0, .slice none 0 0] 85)
      have hWb := hbw1.alloc hbw1.size (Obj.cells #[.slice Bl nl kl, .slice none 0 0, .slice none 0 0] 85)
      have hWl := hol'.alloc (Obj.cells #[.slice Bl nl kl, .slice none 0 0, .slice none 0 0] 85)
      have hWo := hown1.alloc (Obj.cells #[.slice Bl nl kl, .slice none 0 0, .slice none 0 0] 85)
      have hWg : wo.grownBy (w1.alloc (Obj.cells #[.slice Bl nl kl, .slice none 0 0, .slice none 0 0] 85)) none := gb_alloc (gb_trans (gb_alloc (gb_refl wo none) _) (gb_below hb1 none)) _
      have hWs : (w1.alloc (Obj.cells #[.slice Bl nl kl, .slice none 0 0, .slice none 0 0] 85)).heap.size = w1.heap.size + 1 := by simp
      generalize w1.alloc _ = W0 at *
      have H5 := hidden hW5
      have HB := hidden hWb
      have HL := hidden hWl
      have HO := hidden hWo
      have HG := hidden hWg
      have HS := hidden hWs
      clear hW5 hWb hWl hWo hWg hWs hg5 hol' hown1 hbw1 hb1
      obtain ⟨g6, hg6⟩ : ∃ g6, w1.heap.size = g6 := ⟨_, rfl⟩
      rw [hg6] at hW6 HS hw1s HLB ⊢
      have hr1 : Row w w.heap.size 2 As ns (smpCells ls) := (hat _ hxm).smp.2.2
      have hr2 : Row w w.heap.size 6 Aw nw (winCells lw) := (hat _ hxm).win.2.2
      clear hr9 hg6 w1
      have c5 : ∀ j, W0.cell? ⟨wo.heap.size, j, none⟩ = #[Value.slice Al nl cl, .slice As ns cs, .slice Aw nw cw][j]? := H5.out.cell
      have c51 : W0.cell? ⟨wo.heap.size, 1, none⟩ = some (.slice As ns cs) := c5 1
      have c52 : W0.cell? ⟨wo.heap.size, 2, none⟩ = some (.slice Aw nw cw) := c5 2
      clear c5
      go_wp2_with fail
      go_loopw [24] (fun i wx => ∃ (j : Nat) (v2 : Value), j ≤ ns ∧ i = .int .i64 j ∧ W0.grownBy wx (some g6) ∧ Whole1 wx g6 85 #[.slice Bl nl kl, v2, .slice none 0 0] ∧ wx.ownsRow (g6 + 1) 86 2 v2 j (smpCells (ls.take j))) (fun i _ => ns - (intOf i).toNat)
      case atStart => exact ⟨0, _, Nat.zero_le _, rfl, gb_refl _ _, hW6, World.ownsRow_nil _ _ _ _⟩
      case round =>
        obtain ⟨j, v2, hj, rfl, hg, hX, ho2⟩ := hrel
        by_cases hjn : j < ns
        · have hbx := below_gb HB.out hg (by rw [HS.out]; omega) (by omega)
          obtain ⟨g7, o7, rfl, y, hy, d0, d1⟩ := smp_cells_at hr1 hls hbx j hjn
          have hT := hidden (take_snoc? hy)
          obtain ⟨yt, yv⟩ := y
          simp only at d0 d1
          have hXl := hX.lt
          have hXx := (hX.alloc (Obj.cells #[.int .i64 yt, .int .u64 ((yv : Nat) : Int)] 55))
          have hgx := gb_alloc hg (Obj.cells #[.int .i64 yt, .int .u64 ((yv : Nat) : Int)] 55)
          have hox := ho2.alloc (Obj.cells #[.int .i64 yt, .int .u64 ((yv : Nat) : Int)] 55)
          have e1 := hXx.cell 1
          have f1 := hXx.free 1
          have hfr := Row.fresh (wr.alloc (Obj.cells #[.int .i64 yt, .int .u64 ((yv : Nat) : Int)] 55)) 86 2 1 [.int .i64 yt, .int .u64 ((yv : Nat) : Int)] rfl
          rw [World.size_alloc] at hfr
          have hgs' := hg.size
          rw [HS.out] at hgs'
          go_wp2_with (at_builtin; refine wpList_app _ rfl _ _ 82 rfl (g6 + 1) 86 i1 _ 2 16 Try.underlying82 hi1 hz10 hz11 hz12 rfl (by decide) _ _ _ rfl (hox.alloc _) _ _ _ _ _ rfl hfr (by simp [Value.oneCell']) (by unfold maxLen; omega) (by omega) (by simp; omega) ?_; intro v9 w9 hown9 hg9 hat9; obtain ⟨A9, c9, rfl, hc9, hr9⟩ := own_shape hown9; have hX9 := (hXx.alloc _).grown hg9 (own_ne ho2 (by omega)); have e9 := hX9.cell 1; have f9 := hX9.free 1)
          go_roundw
          case rel => exact ⟨j + 1, _, by omega, by go_num, gb_put (gb_far (gb_alloc hgx _) hg9 (fun q hq => by have := (ho2.lt q hq).1; rw [HS.out]; omega)) 1 _, hX9.put 1 _, by rw [hT.out, smpCells_snoc]; exact hown9.kept (gb_put (gb_refl w9 _) 1 _) (.inr fun e => own_ne hown9 (show g6 < g6 + 1 by omega) e.symm)⟩
          case measure => simp [intOf]; omega
        · obtain rfl : ns = j := by omega
          obtain ⟨W1, rfl⟩ : ∃ W1 : World, W1 = wr := ⟨_, rfl⟩
          obtain ⟨A2, k2, rfl, hk2, hr9⟩ := own_shape ho2
          rw [List.take_of_length_le (by rw [hls]; exact Nat.le_refl _)] at ho2
          clear hr9
          have h51 := H5.out.grown hg (by intro e; injection e with e; omega)
          have c6 : W1.cell? ⟨wo.heap.size, 2, none⟩ = some (.slice Aw nw cw) := h51.cell 2
          have hbW1 := below_gb HB.out hg (by rw [HS.out]; omega) (by omega)
          have hW1s := hg.size
          rw [HS.out] at hW1s
          have HG1 := hidden hg
          have HB1 := hidden hbW1
          have HO2 := hidden ho2
          have hX1 := hX
          clear hg hbW1 ho2 hX h51 c51 c52
          go_wp2_with fail
          go_loopw [42] (fun i wx => ∃ (j : Nat) (v3 : Value), j ≤ nw ∧ i = .int .i64 j ∧ W1.grownBy wx (some g6) ∧ Whole1 wx g6 85 #[.slice Bl nl kl, .slice A2 ns k2, v3] ∧ wx.ownsRow W1.heap.size 89 6 v3 j (winCells (lw.take j))) (fun i _ => nw - (intOf i).toNat)
          case atStart => exact ⟨0, _, Nat.zero_le _, rfl, gb_refl _ _, hX1, World.ownsRow_nil _ _ _ _⟩
          case round =>
            obtain ⟨j, v3, hj, rfl, hg, hX, ho3⟩ := hrel
            by_cases hjn : j < nw
            · have hbx := below_gb HB1.out hg (by omega) (by omega)
              obtain ⟨g7, o7, rfl, _, y, hy, d0, d1, d2, d3, d4, d5⟩ := win_cells_at hr2 hlw hbx j hjn
              have hT := hidden (take_snoc? hy)
              obtain ⟨y0, y1, y2, y3, y4, y5⟩ := y
              simp only at d0 d1 d2 d3 d4 d5
              have hXl := hX.lt
              have hXx := (hX.alloc (Obj.cells #[.int .i64 y0, .int .i64 y1, .int .u64 ((y2 : Nat) : Int), .int .u64 ((y3 : Nat) : Int), .int .u64 ((y4 : Nat) : Int), .int .u64 ((y5 : Nat) : Int)] 88))
              have hgx := gb_alloc hg (Obj.cells #[.int .i64 y0, .int .i64 y1, .int .u64 ((y2 : Nat) : Int), .int .u64 ((y3 : Nat) : Int), .int .u64 ((y4 : Nat) : Int), .int .u64 ((y5 : Nat) : Int)] 88)
              have hox := ho3.alloc (Obj.cells #[.int .i64 y0, .int .i64 y1, .int .u64 ((y2 : Nat) : Int), .int .u64 ((y3 : Nat) : Int), .int .u64 ((y4 : Nat) : Int), .int .u64 ((y5 : Nat) : Int)] 88)
              have e1 := hXx.cell 2
              have f1 := hXx.free 2
              have hfr := Row.fresh (wr.alloc (Obj.cells #[.int .i64 y0, .int .i64 y1, .int .u64 ((y2 : Nat) : Int), .int .u64 ((y3 : Nat) : Int), .int .u64 ((y4 : Nat) : Int), .int .u64 ((y5 : Nat) : Int)] 88)) 89 6 1 [.int .i64 y0, .int .i64 y1, .int .u64 ((y2 : Nat) : Int), .int .u64 ((y3 : Nat) : Int), .int .u64 ((y4 : Nat) : Int), .int .u64 ((y5 : Nat) : Int)] rfl
              rw [World.size_alloc] at hfr
              have hgs' := hg.size
              go_wp2_with (at_builtin; refine wpList_app _ rfl _ _ 83 rfl W1.heap.size 89 i2 _ 6 48 Try.underlying83 hi2 hz20 hz21 hz22 rfl (by decide) _ _ _ rfl (hox.alloc _) _ _ _ _ _ rfl hfr (by simp [Value.oneCell']) (by unfold maxLen; omega) (by omega) (by simp; omega) ?_; intro v9 w9 hown9 hg9 hat9; obtain ⟨A9, c9, rfl, hc9, hr9⟩ := own_shape hown9; have hX9 := (hXx.alloc _).grown hg9 (own_ne ho3 (by omega)); have e9 := hX9.cell 2; have f9 := hX9.free 2)
              go_roundw
              case rel => exact ⟨j + 1, _, by omega, by go_num, gb_put (gb_far (gb_alloc hgx _) hg9 (fun q hq => by have := (ho3.lt q hq).1; omega)) 2 _, hX9.put 2 _, by rw [hT.out, winCells_snoc]; exact hown9.kept (gb_put (gb_refl w9 _) 2 _) (.inr fun e => own_ne hown9 (show g6 < W1.heap.size by omega) e.symm)⟩
              case measure => simp [intOf]; omega
            · obtain rfl : nw = j := by omega
              obtain ⟨W2, rfl⟩ : ∃ W2 : World, W2 = wr := ⟨_, rfl⟩
              obtain ⟨A3, k3, rfl, hk3, hr9⟩ := own_shape ho3
              rw [List.take_of_length_le (by rw [hlw]; exact Nat.le_refl _)] at ho3
              clear hr9
              have hW2s := hg.size
              have hne : ∀ q, vo.ownBlock = some q → q < wo.heap.size := fun q hq => (hown.lt q hq).2
              have hoO : W2.ownsRow w.heap.size 85 3 vo k (serCells L) := (HO.out.kept HG1.out (.inr fun e => by have := hne _ e; omega)).kept hg (.inr fun e => by have := hne _ e; omega)
              have hoL : W2.ownsRow (wo.heap.size + 1) 146 2 (.slice Bl nl kl) nl (lblCells ll) := (HL.out.kept HG1.out (.inr fun e => by have := HLB.out _ e; omega)).kept hg (.inr fun e => by have := HLB.out _ e; omega)
              have hoS : W2.ownsRow (g6 + 1) 86 2 (.slice A2 ns k2) ns (smpCells ls) := HO2.out.kept hg (.inr fun e => own_ne HO2.out (by omega) e.symm)
              have hLw : ∀ y ∈ L, y.At W2 wo.heap.size := fun y hy => (((hA.at_ y hy).grown HG.out ⟨Sl.off_none _, Sl.off_none _, Sl.off_none _⟩ (Nat.le_refl _)).grown HG1.out ((hA.at_ y hy).off (by omega)) (by rw [HS.out]; omega)).grown hg ((hA.at_ y hy).off (by omega)) (by omega)
              have hb2 := below_gb HB1.out hg (by omega) (by omega)
              have q0 : W2.cell? ⟨g6, 0, none⟩ = some (.slice Bl nl kl) := hX.cell 0
              have q1 : W2.cell? ⟨g6, 1, none⟩ = some (.slice A2 ns k2) := hX.cell 1
              have q2 : W2.cell? ⟨g6, 2, none⟩ = some (.slice A3 nw k3) := hX.cell 2
              have hfr := Row.fresh W2 85 3 1 [.slice Bl nl kl, .slice A2 ns k2, .slice A3 nw k3] rfl
              go_wp2_with (at_builtin; refine wpList_app _ rfl _ _ 25 rfl w.heap.size 85 i0 _ 3 72 Try.underlying25 hi hz0 hz1 hz2 rfl (by decide) _ _ _ rfl (hoO.alloc _) _ _ _ _ _ rfl hfr (by simp [Value.oneCell']) (by unfold maxLen; omega) (by omega) (by simp; omega) ?_; intro v9 w9 hown9 hg9 hat9)
              go_roundw
              case rel =>
                have hyv : (Ser.mk ⟨Bl, nl, kl, ll⟩ ⟨A2, ns, k2, ls⟩ ⟨A3, nw, k3, lw⟩).Off vo.ownBlock := by
                  cases hvb : vo.ownBlock with
                  | none => exact Ser.off_none _
                  | some q => exact ⟨Sl.off_own hoL (by have := hne q hvb; omega), Sl.off_own hoS (by have := hne q hvb; omega), Sl.off_own ho3 (by have := hne q hvb; omega)⟩
                have hy : (Ser.mk ⟨Bl, nl, kl, ll⟩ ⟨A2, ns, k2, ls⟩ ⟨A3, nw, k3, lw⟩).At W2 W2.heap.size := ⟨⟨hkl, hll, Row.of_own hoL⟩, ⟨hk2, hls, Row.of_own hoS⟩, ⟨hk3, hlw, Row.of_own ho3⟩⟩
                have hm := sers_more hA hx (y := Ser.mk ⟨Bl, nl, kl, ll⟩ ⟨A2, ns, k2, ls⟩ ⟨A3, nw, k3, lw⟩) ⟨rfl, rfl, rfl⟩ hLw hy (fun q hq => ⟨Sl.off_own hoL (by omega), Sl.off_own hoS (by omega), Sl.off_own ho3 (by omega)⟩) hyv hoff (by omega) hg9 hat9
                exact ⟨k + 1, _, v9, rfl, by omega, by go_num, by rw [serCells_snoc]; exact hown9, hm.1, hm.2, (hb2.alloc hb2.size _).grown hg9 (by have := hb2.size; simp; omega) (fun q hq => (hown.lt q hq).1)⟩
              case measure => simp [intOf]; omega
    · obtain rfl : n = k := by omega
      rw [List.take_of_length_le (by rw [hL.out]; exact Nat.le_refl _)] at hA
      go_wp2
      go_ret
      exact ⟨_, L, rfl, hown, hA, hb⟩
end Go.Proofs.Ytohocdbneopooaa
