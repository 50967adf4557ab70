/- The reference's Coarse: what it returns. Condition: the lists are within the bound. -/
import Derived.Test.YtohocdbneopooaaRollW
namespace Go.Proofs.Ytohocdbneopooaa
set_option maxRecDepth 100000
open Go.RowKit

set_option maxRecDepth 100000 in
set_option maxHeartbeats 6400000 in
theorem rrollW_any (d f t : Int) (A : Option Addr) (n cap : Nat) (ss : List Ser) (w : World) (hr : Row w w.heap.size 3 A n (serCells ss)) (hl : ss.length = n) (hn : n ≤ 1048576) (hat : ∀ x ∈ ss, x.At w w.heap.size) (hok : ∀ x ∈ ss, x.Ok 1048576) :
    Calls Try.prog 20 #[.int .i64 d, .int .i64 f, .int .i64 t, .slice A n cap] w
      fun e w' => ∃ v L, e = .returned (.tuple #[v, .int .i64 (rollAllW d f t ss).2]) ∧ RollAt w' w.heap.size 85 v (rollAllW d f t ss).1 L ∧ Below w.heap.size w w' := by
  obtain ⟨i0, hi, hz0, hz1, hz2⟩ := info_parts info_rser
  obtain ⟨i1, hi1, hz10, hz11, hz12⟩ := info_parts info_rwin
  have hL := hidden hl
  clear hl
  go_enter Try.func20, Try.ntmps20
  go_wp2_with fail
  refine (rwiden_any d none 0 0 [] _ Row.nil rfl (Nat.le_refl _) (by omega) (by simp)).mono ?_
  rintro e w1 ⟨v0, rfl, hG0, hb0⟩
  by_cases he0 : errOf Win.start badWin d [] = 0
  · rw [he0]
    have hR : rollAllW d f t ss = rollW d f t ss [] := if_pos he0
    have HR := hidden hR
    clear hG0 he0 hR
    go_wp2_with fail
    go_loopw [12, 13] (fun v i wr => ∃ (k : Nat) (L : List Ser) (R : List (List Lbl × List Win)) (vo : Value), vo = v ∧ k ≤ n ∧ i = .int .i64 k ∧ Hid (rollW d f t (ss.drop k) R = rollW d f t ss []) ∧ RollAt wr w.heap.size 85 v R L ∧ R.length ≤ k ∧ Below w.heap.size w wr) (fun _ i _ => n - (intOf i).toNat)
    case atStart => exact ⟨0, [], [], _, rfl, Nat.zero_le _, rfl, rfl, RollAt.start _ _ _, Nat.le_refl _, hb0⟩
    case round =>
      obtain ⟨k, L, R, vo, rfl, hk, rfl, hgo, hA, hRk, hb⟩ := hrel
      by_cases hlt : k < n
      · obtain ⟨wo, rfl⟩ : ∃ wo : World, wo = wr := ⟨_, rfl⟩
        obtain ⟨gs, o, rfl, hgs, x, hx, c0, c1, c2⟩ := ser_cells_at hr hL.out (Below.refl _ w) k hlt
        have hxm := List.mem_of_getElem? hx
        have hxa := (hat x hxm).below hb
        have hxo := hok x hxm
        have hst := rollGo_at (fun x : Ser => x.win.l) Win.start badWin winWin d f t hx R
        obtain ⟨⟨Al, nl, cl, ll⟩, ⟨As, ns, cs, ls⟩, ⟨Aw, nw, cw, lw⟩⟩ := x
        simp only [Sl.val] at c0 c1 c2
        obtain ⟨⟨hlc, hll, hrl⟩, _, ⟨hsc, hls, hrs⟩⟩ := hxa
        simp only at hlc hll hrl hsc hls hrs hst
        obtain ⟨_, oks, bl, bs, bw, fl, fs, fw⟩ := hxo
        simp only [reachBytes] at bl bs bw fl fs fw
        have hbs := hb.size
        have hr1 : Row w w.heap.size 6 Aw nw (winCells lw) := (hat _ hxm).win.2.2
        have hgoS : Hid _ := hidden (hst.symm.trans hgo.out)
        have HC0 := hidden c0
        have HC1 := hidden c2
        have hltz : (k : Int) < (n : Int) := by omega
        clear hst hgo c0 c1 c2
        go_wp2_with fail
        go_loopw [14, 15] (fun v i wx => ∃ j : Nat, j ≤ nw ∧ i = .int .i64 j ∧ wx.ownsRow wo.heap.size 89 6 v (inRange Win.start f t (lw.take j)).length (winCells (inRange Win.start f t (lw.take j))) ∧ Below wo.heap.size wo wx) (fun _ i _ => nw - (intOf i).toNat)
        case atStart => exact ⟨0, Nat.zero_le _, rfl, World.ownsRow_nil _ _ _ _, Below.refl _ _⟩
        case round =>
          obtain ⟨j, hj, rfl, ho, hbx⟩ := hrel
          have hbX := hb.trans (hbx.mono hbs)
          have c1 : wr.cell? ⟨gs, o + k * 3 + 2, none⟩ = some (.slice Aw nw cw) := (hbX.cell (p := ⟨gs, o + k * 3 + 2, none⟩) hgs).trans HC1.out
          by_cases hjn : j < nw
          · obtain ⟨g7, o7, rfl, _, y, hy, d0, d1, d2, d3, d4, d5⟩ := win_cells_at hr1 hls hbX j hjn
            have hT := hidden (take_snoc? hy)
            have hI := inRange_snoc Win.start f t (lw.take j) y
            rw [← hT.out] at hI
            obtain ⟨y0, y1, y2, y3, y4, y5⟩ := y
            simp only at d0 d1 d2 d3 d4 d5 hI
            have hIl : (inRange Win.start f t (lw.take j)).length ≤ j := Nat.le_trans (inRange_le _ _ _ _) (by rw [List.length_take]; omega)
            have hxs := hbx.size
            have hIL := hidden hIl
            clear hy hIl
            by_cases hin : f ≤ y0 ∧ y0 < t
            · obtain ⟨hin1, hin2⟩ := hin
              rw [if_pos ⟨hin1, hin2⟩] at hI
              have HI := hidden hI
              clear hI
              have hfr := Row.fresh (wr.alloc (.cells #[.int .i64 y0, .int .i64 y1, .int .u64 ((y2 : Nat) : Int), .int .u64 ((y3 : Nat) : Int), .int .u64 ((y4 : Nat) : Int), .int .u64 ((y5 : Nat) : Int)] 89)) 89 6 1 [.int .i64 y0, .int .i64 y1, .int .u64 ((y2 : Nat) : Int), .int .u64 ((y3 : Nat) : Int), .int .u64 ((y4 : Nat) : Int), .int .u64 ((y5 : Nat) : Int)] rfl
              rw [World.size_alloc] at hfr
              go_wp2_with (at_builtin; refine wpList_app _ rfl _ _ 83 rfl wo.heap.size 89 i1 _ 6 48 Try.underlying83 hi1 hz10 hz11 hz12 rfl (by decide) _ _ _ rfl ((ho.alloc _).alloc _) _ _ _ _ _ rfl hfr (by simp [Value.oneCell']) (by have := hIL.out; unfold maxLen; omega) (by have := hIL.out; omega) (by have := hbx.size; simp; omega) ?_; intro v9 w9 hown9 hg9 hat9)
              go_roundw
              case rel =>
                refine ⟨j + 1, by omega, by go_num, ?_, ((hbx.alloc hbx.size _).alloc (by simp; omega) _).grown hg9 (by have := hbx.size; simp; omega) (fun q hq => (ho.lt q hq).1)⟩
                rw [HI.out, List.length_append, List.length_singleton, winCells_snoc]; exact hown9
              case measure => simp [intOf]; omega
            · rw [if_neg hin] at hI
              have HI := hidden hI
              clear hI
              by_cases hin1 : f ≤ y0
              · have hin2 : ¬ y0 < t := fun h => hin ⟨hin1, h⟩
                clear hin
                go_wp2_with fail
                go_roundw
                case rel => exact ⟨j + 1, by omega, by go_num, by rw [HI.out]; exact ho.alloc _, hbx.alloc hbx.size _⟩
                case measure => simp [intOf]; omega
              · clear hin
                go_wp2_with fail
                go_roundw
                case rel => exact ⟨j + 1, by omega, by go_num, by rw [HI.out]; exact ho.alloc _, hbx.alloc hbx.size _⟩
                case measure => simp [intOf]; omega
          · obtain rfl : nw = j := by omega
            obtain ⟨w4, rfl⟩ : ∃ w4 : World, w4 = wr := ⟨_, rfl⟩
            rw [List.take_of_length_le (by rw [hls]; exact Nat.le_refl _)] at ho
            have hIl : (inRange Win.start f t lw).length ≤ 1048576 := Nat.le_trans (inRange_le _ _ _ _) (by omega)
            have hIo : ∀ s ∈ inRange Win.start f t lw, s.ok := fun s hs => (oks s (inRange_mem _ _ _ hs)).1
            obtain ⟨A4, k4, rfl, hk4, hr4⟩ := own_shape ho
            generalize inRange Win.start f t lw = I at *
            clear ho
            go_wp2_with fail
            refine (rwiden_any d A4 I.length k4 I _ hr4 rfl hk4 (by omega) hIo).mono ?_
            rintro e w5 ⟨v5, rfl, hG5, hb5⟩
            have hbw5 := hbx.trans (hb5.mono hbx.size)
            clear c1 hbX
            have q7 : w5.cell? ⟨gs, o + k * 3, none⟩ = some (.slice Al nl cl) := ((hb.trans (hbw5.mono hbs)).cell (p := ⟨gs, o + k * 3, none⟩) hgs).trans HC0.out
            by_cases he : errOf Win.start badWin d I = 0
            · rw [he]
              unfold RefResW at hG5
              rw [if_pos he] at hG5
              have hgo1 := hgoS.out
              rw [if_pos he] at hgo1
              obtain ⟨A5, k5, rfl, hk5, hr5⟩ := own_shape hG5
              generalize groupsOf Win.start d I = G at *
              by_cases hg : G = []
              · rw [if_pos hg] at hgo1
                subst hg
                have HG := hidden hgo1
                clear hgo1 hG5 hr5 he hgoS q7
                go_wp2_with fail
                go_roundw
                case rel => exact ⟨k + 1, L, R, vo, rfl, by omega, by go_num, HG.out, hA.below hbw5, by omega, hb.trans (hbw5.mono hbs)⟩
                case measure => simp [intOf]; omega
              · rw [if_neg hg] at hgo1
                have hgl : 0 < G.length := List.length_pos_iff.2 hg
                have hglz : (0 : Int) < (G.length : Int) := by omega
                have HG := hidden hgo1
                clear hgo1 he hgoS
                have hfr := Row.fresh w5 85 3 1 [.slice Al nl cl, .slice none 0 0, .slice A5 G.length k5] rfl
                have hov := hA.below hbw5
                go_wp2_with (at_builtin; refine wpList_app _ rfl _ _ 25 rfl w.heap.size 85 i0 _ 3 72 Try.underlying25 hi hz0 hz1 hz2 rfl (by decide) _ _ _ rfl (hov.1.alloc _) _ _ _ _ _ rfl hfr (by simp [Value.oneCell']) (by unfold maxLen; omega) (by omega) (by have := hbw5.size; simp; omega) ?_; intro v9 w9 hown9 hg9 hat9)
                go_roundw
                case rel =>
                  have hm := roll_more (y := ⟨⟨Al, nl, cl, ll⟩, ⟨none, 0, 0, []⟩, ⟨A5, G.length, k5, G.map winWin⟩⟩) (r := (ll, G.map winWin)) hA hbw5 rfl rfl ⟨⟨hlc, hll, (hrl.below (hbw5.mono hbs)).more (Nat.le_trans hbs hbw5.size)⟩, ⟨Nat.le_refl _, rfl, Row.nil⟩, ⟨hk5, by simp, hr5⟩⟩ (by
                    cases hvb : vo.ownBlock with
                    | none => exact Ser.off_none _
                    | some q =>
                      have hq := hA.1.lt q hvb
                      exact ⟨Sl.At.off (f := Lbl.cells) (B := w.heap.size) (w := wo) (size := 2) ⟨hlc, hll, hrl⟩ hq.1, fun h => absurd h (by simp), Sl.off_own hG5 (by have := hbx.size; omega)⟩) hg9 hat9 hown9
                  exact ⟨k + 1, _, _, v9, rfl, by omega, by go_num, HG.out, hm, by simp; omega, ((hb.trans (hbw5.mono hbs)).alloc (by have := hbw5.size; omega) _).grown hg9 (by have := hbw5.size; simp; omega) (fun q hq => (hA.1.lt q hq).1)⟩
                case measure => simp [intOf]; omega
            · have hgo1 := hgoS.out
              rw [if_neg he] at hgo1
              have HG := hidden (HR.out.trans hgo1.symm)
              generalize errOf Win.start badWin d I = ee at *
              have t1 : (ee != 0) = true := by simpa using he
              clear hgo1 hgoS hG5 he q7
              go_wp2_with fail
              go_ret2
              exact ⟨_, [], by rw [HG.out]; rfl, by rw [HG.out]; exact RollAt.start _ _ _, hb.trans (hbw5.mono hbs)⟩
      · obtain rfl : n = k := by omega
        have he := rollGo_end (fun x : Ser => x.win.l) Win.start badWin winWin d f t ss n (by rw [hL.out]; exact Nat.le_refl _) R
        have HG := hidden (HR.out.trans (hgo.out.symm.trans he))
        clear he hgo
        go_wp2
        go_ret2
        exact ⟨_, L, by rw [HG.out]; rfl, by rw [HG.out]; exact hA, hb⟩
  · have hR : rollAllW d f t ss = ([], errOf Win.start badWin d []) := if_neg he0
    have HR := hidden hR
    generalize errOf Win.start badWin d [] = ee at *
    have t1 : (ee != 0) = true := by simpa using he0
    clear hG0 he0 hR
    go_wp2
    go_ret2
    exact ⟨_, [], by rw [HR.out]; rfl, by rw [HR.out]; exact RollAt.start _ _ _, hb0⟩
end Go.Proofs.Ytohocdbneopooaa
