/- rollup.rolled and the reference's Fine | Coarse: what they return. Condition: the lists are within the bound. -/
import Derived.Test.YtohocdbneopooaaRollP
namespace Go.Proofs.Ytohocdbneopooaa
set_option maxRecDepth 100000
open Go.RowKit

set_option maxHeartbeats 400000 in
theorem ofS_any (A B C : Option Addr) (n1 c1 n2 c2 n3 c3 : Nat) (w : World) :
    Calls Try.prog 42 #[.agg #[.slice A n1 c1, .slice B n2 c2, .slice C n3 c3]] w fun e w' => e = .returned (.slice B n2 c2) ∧ Below w.heap.size w w' := by
  go_enter Try.func42, Try.ntmps42
  go_wp2
  go_ret
  exact ⟨rfl, (Below.refl _ _).alloc (Nat.le_refl _) _⟩
set_option maxHeartbeats 400000 in
theorem timeS_any (x0 x1 : Int) (w : World) :
    Calls Try.prog 43 #[.agg #[.int .i64 x0, .int .u64 x1]] w fun e w' => e = .returned (.int .i64 x0) ∧ Below w.heap.size w w' := by
  go_enter Try.func43, Try.ntmps43
  go_wp2
  go_ret
  exact ⟨rfl, (Below.refl _ _).alloc (Nat.le_refl _) _⟩

abbrev rollS (d f t : Int) : List Ser → List (List Lbl × List Win) → List (List Lbl × List Win) × Int := rollGo (fun x => x.smp.l) Smp.t (fun _ => 0) smpWin d f t
abbrev rollAllS (d f t : Int) : List Ser → List (List Lbl × List Win) × Int := rollAll (fun x => x.smp.l) Smp.t (fun _ => 0) smpWin d f t

set_option maxRecDepth 100000 in
set_option maxHeartbeats 6400000 in
theorem rolledS_any (d f t : Int) (A : Option Addr) (n cap : Nat) (ss : List Ser) (w : World) (hr : Row w w.heap.size 3 A n (serCells ss)) (hl : ss.length = n) (hn : n ≤ 1048576) (hat : ∀ x ∈ ss, x.At w w.heap.size) (hok : ∀ x ∈ ss, x.Ok 1048576) :
    Calls Try.prog 41 #[.int .i64 d, .int .i64 f, .int .i64 t, .slice A n cap, .func (.func 42) #[] #[], .func (.func 43) #[] #[], .func (.func 44) #[] #[]] w
      fun e w' => ∃ v L, e = .returned (.tuple #[v, .int .i64 (rollAllS d f t ss).2]) ∧ RollAt w' w.heap.size 46 v (rollAllS d f t ss).1 L ∧ Below w.heap.size w w' := by
  obtain ⟨i0, hi, hz0, hz1, hz2⟩ := info_parts info_ser
  obtain ⟨i1, hi1, hz10, hz11, hz12⟩ := info_parts info_smp
  have hL := hidden hl
  clear hl
  go_enter Try.func41, Try.ntmps41
  go_wp2_with fail
  refine (windows_calls d none 0 0 [] _ Row.nil rfl (Nat.le_refl _) (by omega) (by simp)).mono ?_
  rintro e w1 ⟨v0, rfl, hG0, hb0⟩
  by_cases he0 : errOf Smp.t (fun _ => 0) d [] = 0
  · rw [he0]
    have hR : rollAllS d f t ss = rollS d f t ss [] := if_pos he0
    have HR := hidden hR
    clear hG0 he0 hR
    go_wp2_with fail
    go_loopw [18, 38] (fun v i wr => ∃ (k : Nat) (L : List Ser) (R : List (List Lbl × List Win)) (vo : Value), vo = v ∧ k ≤ n ∧ i = .int .i64 k ∧ Hid (rollS d f t (ss.drop k) R = rollS d f t ss []) ∧ RollAt wr w.heap.size 46 v R L ∧ R.length ≤ k ∧ Below w.heap.size w wr) (fun _ i _ => n - (intOf i).toNat)
    case atStart => exact ⟨0, [], [], _, rfl, Nat.zero_le _, rfl, rfl, RollAt.start _ _ _, Nat.le_refl _, hb0⟩
    case round =>
      obtain ⟨k, L, R, vo, rfl, hk, rfl, hgo, hA, hRk, hb⟩ := hrel
      by_cases hlt : k < n
      · obtain ⟨wo, rfl⟩ : ∃ wo : World, wo = wr := ⟨_, rfl⟩
        obtain ⟨gs, o, rfl, hgs, x, hx, c0, c1, c2⟩ := ser_cells_at hr hL.out hb k hlt
        have hxm := List.mem_of_getElem? hx
        have hxa := (hat x hxm).below hb
        have hxo := hok x hxm
        have hst := rollGo_at (fun x : Ser => x.smp.l) Smp.t (fun _ => 0) smpWin d f t hx R
        obtain ⟨⟨Al, nl, cl, ll⟩, ⟨As, ns, cs, ls⟩, ⟨Aw, nw, cw, lw⟩⟩ := x
        simp only [Sl.val] at c0 c1 c2
        obtain ⟨⟨hlc, hll, hrl⟩, ⟨hsc, hls, hrs⟩, _⟩ := hxa
        simp only at hlc hll hrl hsc hls hrs hst
        obtain ⟨oks, _, bl, bs, bw, fl, fs, fw⟩ := hxo
        simp only [reachBytes] at bl bs bw fl fs fw
        have hbs := hb.size
        have hr1 : Row w w.heap.size 2 As ns (smpCells ls) := (hat _ hxm).smp.2.2
        have hgoS : Hid _ := hidden (hst.symm.trans hgo.out)
        have HRS := hidden hr
        clear hst hgo hr
        go_wp2_with fail
        refine (ofS_any Al As Aw nl cl ns cs nw cw _).mono ?_
        rintro e w2 ⟨rfl, hb2⟩
        have hg5 : Whole1 w2 wo.heap.size 46 #[.slice Al nl cl, .slice As ns cs, .slice Aw nw cw] := (Whole1.new wo _ _).below hb2 (by simp)
        have hbw2 : Below wo.heap.size wo w2 := ((Below.refl _ _).alloc (Nat.le_refl _) _).trans (hb2.mono (by simp))
        have hw2s : wo.heap.size + 1 ≤ w2.heap.size := by have := hb2.size; simpa using this
        clear hb2 c0 c1 c2
        go_wp2_with fail
        go_loopw [21, 46] (fun v i wx => ∃ j : Nat, j ≤ ns ∧ i = .int .i64 j ∧ wx.ownsRow w2.heap.size 55 2 v (inRange Smp.t f t (ls.take j)).length (smpCells (inRange Smp.t f t (ls.take j))) ∧ Below w2.heap.size w2 wx) (fun _ i _ => ns - (intOf i).toNat)
        case atStart => exact ⟨0, Nat.zero_le _, rfl, World.ownsRow_nil _ _ _ _, Below.refl _ _⟩
        case round =>
          obtain ⟨j, hj, rfl, ho, hbx⟩ := hrel
          by_cases hjn : j < ns
          · obtain ⟨g7, o7, rfl, y, hy, d0, d1⟩ := smp_cells_at hr1 hls ((hb.trans (hbw2.mono hbs)).trans (hbx.mono (by omega))) j hjn
            have hT := hidden (take_snoc? hy)
            have hI := inRange_snoc Smp.t f t (ls.take j) y
            rw [← hT.out] at hI
            obtain ⟨y0, y1⟩ := y
            simp only at d0 d1 hI
            have hIl : (inRange Smp.t f t (ls.take j)).length ≤ j := Nat.le_trans (inRange_le _ _ _ _) (by rw [List.length_take]; omega)
            have hxs := hbx.size
            clear hy
            go_wp2_with fail
            refine (timeS_any y0 _ _).mono ?_
            rintro e w3 ⟨rfl, hb3⟩
            have h6 : Whole1 w3 wr.heap.size 55 #[.int .i64 y0, .int .u64 ((y1 : Nat) : Int)] := (Whole1.new wr _ _).below hb3 (by simp)
            have ho3 : w3.ownsRow w2.heap.size 55 2 _ _ _ := own_below (ho.alloc _) hb3 (Nat.le_refl _)
            have hb3' : Below w2.heap.size w2 w3 := (hbx.alloc hxs _).trans (hb3.mono (by simp; omega))
            have q0 := h6.cell 0
            have q1 := h6.cell 1
            have hIL := hidden hIl
            clear hb3 h6 d0 d1 hIl ho
            by_cases hin : f ≤ y0 ∧ y0 < t
            · obtain ⟨hin1, hin2⟩ := hin
              rw [if_pos ⟨hin1, hin2⟩] at hI
              have HI := hidden hI
              clear hI
              have hfr := Row.fresh w3 55 2 1 [.int .i64 y0, .int .u64 ((y1 : Nat) : Int)] rfl
              go_wp2_with (at_builtin; refine wpList_app _ rfl _ _ 43 rfl w2.heap.size 55 i1 _ 2 16 Try.underlying43 hi1 hz10 hz11 hz12 rfl (by decide) _ _ _ rfl (ho3.alloc _) _ _ _ _ _ rfl hfr (by simp [Value.oneCell']) (by have := hIL.out; unfold maxLen; omega) (by have := hIL.out; omega) (by have := hb3'.size; simp; omega) ?_; intro v9 w9 hown9 hg9 hat9)
              go_roundw
              case rel =>
                refine ⟨j + 1, by omega, by go_num, ?_, (hb3'.alloc hb3'.size _).grown hg9 (by have := hb3'.size; simp; omega) (fun q hq => (ho3.lt q hq).1)⟩
                rw [HI.out, List.length_append, List.length_singleton, smpCells_snoc]; exact hown9
              case measure => simp [intOf]; omega
            · rw [if_neg hin] at hI
              have HI := hidden hI
              clear hI
              by_cases hin1 : f ≤ y0
              · have hin2 : ¬ y0 < t := fun h => hin ⟨hin1, h⟩
                clear hin
                go_wp2_with fail
                go_roundw
                case rel => exact ⟨j + 1, by omega, by go_num, by rw [HI.out]; exact ho3, hb3'⟩
                case measure => simp [intOf]; omega
              · clear hin
                go_wp2_with fail
                go_roundw
                case rel => exact ⟨j + 1, by omega, by go_num, by rw [HI.out]; exact ho3, hb3'⟩
                case measure => simp [intOf]; omega
          · obtain rfl : ns = j := by omega
            obtain ⟨w4, rfl⟩ : ∃ w4 : World, w4 = wr := ⟨_, rfl⟩
            rw [List.take_of_length_le (by rw [hls]; exact Nat.le_refl _)] at ho
            have hIl : (inRange Smp.t f t ls).length ≤ 1048576 := Nat.le_trans (inRange_le _ _ _ _) (by omega)
            have hIo : ∀ s ∈ inRange Smp.t f t ls, s.ok := fun s hs => (oks s (inRange_mem _ _ _ hs)).1
            obtain ⟨A4, k4, rfl, hk4, hr4⟩ := own_shape ho
            have hbw4 := hbw2.trans (hbx.mono (by omega))
            have q5 := hg5.below hbx (by omega)
            generalize inRange Smp.t f t ls = I at *
            clear ho hbx
            go_wp2_with fail
            refine (windows_calls d A4 I.length k4 I _ hr4 rfl hk4 (by omega) hIo).mono ?_
            rintro e w5 ⟨v5, rfl, hG5, hb5⟩
            have hbw5 := hbw4.trans (hb5.mono hbw4.size)
            have q6 := q5.below hb5 (by have := hbw4.size; have := q5.lt; omega)
            by_cases he : errOf Smp.t (fun _ => 0) d I = 0
            · rw [he]
              unfold GrpResS at hG5
              rw [if_pos he] at hG5
              have hgo1 := hgoS.out
              rw [if_pos he] at hgo1
              obtain ⟨A5, k5, rfl, hk5, hr5⟩ := own_shape hG5
              generalize groupsOf Smp.t d I = G at *
              by_cases hg : G = []
              · rw [if_pos hg] at hgo1
                subst hg
                have HG := hidden hgo1
                clear hgo1 hG5 hr5 he hgoS
                go_wp2_with fail
                go_roundw
                case rel => exact ⟨k + 1, L, R, vo, rfl, by omega, by go_num, HG.out, hA.below hbw5, by omega, hb.trans (hbw5.mono hbs)⟩
                case measure => simp [intOf]; omega
              · rw [if_neg hg] at hgo1
                have hgl : 0 < G.length := List.length_pos_iff.2 hg
                have hglz : (0 : Int) < (G.length : Int) := by omega
                have HG := hidden hgo1
                have q7 := q6.cell 0
                have hr6 : Row w5 w5.heap.size 2 Al nl (lblCells ll) := (hrl.below (hbw5.mono hbs)).more (Nat.le_trans hbs hbw5.size)
                clear hgo1 he hgoS
                go_wp2_with fail
                refine (cloneL_any Al nl cl ll _ hr6 hll (by omega)).mono ?_
                rintro e w6 ⟨⟨A6, n6, c6, l6⟩, rfl, rfl, rfl, hsa, hso, hb6⟩
                have hbw6 := hbw5.trans (hb6.mono hbw5.size)
                have hA6 := hA.1.alloc
                have hfr := Row.fresh w6 46 3 1 [.slice A6 n6 c6, .slice none 0 0, .slice A5 G.length k5] rfl
                have hov := hA.below hbw6
                simp only [Sl.val]
                clear hr6 q7
                go_wp2_with (at_builtin; refine wpList_app _ rfl _ _ 24 rfl w.heap.size 46 i0 _ 3 72 Try.underlying24 hi hz0 hz1 hz2 rfl (by decide) _ _ _ rfl (hov.1.alloc _) _ _ _ _ _ rfl hfr (by simp [Value.oneCell']) (by unfold maxLen; omega) (by omega) (by have := hbw6.size; simp; omega) ?_; intro v9 w9 hown9 hg9 hat9)
                go_roundw
                case rel =>
                  have hm := roll_more (y := ⟨⟨A6, n6, c6, l6⟩, ⟨none, 0, 0, []⟩, ⟨A5, G.length, k5, G.map smpWin⟩⟩) (r := (l6, G.map smpWin)) hA hbw6 rfl rfl ⟨hsa, ⟨Nat.le_refl _, rfl, Row.nil⟩, ⟨hk5, by simp, (hr5.below hb6).more hb6.size⟩⟩ (by
                    cases hvb : vo.ownBlock with
                    | none => exact Ser.off_none _
                    | some q =>
                      have hq := (hA.1.lt q hvb).2
                      exact ⟨hso q (by have := hbw5.size; omega), fun h => absurd h (by simp), Sl.off_own hG5 (by have := hbw4.size; omega)⟩) hg9 hat9 hown9
                  exact ⟨k + 1, _, _, v9, rfl, by omega, by go_num, HG.out, hm, by simp; omega, ((hb.trans (hbw6.mono hbs)).alloc (by have := hbw6.size; omega) _).grown hg9 (by have := hbw6.size; simp; omega) (fun q hq => (hA.1.lt q hq).1)⟩
                case measure => simp [intOf]; omega
            · have hgo1 := hgoS.out
              rw [if_neg he] at hgo1
              have HG := hidden (HR.out.trans hgo1.symm)
              generalize errOf Smp.t (fun _ => 0) d I = ee at *
              have t1 : (ee != 0) = true := by simpa using he
              clear hgo1 hgoS hG5 he
              go_wp2_with fail
              go_ret2
              exact ⟨_, [], by rw [HG.out]; rfl, by rw [HG.out]; exact RollAt.start _ _ _, hb.trans (hbw5.mono hbs)⟩
      · obtain rfl : n = k := by omega
        have he := rollGo_end (fun x : Ser => x.smp.l) Smp.t (fun _ => 0) smpWin d f t ss n (by rw [hL.out]; exact Nat.le_refl _) R
        have HG := hidden (HR.out.trans (hgo.out.symm.trans he))
        clear he hgo
        go_wp2
        go_ret2
        exact ⟨_, L, by rw [HG.out]; rfl, by rw [HG.out]; exact hA, hb⟩
  · have hR : rollAllS d f t ss = ([], errOf Smp.t (fun _ => 0) d []) := if_neg he0
    have HR := hidden hR
    generalize errOf Smp.t (fun _ => 0) d [] = ee at *
    have t1 : (ee != 0) = true := by simpa using he0
    clear hG0 he0 hR
    go_wp2
    go_ret2
    exact ⟨_, [], by rw [HR.out]; rfl, by rw [HR.out]; exact RollAt.start _ _ _, hb0⟩
end Go.Proofs.Ytohocdbneopooaa
