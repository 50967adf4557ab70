/- PlanOnce: no block stands in two groups, each group has two at least, all of one resolution, and the order in which blocks are handed in makes no difference. No condition. -/
import Derived.Test.YtohocdbneopooaaPlanOnce
import Derived.Laws.MakeOwn
namespace Go.Proofs.Ytohocdbneopooaa
set_option maxRecDepth 100000
open Go.Shelf Go.RowKit Go.Lib Go.Sort Go.WideShapes Go.ChangeShapes

theorem own_newI (w : World) (x0 x1 x2 x3 x4 : Int) : (w.alloc (.cells #[.int .i64 x0, .int .i64 x1, .int .i64 x2, .int .i64 x3, .int .i64 x4] 71)).ownsRow w.heap.size 71 5 (.slice (some ⟨w.heap.size, 0, none⟩) 1 1) 1 (infCells [⟨x0, x1, x2, x3, x4⟩]) :=
  ⟨rfl, .inr ⟨w.heap.size, 1, _, rfl, Nat.le_refl _, Whole1.new w 71 #[.int .i64 x0, .int .i64 x1, .int .i64 x2, .int .i64 x3, .int .i64 x4], Nat.le_refl _, by unfold maxLen; omega, rfl, rfl⟩⟩
theorem info_bool : (Try.prog.info? 4).map (fun i => (i.zero, i.size, i.bytes)) = some (some (.bool false), 1, 1) := by kernel_rfl
theorem make_bools (n : Nat) (hn : n * 40 ≤ 140737488351232) (W : World) : (Instr.makeSlice 77 (.int .i64 (n : Int)) (.int .i64 (n : Int))).run Try.prog W = .ok (.slice (some ⟨W.heap.size, 0, none⟩) n n) (W.alloc (.cells (seenCells n []) 4)) := by
  obtain ⟨i0, hi, hz0, hz1, hz2⟩ := info_parts info_bool
  have hr := run_make (P := Try.prog) W 77 4 i0 _ Try.underlying77 hi hz0 .i64 .i64 n n (by omega) (by omega) (by rw [hz2]; omega) (by omega)
  rw [Int.toNat_natCast, hz1, Nat.mul_one] at hr
  rw [hr, ← made_bools]; rfl

theorem own_apart {w w' : World} {base n size : Nat} {T : TypeId} {v : Value} {xs : List Value} {X : Option Nat} (h : w.ownsRow base T size v n xs) (hg : w.grownBy w' X) (hd : ∀ q, v.ownBlock = some q → X = some q → False) : w'.ownsRow base T size v n xs := by
  refine h.kept hg ?_
  cases hv : v.ownBlock with
  | none => exact .inl rfl
  | some q => exact .inr (fun e => hd q hv e.symm)

theorem fresh_id {G : List (List Int)} {a b : Nat} {sl : List Int} {z : Int} (hnd : G.flatten.Nodup) (ha : G[a]? = some sl) (hb : sl[b]? = some z) : z ∉ (G.take a).flatten ++ sl.take b := by
  have h1 : (G.take (a + 1)).flatten.Nodup := by
    rw [← List.take_append_drop (a + 1) G, List.flatten_append] at hnd
    exact (List.nodup_append.1 hnd).1
  rw [take_snoc? ha, List.flatten_append, List.flatten_singleton] at h1
  have h2 : sl = sl.take b ++ z :: sl.drop (b + 1) := by rw [← drop_cons? hb, List.take_append_drop]
  rw [h2, ← List.append_assoc] at h1
  have h3 := (List.nodup_append.1 h1).2.2
  intro hz
  exact h3 z hz z (List.mem_cons_self ..) rfl

set_option maxHeartbeats 6400000 in
theorem planOnce_any (fan : Int) (A : Option Addr) (n c : Nat) (l : List Inf) (w : World) (hr : Row w w.heap.size 5 A n (infCells l)) (hl : l.length = n) (hn : n * 40 ≤ 140737488351232) (hf : fan ≤ 9223372036854775807) :
    Calls Try.prog 12 #[.int .i64 fan, .slice A n c] w fun e w' => e = .returned (.bool true) ∧ RowKit.Below w.heap.size w w' := by
  obtain ⟨i0, hi, hz0, hz1, hz2⟩ := info_parts info_inf
  have hL := hidden hl
  have HR := hidden hr
  clear hl hr
  go_enter Try.func12, Try.ntmps12
  go_wp2_with fail
  refine (planWakes_any _).mono ?_
  rintro e w0 ⟨rfl, hb0⟩
  go_wp2_with fail
  go_loopw [5, 6, 19] (fun v u vi wr => ∃ (k : Nat) (vo uo : Value), vo = v ∧ uo = u ∧ vi = .int .i64 k ∧ k ≤ n ∧ wr.ownsRow w.heap.size 71 5 v k (infCells (reId (l.take k))) ∧ wr.ownsRow w.heap.size 71 5 u k (infCells (reId (l.take k)).reverse) ∧ Hid (∀ q, v.ownBlock = some q → u.ownBlock = some q → False) ∧ RowKit.Below w.heap.size w wr) (fun _ _ vi _ => n - (intOf vi).toNat)
  case atStart => exact ⟨0, _, _, rfl, rfl, rfl, Nat.zero_le _, World.ownsRow_nil _ _ _ _, World.ownsRow_nil _ _ _ _, hidden (fun q h => by cases h), hb0⟩
  case round =>
    obtain ⟨k, vo, uo, rfl, rfl, rfl, hk, hown, hownu, hdis, hb⟩ := hrel
    by_cases hlt : k < n
    · obtain ⟨gs, o, hA, hgs, x, hx, d0, d1, d2, d3, d4⟩ := inf_cells_at HR.out hL.out hb k hlt
      subst hA
      have hT := hidden (take_snoc? hx)
      have hTl := hidden (show (l.take k).length = k by rw [List.length_take, hL.out]; omega)
      have hkz : (k : Int) < (n : Int) := by omega
      have hk0 : (0 : Int) ≤ (k : Int) := by omega
      have hbs := hb.size
      have hfr := Row.fresh (wr.alloc (.cells #[.int .i64 k, .int .i64 x.res, .int .i64 x.frm, .int .i64 x.til, .int .i64 x.byt] 71)) 71 5 1 [.int .i64 k, .int .i64 x.res, .int .i64 x.frm, .int .i64 x.til, .int .i64 x.byt] rfl
      rw [World.size_alloc] at hfr
      clear hx
      go_upto_region 9 with (at_builtin; refine wpList_app _ rfl _ _ 67 rfl w.heap.size 71 i0 _ 5 40 Try.underlying67 hi hz0 hz1 hz2 rfl (by decide) _ _ _ rfl ((hown.alloc _).alloc _) _ _ _ _ _ rfl hfr (by simp [Value.oneCell']) (by unfold maxLen; omega) (by omega) (by simp; omega) ?_; intro v1 w1 hown1 hg1 hat1)
      have hbA : RowKit.Below wr.heap.size wr (wr.alloc (.cells #[.int .i64 k, .int .i64 x.res, .int .i64 x.frm, .int .i64 x.til, .int .i64 x.byt] 71)) := (RowKit.Below.refl _ _).alloc (Nat.le_refl _) _
      have hX := ((Whole1.new wr 71 #[.int .i64 k, .int .i64 x.res, .int .i64 x.frm, .int .i64 x.til, .int .i64 x.byt]).alloc (.cells #[.int .i64 k, .int .i64 x.res, .int .i64 x.frm, .int .i64 x.til, .int .i64 x.byt] 71)).grown hg1 (fun e => by have := (hown.lt wr.heap.size e.symm).2; omega)
      have hs1 := hg1.size
      rw [World.size_alloc, World.size_alloc] at hs1
      have hu1 := own_apart ((hownu.alloc _).alloc _) hg1 (fun q h1 h2 => hdis.out q h2 h1)
      have hb1 : RowKit.Below w.heap.size w w1 := ((hb.alloc hbs _).alloc (by simp; omega) _).grown hg1 (by simp; omega) (fun q hq => (hown.lt q hq).1)
      have hO1 : w1.ownsRow w.heap.size 71 5 v1 (k + 1) (infCells (reId (l.take (k + 1)))) := by
        rw [hT.out, reId_snoc, hTl.out, infCells_snoc]; exact hown1
      obtain ⟨X, hXe⟩ : ∃ X, wr.heap.size = X := ⟨_, rfl⟩
      rw [hXe] at hX hs1 ⊢
      have x0 : w1.cell? ⟨X, 0, none⟩ = some (.int .i64 k) := hX.cell 0
      have x1 : w1.cell? ⟨X, 1, none⟩ = some (.int .i64 x.res) := hX.cell 1
      have x2 : w1.cell? ⟨X, 2, none⟩ = some (.int .i64 x.frm) := hX.cell 2
      have x3 : w1.cell? ⟨X, 3, none⟩ = some (.int .i64 x.til) := hX.cell 3
      have x4 : w1.cell? ⟨X, 4, none⟩ = some (.int .i64 x.byt) := hX.cell 4
      obtain ⟨A6, c6, rfl, hc6, hr6⟩ := own_shape hu1
      have hnew := own_newI w1 k x.res x.frm x.til x.byt
      have hr7 := (hr6.alloc (Nat.le_refl _) (.cells #[.int .i64 k, .int .i64 x.res, .int .i64 x.frm, .int .i64 x.til, .int .i64 x.byt] 71))
      have HO1 := hidden hO1
      clear hO1 hX hXe hown1 hg1 hat1 hu1 hr6 hfr hown hownu hdis hbA d0 d1 d2 d3 d4
      go_wp2_with (at_builtin; refine wpList_app _ rfl _ _ 67 rfl w1.heap.size 71 i0 _ 5 40 Try.underlying67 hi hz0 hz1 hz2 rfl (by decide) _ 1 _ rfl hnew _ _ _ _ _ rfl hr7 (infCells_one _) (by unfold maxLen; omega) (by omega) (by simp) ?_; intro v2 w2 hown2 hg2 hat2)
      go_roundw
      case rel =>
        have hs2 := hg2.size
        rw [World.size_alloc] at hs2
        have hb2 : RowKit.Below w1.heap.size w1 w2 := ((RowKit.Below.refl _ _).alloc (Nat.le_refl _) _).grown hg2 (by simp) (fun q hq => by injection hq with hq; subst hq; simp)
        refine ⟨k + 1, v1, v2, rfl, rfl, by go_num, by omega, own_below HO1.out hb2 (Nat.le_refl _), ?_, hidden (fun q h1 h2 => ?_), hb1.trans (hb2.mono hb1.size)⟩
        · refine own_mono (?_ : w2.ownsRow w1.heap.size _ _ _ _ _) hb1.size
          rw [hT.out, reId_snoc, hTl.out, List.reverse_append, List.reverse_singleton, show k + 1 = 1 + k from by omega]
          exact hown2
        · have h3 := (HO1.out.lt q h1).2
          have h4 := (hown2.lt q h2).1
          omega
      case measure => simp [intOf]; omega
    · obtain rfl : k = n := by omega
      rw [List.take_of_length_le (by rw [hL.out]; exact Nat.le_refl _)] at hown hownu
      have hkz : ¬ (k : Int) < (k : Int) := by omega
      have hrl := reId_len l
      rw [hL.out] at hrl
      have HRL := hidden hrl
      obtain ⟨A5, c5, rfl, hc5, hr5⟩ := own_shape hown
      obtain ⟨A6, c6, rfl, hc6, hr6⟩ := own_shape hownu
      have HR5 := hidden hr5
      have HR6 := hidden hr6
      clear hrl hr5 hr6 hown hownu hdis
      go_wp2_with fail
      refine (plan_any fan A5 k c5 (reId l) _ HR5.out HRL.out hn hf).mono ?_
      rintro e w2 ⟨v2, S2, rfl, hL2, hb2⟩
      have hB2 := hb.trans (hb2.mono hb.size)
      have hR5 := hidden ((HR5.out.below hb2).more hb2.size)
      have hR6 := hidden ((HR6.out.below hb2).more hb2.size)
      obtain ⟨B1, hB1⟩ : ∃ B1, wr.heap.size = B1 := ⟨_, rfl⟩
      rw [hB1] at hL2
      obtain ⟨hnd, honce⟩ := planI_once fan l
      have hGlen := planI_len fan (reId l)
      rw [HRL.out] at hGlen
      have hGin := planI_inner fan (reId l)
      rw [HRL.out] at hGin
      obtain ⟨G, hG⟩ : ∃ G, planI fan (reId l) = G := ⟨_, rfl⟩
      rw [hG] at hL2 hnd honce hGlen hGin
      have HG := hidden hG
      have HND := hidden hnd
      have HON := hidden honce
      have HGI := hidden hGin
      obtain ⟨A7, c7, rfl, hc7, hr7⟩ := own_shape hL2.1
      obtain ⟨m, hm⟩ : ∃ m, G.length = m := ⟨_, rfl⟩
      rw [hm] at hGlen hc7 hr7 ⊢
      have HM := hidden hm
      have HL2 := hidden hL2
      have hR7 := hidden hr7
      have hmk := fun W => make_bools k hn W
      clear hb2 hB1 hG hnd honce hGin hL2 hr7 hm HR5 HR6
      go_wp2_with fail
      obtain ⟨H2, hH2⟩ : ∃ H2, w2.heap.size = H2 := ⟨_, rfl⟩
      have hSn := Whole1.new w2 4 (seenCells k [])
      have hBn : RowKit.Below H2 w2 (w2.alloc (.cells (seenCells k []) 4)) := by rw [← hH2]; exact (RowKit.Below.refl _ _).alloc (Nat.le_refl _) _
      rw [hH2] at hSn ⊢
      generalize w2.alloc (.cells (seenCells k []) 4) = w3 at hSn hBn ⊢
      have hRa : ∀ wx, RowKit.Below H2 w2 wx → Row wx H2 5 A5 k (infCells (reId l)) := fun wx h => by
        have := hR5.out
        rw [hH2] at this
        exact this.below h
      have hRb : ∀ wx, RowKit.Below H2 w2 wx → Row wx H2 1 A7 m (S2.map Sl.val) := fun wx h => by
        have := hR7.out
        rw [hH2] at this
        exact this.below h
      have hRc : ∀ wx, RowKit.Below H2 w2 wx → ∀ s ∈ S2, s.At wx H2 1 intc := fun wx h s hs => by
        have := HL2.out.2.2.1 s hs
        rw [hH2] at this
        exact this.below h
      have HRA := hidden hRa
      have HRB := hidden hRb
      have HRC := hidden hRc
      have HH2 := hidden hH2
      clear hRa hRb hRc hH2 hmk
      have hB2h : w.heap.size ≤ H2 := by rw [← HH2.out]; exact hB2.size
      go_loopw [43] (fun vi wx => ∃ a : Nat, vi = .int .i64 a ∧ a ≤ m ∧ Whole1 wx H2 4 (seenCells k (G.take a).flatten) ∧ RowKit.Below H2 w2 wx) (fun vi _ => m - (intOf vi).toNat)
      case atStart => exact ⟨0, rfl, Nat.zero_le _, hSn, hBn⟩
      case round =>
        obtain ⟨a, rfl, ha, hS, hBx⟩ := hrel
        by_cases hal : a < m
        · obtain ⟨g7, o7, s, rfl, hg7, hs7, hc7c⟩ := ll_cell (HRB.out _ hBx) a hal
          have hga : G[a]? = some s.l := by rw [← HL2.out.2.1, List.getElem?_map, hs7]; rfl
          have hgm := List.mem_of_getElem? hga
          obtain ⟨_, hsl, hsr⟩ := HRC.out _ hBx s (List.mem_of_getElem? hs7)
          obtain ⟨hg2, r, hgr⟩ := HON.out _ hgm
          have hgi := HGI.out _ hgm
          have hTG := hidden (take_snoc? hga)
          have HSX := hidden (List.mem_of_getElem? hs7)
          obtain ⟨sA, sn, sc, sl⟩ := s
          simp only [Sl.val] at hc7c hga hsl hsr hg2 hgr hgi hTG HSX
          have hGR := hidden hgr
          have HGA := hidden hga
          have haz : (a : Int) < (m : Int) := by omega
          have ha0 : (0 : Int) ≤ (a : Int) := by omega
          have hlz : ¬ (sn : Int) < 2 := by omega
          have HS := hidden hS
          have hb0 := hidden hBx
          clear hs7 hga hgm hsr hgr hS hBx
          go_wp2_with fail
          go_loopw [52] (fun vj wy => ∃ b : Nat, vj = .int .i64 b ∧ b ≤ sn ∧ Whole1 wy H2 4 (seenCells k ((G.take a).flatten ++ sl.take b)) ∧ RowKit.Below H2 w2 wy) (fun vj _ => sn - (intOf vj).toNat)
          case atStart => exact ⟨0, rfl, Nat.zero_le _, by simpa using HS.out, hb0.out⟩
          case round =>
            obtain ⟨b, rfl, hbn, hSb, hBb⟩ := hrel
            by_cases hbl : b < sn
            · obtain ⟨wy, rfl⟩ : ∃ wy : World, wy = wr := ⟨_, rfl⟩
              obtain ⟨_, _, hsrb⟩ := HRC.out _ hBb _ HSX.out
              change Row wy H2 1 sA sn (sl.flatMap intc) at hsrb
              obtain ⟨g8, o8, z, rfl, hz, z0⟩ := int_cell hsrb hsl b hbl
              obtain ⟨g9, o9, z1, hA9, hz1', z2⟩ := int_cell hsrb hsl 0 (by omega)
              injection hA9 with hA9
              injection hA9 with hA91 hA92
              subst hA91 hA92
              obtain ⟨i, x, rfl, hx, hxr⟩ := hGR.out z (List.mem_of_getElem? hz)
              obtain ⟨i1, y, rfl, hy, hyr⟩ := hGR.out z1 (List.mem_of_getElem? hz1')
              have hik : i < k := by have := (List.getElem?_eq_some_iff.1 hx).1; rw [HRL.out] at this; exact this
              have hi1k : i1 < k := by have := (List.getElem?_eq_some_iff.1 hy).1; rw [HRL.out] at this; exact this
              obtain ⟨ga, oa, rfl, _, x', hx', x0, x1, x2, x3, x4⟩ := inf_cells_at (HRA.out _ hBb) HRL.out (RowKit.Below.refl _ _) i hik
              obtain ⟨gb, ob, hAb, _, y', hy', y0, y1, y2, y3, y4⟩ := inf_cells_at (HRA.out _ hBb) HRL.out (RowKit.Below.refl _ _) i1 hi1k
              injection hAb with hAb
              injection hAb with hAb1 hAb2
              subst hAb1 hAb2
              have hxx := hx.symm.trans hx'
              injection hxx with hxx
              subst hxx
              have hyy := hy.symm.trans hy'
              injection hyy with hyy
              subst hyy
              have hfresh := fresh_id HND.out HGA.out hz
              have hsn : wy.cell? ⟨H2, i, none⟩ = some (.bool false) := by
                rw [hSb.cell, seen_at k _ i hik, decide_eq_false hfresh]
              have hfz := hSb.free i
              have hTS := hidden (take_snoc? hz)
              rw [hxr] at x1
              rw [hyr] at y1
              have n1 : ((r != r) : Bool) = false := by simp
              have b0 : (b : Int) < (sn : Int) := by omega
              have b1 : (0 : Int) ≤ (b : Int) := by omega
              have b2 : decide ((i : Int) < 0) = false := by simp
              have b3 : decide ((k : Int) ≤ (i : Int)) = false := by simp; omega
              have b4 : (i : Int) < (k : Int) := by omega
              have b9 : 0 < sn := by omega
              have b10 : decide (k ≤ i) = false := by simp; omega
              have b5 : (0 : Int) ≤ (i : Int) := by omega
              have b6 : (i1 : Int) < (k : Int) := by omega
              have b7 : (0 : Int) ≤ (i1 : Int) := by omega
              have b8 : (0 : Int) < (sn : Int) := by omega
              have HSb := hidden hSb
              rw [Nat.add_zero] at z2
              clear hx hy hx' hy' hz hz1' hfresh hSb hsrb x0 x2 x3 x4 y0 y2 y3 y4
              go_wp2_with fail
              go_quiet (fail)
              go_wp2_with fail
              go_roundw
              case rel =>
                have hput := (HSb.out.drewN nq).put i (.bool true)
                rw [seen_put, List.append_assoc, ← hTS.out] at hput
                exact ⟨b + 1, by go_num, by omega, hput, (below_drewN hBb nq).setCell (p := ⟨H2, i, none⟩) (Nat.le_refl _) _⟩
              case measure => simp [intOf]; omega
            · obtain rfl : b = sn := by omega
              rw [List.take_of_length_le (l := sl) (by rw [hsl]; exact Nat.le_refl _)] at hSb
              have hbz : ¬ (b : Int) < (b : Int) := by omega
              go_wp2_with fail
              go_roundw
              case rel => exact ⟨a + 1, by go_num, by omega, by rw [hTG.out, List.flatten_append, List.flatten_singleton]; exact hSb, hBb⟩
              case measure => simp [intOf]; omega
        · obtain rfl : a = m := by omega
          have haz : ¬ (a : Int) < (a : Int) := by omega
          have hB9 := hB2.trans (hBx.mono hB2h)
          have hr6 := hR6.out
          rw [HH2.out] at hr6
          have hr6x := (hr6.below hBx).more (by rw [← HH2.out]; exact hBx.size)
          have hL9 : LLAt wr B1 (.slice A7 a c7) G S2 := by
            have h := HL2.out
            rw [HM.out] at h
            exact h.below (by rw [HH2.out]; exact hBx)
          have HL9 := hidden hL9
          have HR6x := hidden hr6x
          have HB9 := hidden hB9
          clear hL9 hr6 hr6x hB9 hS hBx
          go_wp2_with fail
          refine (plan_any fan A6 k c6 (reId l).reverse _ HR6x.out (by rw [List.length_reverse, HRL.out]) hn hf).mono ?_
          rw [planI_perm fan (List.reverse_perm (reId l)), HG.out]
          rintro e w9 ⟨v9, S9, rfl, hL10, hb10⟩
          have hB10 := HB9.out.trans (hb10.mono HB9.out.size)
          have hL11 := hidden (HL9.out.below hb10)
          have HL10 := hidden hL10
          clear hL10 hb10
          go_wp2_with fail
          refine (same_ll HL10.out hL11.out (by rw [HM.out]; omega) (fun g hg => by have := HGI.out g hg; omega)).mono ?_
          rintro e w11 ⟨rfl, q, rfl⟩
          go_wp2_with fail
          go_ret
          exact ⟨rfl, below_drewN hB10 q⟩

theorem planOnce_walk {H : Type} (enc : TypeId × Value → H) : LawWalk enc Try.prog 12 Try.f12 (fun _ => True) :=
  planLaw_walk Try.params12 (fun fan A n c l w hr hl _ hn _ hf => planOnce_any fan A n c l w hr hl hn hf) enc

namespace planOnce
set_option maxRecDepth 100000 in
theorem lifted (os : Os) (started : os.Started) (H : Type) (enc : TypeId × Value → H) :
    ReturnsInHanded {} Try.checked os 12 .any (Rows.planOnceSpec.pre6 enc Try.prog Try.f12 Rows.planOnceRow.domain false) (Rows.planOnceSpec.post enc Try.prog Try.f12 false true false false) :=
  law_said (C := Try.checked) (s := Rows.planOnceSpec) (tb := 4) own_prog started (by kernel_rfl) Try.func12
    (ChangeSpec.witness6 (enc := enc) (C := Try.checked) false ⟨#[], #[.int .i64 0, .slice none 0 0], []⟩ 8 (by kernel_rfl) (by kernel_rfl) (by kernel_rfl) (by kernel_rfl))
    laidOut (by kernel_rfl) rfl Try.underlying4 ⟨rfl, fun H ds h => match ds, h with | [_, _], _ => ⟨rfl, rfl, rfl⟩⟩ (planOnce_walk enc)

theorem proved : Rows.PlanOnceSaid :=
  OpenClaim.holds_of_wide 12 Try.f12 rfl rfl rfl rfl rfl rfl rfl ⟨rfl, rfl, rfl, rfl, rfl⟩ rfl rfl rfl rfl rfl (by kernel_rfl) Try.func12 (by kernel_rfl)
    (of_decide_eq_true (by kernel_rfl)) (by unfold Func.isWrapper; first | (rw [if_pos (by decide +kernel)]; kernel_rfl) | (rw [if_neg (by decide +kernel)]; exact ⟨rfl, rfl⟩))
    (fun os started H enc _ => lifted os started H enc)
#print axioms proved
end planOnce
end Go.Proofs.Ytohocdbneopooaa
