/- head.Apply of a record without times that are taken away, walked. Condition: the head is one, the record is fit for it, and the call's own. -/
import Derived.Test.YthncochjhbmceaaGreatHedFit
import Derived.Test.YthncochjhbmceaaGreatHedApM
namespace Go.Proofs.YthncochjhbmceaaGreat
set_option maxRecDepth 100000
open Go.RowKit

theorem infoSrP : (Tryz.prog.info? 108).map (fun i => (i.zero, i.size, i.bytes)) = some (some (.pointer none), 1, 8) := by kernel_rfl
/-- the types of what Apply writes -/
abbrev appT : List TypeId := [172, 61, 3, 99, 108, 107, 68]
set_option maxHeartbeats 12800000 in
theorem hed_apply (w : World) {base bo h : Nat} {E : List (List Lbl)} {X : List HsR} (hh : Hed w base h E X) (hbase : base ≤ w.heap.size) (r : RecR) (ho : RecO w bo r) (hf : FitsH E (X.map HsR.mx) r) (hgn : r.gones.l = []) (hE : E.length + r.news.n ≤ 1048576) (hC : cntP (X.map HsR.p) + r.pts.n ≤ 1048576) :
    Calls Tryz.prog 9 #[.pointer (some ⟨h, 0, none⟩), r.val] w fun e w' => e = .returned (.int .i64 0) ∧ ∃ X', Hed w' base h (E ++ r.news.l.map fun x => x.lab.l) X' ∧ X'.map HsR.p = putsP (X.map HsR.p ++ List.replicate r.news.n serN) r.pts.l ∧ Turn base appT true w w' := by
  have hb : Below w.heap.size w (w.alloc (.cells #[r.news.val, r.pts.val, r.gones.val] 31)) := (Below.refl _ _).alloc (Nat.le_refl _) _
  have hw0 := Whole1.new w 31 #[r.news.val, r.pts.val, r.gones.val]
  have ho1 := ho.turn (Turn.of_below hb 0 [] false) (by simp) (by simp) (by simp) (by simp) (.inl (by simp))
  have S1 := hidden (hed_fits _ (hh.below hb) r ho1.at_ ho1.labs hf hE)
  have HO1 := hidden ho1
  have HH1 := hidden (hh.below hb)
  have HF := hidden hf
  have HGN := hidden hgn
  have hgl := ho.at_.gones.2.1
  rw [hgn] at hgl
  have HT0 := hidden (Turn.of_below hb base appT true)
  obtain ⟨⟨nA, nn, nc, nl⟩, ⟨pA, pn, pc, pl⟩, ⟨gA, gn, gc, gl⟩⟩ := r
  obtain rfl : gn = 0 := hgl.symm
  simp only [RecR.val, Sl.val] at S1 hb hw0 hE hC HT0 HH1 HO1 ⊢
  clear ho hf hh hgn hgl ho1
  go_enter Tryz.func9, Tryz.ntmps9
  go_upto_region 1 with (fail)
  obtain ⟨R, hR⟩ : ∃ R, w.heap.size = R := ⟨_, rfl⟩
  have HB1 := hidden hb.size
  generalize w.alloc (.cells #[.slice nA nn nc, .slice pA pn pc, .slice gA 0 gc] 31) = w1 at *
  rw [hR] at hw0 ⊢
  have HW1 := hidden hw0
  have q0 := hw0.cell 0
  have q1 := hw0.cell 1
  have q2 := hw0.cell 2
  clear hb hw0 hR
  go_wp2_with fail
  refine S1.out.mono ?_
  rintro e w2 ⟨rfl, b2⟩
  have HW2 := hidden (HW1.out.below b2 HW1.out.lt)
  have hw2 := HW2.out
  have q0 := hw2.cell 0
  have q1 := hw2.cell 1
  have q2 := hw2.cell 2
  have HO2 := hidden (HO1.out.turn (Turn.of_below b2 0 [] false) (by simp) (by simp) (by simp) (by simp) (.inl (by simp)))
  have HH2 := hidden (HH1.out.below b2)
  have HT2 := hidden (HT0.out.trans (Turn.of_below b2 base appT true))
  have HB2 := hidden (Nat.le_trans (Nat.le_trans hbase HB1.out) b2.size)
  clear S1 b2 HW1 hw2 HO1 HH1 HT0 HB1
  go_wp2_with fail
  obtain ⟨ip, sv, hb2⟩ := HH2.out
  have HXL := hidden hb2.len
  have HPI := hidden hb2.idx
  have HPS := hidden hb2.s
  clear hb2 HH2 q0
  obtain ⟨iP, iP0, iP1, iP2, iP3⟩ := info_parts infoSrP
  go_loopw [24] (fun vi wr => ∃ (k : Nat) (sv1 : Value) (X1 : List HsR), vi = .int .i64 (k : Int) ∧ k ≤ nn ∧ Hid (Idx wr base ip (E ++ (nl.take k).map fun x => x.lab.l)) ∧ Hid (HedS wr base h ip sv1 X1) ∧ Hid (X1.map HsR.p = X.map HsR.p ++ List.replicate k serN) ∧ Hid (Turn base appT true w wr) ∧ Hid (Whole1 wr R 31 #[.slice nA nn nc, .slice pA pn pc, .slice gA 0 gc]) ∧ Hid (RecO wr bo ⟨⟨nA, nn, nc, nl⟩, ⟨pA, pn, pc, pl⟩, ⟨gA, 0, gc, gl⟩⟩)) (fun vi _ => nn - (intOf vi).toNat)
  case atStart => exact ⟨0, sv, X, rfl, Nat.zero_le _, hidden (by simpa using HPI.out), HPS, hidden (by simp), HT2, HW2, HO2⟩
  case round =>
    obtain ⟨k, sv1, X1, rfl, hk, hi, hs, hp, ht, hw, ho⟩ := hrel
    have k0 : (0 : Int) ≤ (k : Int) := by omega
    by_cases hlt : k < nn
    · have k1 : (k : Int) < (nn : Int) := by omega
      have HLT := hidden (show k + 1 ≤ nn from hlt)
      have fwk : IntKind.i64.wrap ((k : Int) + 1) = (k : Int) + 1 := Go.IntWalk.i64_in _ (by omega)
      obtain ⟨g, o, x, hnA, hg, hx, hc⟩ := row_at (enc := NewQ.cells) (k := 2) newK ho.out.at_.news.2.2 ho.out.at_.news.2.1 k hlt
      simp only at hnA
      subst hnA
      have hxm := List.mem_of_getElem? hx
      have hlb := ho.out.labs x hxm
      have hnc := (ho.out.at_.labs x hxm).2
      have hap := nodup_at HF.out.apart (l := x.lab.l) (k := k) (by rw [List.getElem?_map, hx]; rfl)
      have hval := (HF.out.rec_.1 x hxm).2
      have hsn := congrArg (List.map fun x : NewQ => x.lab.l) (take_snoc? hx)
      have c0 := hc 0 (by omega)
      have c1 := hc 1 (by omega)
      obtain ⟨xr, ⟨lA, lN, lC, ll⟩⟩ := x
      simp only [NewQ.cells, Sl.val, List.getElem?_cons_zero, List.getElem?_cons_succ, Nat.add_zero] at c0 c1 hlb hnc hap hval
      have hae : addE (E ++ (nl.take k).map fun x => x.lab.l) ll = (((((E ++ (nl.take k).map fun x => x.lab.l).length : Nat) : Int), true, 0), (E ++ (nl.take k).map fun x => x.lab.l) ++ [ll]) := by
        unfold addE
        rw [if_neg (by simp [enc_fit.2 hval]), atE_app, hap.1, List.map_take, hap.2]
        rfl
      have hb1 : Below wr.heap.size wr (wr.alloc (.cells #[.int .i64 xr, .slice lA lN lC] 113)) := (Below.refl _ _).alloc (Nat.le_refl _) _
      have hw1 := Whole1.new wr 113 #[.int .i64 xr, .slice lA lN lC]
      obtain ⟨w4, hw4⟩ : ∃ w4, wr.alloc (.cells #[.int .i64 xr, .slice lA lN lC] 113) = w4 := ⟨_, rfl⟩
      obtain ⟨Y, hY⟩ : ∃ Y, wr.heap.size = Y := ⟨_, rfl⟩
      rw [hw4] at hb1 hw1
      rw [hY] at hw1
      have HSN := hidden hsn
      have hbw : base ≤ w4.heap.size := Nat.le_trans (Nat.le_trans hbase ht.out.size) hb1.size
      have hi4 := hi.out.below hb1
      have hlb4 : LbT w4 lA lN ll := hlb.turn (Turn.of_below hb1 0 [] false) (by simp)
      have S3 := fun W (hW : Below w4.heap.size w4 W) => idx_add lA lN lC ll W (hi4.below hW) (hlb4.turn (Turn.of_below hW 0 [] false) (by simp)) hnc (Nat.le_trans hbw hW.size) (by rw [List.length_append, List.length_map, List.length_take]; omega)
      rw [hae] at S3
      have S3 := hidden S3
      have HS4 := hidden (hs.out.below hb1)
      have HT4 := hidden (ht.out.trans (Turn.of_below hb1 base appT true))
      have HR4 := hidden (hw.out.below hb1 hw.out.lt)
      have HO4 := hidden (ho.out.turn (Turn.of_below hb1 0 [] false) (by simp) (by simp) (by simp) (by simp) (.inl (by simp)))
      have HBW := hidden hbw
      have ch0 := HS4.out.blk.cell 0
      have d1 := hw1.cell 1
      clear hxm hlb hnc hap hval hsn hae hb1 hw1 hi hs ht hw ho hbw hi4 hlb4 hx hc
      go_upto_region 8 with (fail)
      clear c0 c1 hw4 hY
      go_cut [] (fun wx => Hid (Idx wx base ip ((E ++ (nl.take k).map fun x => x.lab.l) ++ [ll])) ∧ Hid (Turn base [172, 61, 3] true w4 wx))
      case first =>
        go_region_law (first
          | (go_simp; go_at_call 30; refine (S3.out _ (Below.refl _ _).drew).mono ?_; rintro e w5 ⟨rfl, hi5, t5⟩; have HI5 := hidden hi5; have HT5 := hidden ((Turn.of_below ((Below.refl w4.heap.size w4).drew) base [172, 61, 3] true).trans t5)))
        all_goals
          go_wp2_with fail
          go_meet
          exact ⟨HI5, HT5⟩
      case rest =>
        obtain ⟨HI5, HT5⟩ := hcut
        have HS5 := hidden (HS4.out.turn HT5.out (by decide))
        have HR5 := hidden (HT5.out.whole HR4.out (.inr (by decide)))
        have HO5 := hidden (HO4.out.turn HT5.out (by decide) (by decide) (by decide) (by decide) (.inl (by decide)))
        have HT6 := hidden (HT4.out.trans (HT5.out.wider (Nat.le_refl _) (by decide) id))
        have HB5 := hidden (Nat.le_trans HBW.out HT5.out.size)
        clear S3 ch0 d1 HS4 HR4 HO4 HT4 HT5 HBW
        obtain ⟨As, cs, rfl, _, _⟩ := own_shape HS5.out.row
        have ch1 := HS5.out.blk.cell 1
        have f1 := HS5.out.blk.free 1
        have hXl : X1.length = E.length + k := by have := congrArg List.length hp.out; have h2 := HXL.out; simp at this; omega
        have hfr := Row.fresh (wc.alloc (.cells #[.int .i64 (-1), .slice none 0 0, .slice none 0 0, .slice none 0 0, .slice none 0 0] 107)) 108 1 1 [.pointer (some ⟨wc.heap.size, 0, none⟩)] rfl
        rw [World.size_alloc] at hfr
        have hba : Below wc.heap.size wc ((wc.alloc (.cells #[.int .i64 (-1), .slice none 0 0, .slice none 0 0, .slice none 0 0, .slice none 0 0] 107)).alloc (.cells #[.pointer (some ⟨wc.heap.size, 0, none⟩)] 108)) := ((Below.refl _ _).alloc (Nat.le_refl _) _).alloc (by simp) _
        have hwn := (Whole1.new wc 107 #[.int .i64 (-1), .slice none 0 0, .slice none 0 0, .slice none 0 0, .slice none 0 0]).alloc (.cells #[.pointer (some ⟨wc.heap.size, 0, none⟩)] 108)
        have HBA := hidden hba
        have HWN := hidden hwn
        have HXl := hidden hXl
        clear hba hwn hXl
        go_wp2_with (at_builtin; refine wpList_app _ rfl _ _ 97 rfl base 108 iP _ 1 8 Tryz.underlying97 iP0 iP1 iP2 iP3 rfl (by decide) _ _ _ rfl ((HS5.out.row.alloc _).alloc _) _ _ _ _ _ rfl hfr (by simp [Value.oneCell']) (by have := HXl.out; unfold maxLen; omega) (by have := HXl.out; omega) (by have := HB5.out; simp; omega) ?_; intro v10 w10 hown10 hg10 hat10; obtain ⟨A10, q10, rfl, _, _⟩ := own_shape hown10; obtain ⟨hh10, hs10, ht10⟩ := HS5.out.snoc HBA.out HWN.out (Nat.le_refl _) HB5.out hown10 hg10; have HS10 := hidden hs10; have HT10 := hidden ht10; have f10 := hh10.free 1; have c10 := hh10.cell 1)
        have HPN := hidden (show (X1 ++ [⟨wc.heap.size, -1, .slice none 0 0, [], .slice none 0 0, []⟩] : List HsR).map HsR.p = X.map HsR.p ++ List.replicate (k + 1) serN by rw [List.map_append, hp.out, List.replicate_succ', List.append_assoc]; rfl)
        go_roundw
        case rel => exact ⟨k + 1, _, _, by go_num, HLT.out, hidden (by rw [HSN.out, List.map_append, ← List.append_assoc]; exact HI5.out.turn (HT10.out.wider (Nat.le_refl _) (fun _ h => h) id) (by decide) (by decide) (by decide) (by decide)), HS10, HPN, hidden (HT6.out.trans (HT10.out.wider (Nat.le_refl _) (by decide) (by simp))), hidden (HT10.out.whole HR5.out (.inr (by decide))), hidden (HO5.out.turn HT10.out (by decide) (by decide) (by decide) (by decide) (.inl (by decide)))⟩
        case measure => have := HLT.out; simp [intOf]; omega
    · obtain rfl : nn = k := by omega
      have q1 := hw.out.cell 1
      obtain ⟨iQ, iQ0, iQ1, iQ2, iQ3⟩ := info_parts ClnSmp.info
      have hnl2 : (nl.take nn).map (fun x : NewQ => x.lab.l) = nl.map fun x => x.lab.l := by
        rw [List.take_of_length_le (by have := ho.out.at_.news.2.1; simp only at this; omega)]
      rw [hnl2] at hi
      have HX1 := hidden (show X1.length = E.length + nn by have := congrArg List.length hp.out; have h2 := HXL.out; simp at this; omega)
      have HPS1 := hidden (show (putsP (X.map HsR.p ++ List.replicate nn serN) []).length = X1.length by rw [← hp.out, putsP_len, List.length_map])
      clear hnl2
      go_wp2_with fail
      go_loopw [50] (fun vi wr => ∃ (k : Nat) (X2 : List HsR), vi = .int .i64 (k : Int) ∧ k ≤ pn ∧ Hid (Idx wr base ip (E ++ nl.map fun x => x.lab.l)) ∧ Hid (HedS wr base h ip sv1 X2) ∧ Hid (X2.map HsR.p = putsP (X.map HsR.p ++ List.replicate nn serN) (pl.take k)) ∧ Hid (Turn base appT true w wr) ∧ Hid (Whole1 wr R 31 #[.slice nA nn nc, .slice pA pn pc, .slice gA 0 gc]) ∧ Hid (RecO wr bo ⟨⟨nA, nn, nc, nl⟩, ⟨pA, pn, pc, pl⟩, ⟨gA, 0, gc, gl⟩⟩)) (fun vi _ => pn - (intOf vi).toNat)
      case atStart => exact ⟨0, X1, rfl, Nat.zero_le _, hi, hs, hidden (by rw [hp.out]; simp [putsP]), ht, hw, ho⟩
      case round =>
        clear hi hs hp ht hw ho q1
        obtain ⟨k, X2, rfl, hk, hi, hs, hp, ht, hw, ho⟩ := hrel
        have k0 : (0 : Int) ≤ (k : Int) := by omega
        by_cases hlt : k < pn
        · have k1 : (k : Int) < (pn : Int) := by omega
          have HLT := hidden (show k + 1 ≤ pn from hlt)
          have fwk : IntKind.i64.wrap ((k : Int) + 1) = (k : Int) + 1 := Go.IntWalk.i64_in _ (by omega)
          obtain ⟨g, o, x, hpA, hg, hx, hc⟩ := row_at (enc := PntR.cells) (k := 3) pntK ho.out.at_.pts.2.2 ho.out.at_.pts.2.1 k hlt
          simp only at hpA
          subst hpA
          obtain ⟨h0, mm, hmm, hlt2⟩ := ptsOk_at HF.out.pts hx
          have hsn := congrArg (putsP (X.map HsR.p ++ List.replicate nn serN)) (take_snoc? hx)
          rw [putsP_snoc, ← hp.out] at hsn
          have c0 := hc 0 (by omega)
          have c1 := hc 1 (by omega)
          have c2 := hc 2 (by omega)
          obtain ⟨pr, pt, pv⟩ := x
          obtain ⟨rn, rfl⟩ : ∃ rn : Nat, pr = (rn : Int) := ⟨pr.toNat, by simp only at h0; omega⟩
          simp only [PntR.cells, List.getElem?_cons_zero, List.getElem?_cons_succ, Nat.add_zero, Int.toNat_natCast] at c0 c1 c2 hmm
          have hX2l : X2.length = E.length + nn := by have := congrArg List.length hp.out; rw [List.length_map, putsP_len, List.length_append, List.length_map, List.length_replicate] at this; rw [this, HXL.out]
          have hrn : rn < X2.length := by
            have := (List.getElem?_eq_some_iff.1 hmm).1
            rw [afterP_len, List.length_append, List.length_map, List.length_replicate] at this
            rw [hX2l, ← HXL.out]; exact this
          obtain ⟨y, hy⟩ : ∃ y, X2[rn]? = some y := ⟨_, List.getElem?_eq_getElem hrn⟩
          have hsm : y.sm.length ≤ 1048576 := by
            have h1 := sm_le_cnt (S := X2.map HsR.p) (s := y.p) (List.mem_map.2 ⟨y, List.mem_of_getElem? hy, rfl⟩)
            have h2 : cntP (X2.map HsR.p) = cntP (X.map HsR.p) + k := by
              rw [hp.out, cntP_puts _ _ (by
                have h3 := HF.out.pts
                rw [← List.take_append_drop k pl, ptsOk_app] at h3
                rw [mx_new, List.map_map]
                exact h3.1), cntP_new, List.length_take]
              have := ho.out.at_.pts.2.1
              simp only at this
              omega
            have h4 : y.p.sm.length = y.sm.length := rfl
            omega
          have hput : putPt (X2.map HsR.p) ⟨(rn : Int), pt, pv⟩ = (X2.set rn ⟨y.b, pt, y.gv, y.gone, y.sv, y.sm ++ [⟨pt, pv⟩]⟩).map HsR.p := by
            rw [putP_some (s := y.p) (by simp only [Int.toNat_natCast]; rw [List.getElem?_map, hy]; rfl), List.map_set]
            rfl
          rw [hput] at hsn
          obtain ⟨As, cs, hAs, _, hrow⟩ := own_shape hs.out.row
          rw [List.map_eq_flatMap] at hrow
          obtain ⟨gs, os, y2, hAs2, _, hy2, hcx⟩ := row_at (enc := fun x : HsR => [x.ptr]) (k := 1) (fun _ => rfl) hrow rfl rn hrn
          obtain rfl : y = y2 := by rw [hy] at hy2; exact Option.some.inj hy2
          subst hAs2
          have hym := hs.out.at_ y (List.mem_of_getElem? hy)
          have hb1 : Below wr.heap.size wr (wr.alloc (.cells #[.int .i64 (rn : Int), .int .i64 pt, .int .u64 (pv : Int)] 115)) := (Below.refl _ _).alloc (Nat.le_refl _) _
          have hw1 := Whole1.new wr 115 #[.int .i64 (rn : Int), .int .i64 pt, .int .u64 (pv : Int)]
          obtain ⟨w4, hw4⟩ : ∃ w4, wr.alloc (.cells #[.int .i64 (rn : Int), .int .i64 pt, .int .u64 (pv : Int)] 115) = w4 := ⟨_, rfl⟩
          obtain ⟨Y, hY⟩ : ∃ Y, wr.heap.size = Y := ⟨_, rfl⟩
          rw [hw4] at hb1 hw1
          rw [hY] at hw1
          have HS4 := hidden (hs.out.below hb1)
          have HI4 := hidden (hi.out.below hb1)
          have HT4 := hidden (ht.out.trans (Turn.of_below hb1 base appT true))
          have HR4 := hidden (hw.out.below hb1 hw.out.lt)
          have HO4 := hidden (ho.out.turn (Turn.of_below hb1 0 [] false) (by simp) (by simp) (by simp) (by simp) (.inl (by simp)))
          have HBW := hidden (Nat.le_trans (Nat.le_trans hbase ht.out.size) hb1.size)
          have HN4 := hidden hw1
          have HSN := hidden hsn
          have HY := hidden hy
          have HRN := hidden hrn
          have HX2 := hidden hX2l
          have HSM := hidden hsm
          have ch1 : w4.cell? ⟨h, 1, none⟩ = some (.slice (some ⟨gs, os, none⟩) X2.length cs) := by rw [HS4.out.blk.cell 1, ← hAs]; rfl
          have cx0 : w4.cell? ⟨gs, os + rn, none⟩ = some (.pointer (some ⟨y.b, 0, none⟩)) := by
            have h1 := hcx 0 (by omega)
            simp only [Nat.mul_one, Nat.add_zero, List.getElem?_cons_zero] at h1
            exact (hb1.cell (World.block_lt_of_cell? wr _ h1)).trans h1
          have d0 := hw1.cell 0
          have d1 := hw1.cell 1
          have d2 := hw1.cell 2
          have hrz : (rn : Int) < (X2.length : Int) := by omega
          clear hi hs hp ht hw ho hx hc h0 hmm hlt2 hsn hput hrow hcx hym hb1 hw1 hy hy2 hrn hX2l hsm
          go_upto_region 14 with (fail)
          clear c0 c1 c2 hw4 hY
          go_quiet (fail)
          obtain ⟨w5, hw5⟩ : ∃ w5, w4.drewN nq = w5 := ⟨_, rfl⟩
          have hb5 : Below w4.heap.size w4 w5 := hw5 ▸ below_drewN (Below.refl _ _) _
          have HS5 := hidden (HS4.out.below hb5)
          have HI5 := hidden (HI4.out.below hb5)
          have HT5 := hidden (HT4.out.trans (Turn.of_below hb5 base appT true))
          have HR5 := hidden (HR4.out.below hb5 HR4.out.lt)
          have HO5 := hidden (HO4.out.turn (Turn.of_below hb5 0 [] false) (by simp) (by simp) (by simp) (by simp) (.inl (by simp)))
          have HB5 := hidden (Nat.le_trans HBW.out hb5.size)
          have hn5 := HN4.out.below hb5 HN4.out.lt
          have hY1 := hn5.cell 1
          have hY2 := hn5.cell 2
          have HN5 := hidden hn5
          rw [hw5]
          clear hw5 hb5 hn5 HS4 HI4 HT4 HR4 HO4 HBW HN4 ch1 cx0 d0 d1 d2
          obtain ⟨yb, ymx, ygv, ygo, ysv, ysm⟩ := y
          have hym := HS5.out.at_ _ (List.mem_of_getElem? HY.out)
          obtain ⟨Ay, cy, hAy, _, _⟩ := own_shape hym.smp
          simp only at hAy
          subst hAy
          obtain ⟨ns, hns⟩ : ∃ ns, ysm.length = ns := ⟨_, rfl⟩
          have y4 := hym.blk.cell 4
          have g4 := hym.blk.free 4
          have hysm := hym.smp
          simp only [HsR.cells, List.getElem?_toArray, List.getElem?_cons_zero, List.getElem?_cons_succ, hns] at y4 g4 hysm
          have HSM2 := HSM.out
          simp only [hns] at HSM2
          have HNS := hidden hns
          have HYS := hidden hysm
          have y4b := (hym.blk.alloc (.cells #[.int .i64 pt, .int .u64 (pv : Int)] 68)).cell 4
          have g4b := (hym.blk.alloc (.cells #[.int .i64 pt, .int .u64 (pv : Int)] 68)).free 4
          have hY1b := (HN5.out.alloc (.cells #[.int .i64 pt, .int .u64 (pv : Int)] 68)).cell 1
          have hY2b := (HN5.out.alloc (.cells #[.int .i64 pt, .int .u64 (pv : Int)] 68)).cell 2
          simp only [HsR.cells, List.getElem?_toArray, List.getElem?_cons_zero, List.getElem?_cons_succ, hns] at y4b g4b
          have hfr := Row.fresh w5.drew 68 2 1 [.int .i64 pt, .int .u64 (pv : Int)] rfl
          rw [show w5.drew.heap.size = w5.heap.size from rfl] at hfr
          have T := fun (ops : Array Oper) (oo : Oper) (a : Act) (K : Act → World → Prop) (Q : Exit → Act → World → Prop) (EE : Prop) (hg : oo.guard = none) (s1 s2 : Operand) (ho : oo.op = .call { callee := .builtin .append, args := #[s1, s2], argTypes := #[63, 63] }) (hs : a.eval s1 = .slice Ay ns cy) (hx : a.eval s2 = .slice (some ⟨w5.heap.size, 0, none⟩) 1 1) h =>
            step_appA (P := Tryz.prog) (ops := ops) (o := oo) (a := a) (K := K) (Q := Q) (E := EE) (w5.drew.alloc (.cells #[.int .i64 pt, .int .u64 (pv : Int)] 68)) hg s1 s2 63 ho base 68 iQ _ 2 16 Tryz.underlying63 iQ0 iQ1 iQ2 iQ3 rfl (by decide) _ _ _ hs (HYS.out.alloc _) _ _ _ _ _ hx hfr (by simp [Value.oneCell']) (by unfold maxLen; omega) (by omega) (by rw [World.size_alloc]; have : w5.drew.heap.size = w5.heap.size := rfl; have := HB5.out; omega) h
          clear hns hym hysm
          go_upto_region 15 with (fail)
          have hBA : Below w5.heap.size w5 (w5.drew.alloc (.cells #[.int .i64 pt, .int .u64 (pv : Int)] 68)) := ((Below.refl _ _).drew).alloc (Nat.le_refl _) _
          have HBA := hidden hBA
          clear hBA
          go_region_law (refine T _ _ _ _ _ _ rfl _ _ rfl rfl rfl ?_; intro v10 w10 hown10 hg10 hat10; obtain ⟨A10, q10, rfl, _, _⟩ := own_shape hown10; have hown11 := hown10; rw [← HNS.out] at hown11; have hat11 := hat10; rw [← HNS.out] at hat11; have hg11 := hg10; rw [← HNS.out] at hg11; have hat12 : (Value.slice A10 (ysm.length + 1) q10).ownBlock = (Value.slice Ay ysm.length cy).ownBlock ∨ ∃ q, (Value.slice A10 (ysm.length + 1) q10).ownBlock = some q ∧ w5.heap.size ≤ q := (hat11.elim Or.inl (fun e => Or.inr ⟨_, e, by rw [World.size_alloc]; exact Nat.le_succ _⟩)); obtain ⟨hh10, hs10, ht10⟩ := HS5.out.point (t := pt) (u := pv) HBA.out HY.out hown11 hg11 hat12; rw [HNS.out] at hs10 ht10; have hh11 : Whole1 w10 yb 107 #[.int .i64 ymx, ygv, .slice none 0 0, .slice none 0 0, .slice Ay ns cy] := (by rw [← HNS.out]; exact hh10); have HS10 := hidden hs10; have HT10 := hidden ht10; have f10 := hh11.free 4; have c10 := hh11.cell 4; have f11 := (hh11.put 4 (.slice A10 (ns + 1) q10)).free 0; have c11 := (hh11.put 4 (.slice A10 (ns + 1) q10)).cell 0; have hn10 := (show Turn base [107] false w10 (w10.setCell ⟨yb, 4, none⟩ (.slice A10 (ns + 1) q10)) from Turn.put hh11 (HS5.out.at_ _ (List.mem_of_getElem? HY.out)).old (by simp) 4 _).whole ((show Turn base [68] false (w5.drew.alloc (.cells #[.int .i64 pt, .int .u64 (pv : Int)] 68)) w10 from Turn.of_own (HYS.out.alloc _) (Nat.le_refl _) (by simp) hg10).whole ((HN5.out.drewN 1).alloc _) (.inr (by decide))) (.inr (by decide)); have n10 := hn10.cell 1)
          all_goals
            go_wp2_with fail
            go_roundw
            case rel => exact ⟨k + 1, _, by go_num, HLT.out, hidden (HI5.out.turn HT10.out (by decide) (by decide) (by decide) (by decide)), HS10, hidden (by rw [HSN.out, List.map_set, List.map_set]; rfl), hidden (HT5.out.trans (HT10.out.wider (Nat.le_refl _) (by decide) (by simp))), hidden (HT10.out.whole HR5.out (.inr (by decide))), hidden (HO5.out.turn HT10.out (by decide) (by decide) (by decide) (by decide) (.inl (by decide)))⟩
            case measure => have := HLT.out; simp [intOf]; omega
        · obtain rfl : pn = k := by omega
          have q2 := hw.out.cell 2
          have hpl : pl.take pn = pl := List.take_of_length_le (by have := ho.out.at_.pts.2.1; simp only at this; omega)
          have hX2l : X2.length = (E ++ nl.map fun x => x.lab.l).length := by
            have h1 := congrArg List.length hp.out
            have h2 := ho.out.at_.news.2.1
            have h3 := HXL.out
            rw [List.length_map, putsP_len, List.length_append, List.length_map, List.length_replicate] at h1
            rw [List.length_append, List.length_map]
            simp only at h2
            omega
          rw [hpl] at hp
          have HF9 := hidden (show ∃ X', Hed wr base h (E ++ nl.map fun x => x.lab.l) X' ∧ X'.map HsR.p = putsP (X.map HsR.p ++ List.replicate nn serN) pl ∧ Turn base appT true w wr from ⟨X2, ⟨ip, sv1, hs.out.full hi.out hX2l⟩, hp.out, ht.out⟩)
          clear hi hs hp ht hw ho hpl hX2l
          go_wp2_with fail
          refine wp_loop_rounds 1 ?_
          rw [rounds_succ]
          go_wp2_with fail
          go_ret
          exact ⟨rfl, HF9.out⟩
set_option maxHeartbeats 3200000 in
/-- a record that isn't fit changes nothing -/
theorem hed_apply_no (h : Nat) (r : RecR) (w : World) (hr : r.At w) (hf : ¬ fitRec r) :
    Calls Tryz.prog 9 #[.pointer (some ⟨h, 0, none⟩), r.val] w fun e w' => e = .returned (.int .i64 150) ∧ Below w.heap.size w w' := by
  have hb : Below w.heap.size w (w.alloc (.cells #[r.news.val, r.pts.val, r.gones.val] 31)) := (Below.refl _ _).alloc (Nat.le_refl _) _
  have S1 := hidden (hed_fits_no h r _ (hr.on hb) hf)
  have HB := hidden hb
  obtain ⟨⟨nA, nn, nc, nl⟩, ⟨pA, pn, pc, pl⟩, ⟨gA, gn, gc, gl⟩⟩ := r
  simp only [RecR.val, Sl.val] at S1 HB ⊢
  clear hr hf hb
  go_enter Tryz.func9, Tryz.ntmps9
  go_wp2_with fail
  refine S1.out.mono ?_
  rintro e w2 ⟨rfl, b2⟩
  have HB2 := hidden (HB.out.trans (b2.mono HB.out.size))
  clear S1 b2
  go_wp2_with fail
  go_ret
  exact ⟨rfl, HB2.out⟩
end Go.Proofs.YthncochjhbmceaaGreat
