/- head.Raw over all times, walked. Condition: the head is one, its samples' times are within the range. -/
import Derived.Test.YthncochjhbmceaaGreatHedRawP
namespace Go.Proofs.YthncochjhbmceaaGreat
set_option maxRecDepth 100000
open Go.RowKit

theorem infoSer : (Tryz.prog.info? 73).map (fun i => (i.zero, i.size, i.bytes)) = some (some (.agg #[.slice none 0 0, .slice none 0 0, .slice none 0 0]), 3, 72) := by kernel_rfl
/-- what is asked of a head that is told -/
structure RawI (S : List SerP) : Prop where
  sm : ∀ s ∈ S, (∀ x ∈ s.sm, 0 ≤ x.t ∧ x.t ≤ 1125899906842624) ∧ s.sm.length ≤ 1048576
  gone : ∀ s ∈ S, (∀ y ∈ s.gone, y.ok) ∧ s.gone.length ≤ 1048576
set_option maxHeartbeats 12800000 in
theorem hed_raw (w : World) {base h : Nat} {E : List (List Lbl)} {X : List HsR} (hh : Hed w base h E X) (_hbase : base ≤ w.heap.size) (hI : RawI (X.map HsR.p)) (hE : E.length ≤ 1048576) :
    Calls Tryz.prog 17 #[.pointer (some ⟨h, 0, none⟩), .int .i64 0, .int .i64 1125899906842624, .slice none 0 0] w fun e w' => ∃ v L, e = .returned v ∧ RawO w' w.heap.size v L ∧ (L.map Ser.q).Perm (rawL E (X.map HsR.p)) ∧ (L.Pairwise fun x y => decide (cmpLs y.lab.l x.lab.l < 0) = false) ∧ Below w.heap.size w w' := by
  obtain ⟨iS, iS0, iS1, iS2, iS3⟩ := info_parts infoSer
  have HH := hidden hh
  have HI := hidden hI
  obtain ⟨w1, hw1⟩ : ∃ w1, (w.alloc (.cells #[.int .i64 0] 2)).alloc (.cells #[.int .i64 1125899906842624] 2) = w1 := ⟨_, rfl⟩
  have hf0 : Whole1 w1 w.heap.size 2 #[.int .i64 0] := by rw [← hw1]; exact (Whole1.new w _ _).alloc _
  have hf1 : Whole1 w1 (w.heap.size + 1) 2 #[.int .i64 1125899906842624] := by rw [← hw1]; have := Whole1.new (w.alloc (.cells #[.int .i64 0] 2)) 2 #[.int .i64 1125899906842624]; rwa [World.size_alloc] at this
  have hb1 : Below w.heap.size w w1 := hw1 ▸ ((Below.refl _ _).alloc (Nat.le_refl _) _).alloc (by simp) _
  have hh1 := hh.below hb1
  obtain ⟨ip, sv, hh1⟩ := hh1
  have HF0 := hidden hf0
  have HF1 := hidden hf1
  have HB1 := hidden hb1
  have HH1 := hidden hh1
  have ch0 := hh1.blk.cell 0
  have S1 := hidden (idx_sel0 w1 hh1.idx hE)
  clear hh hI hf0 hf1 hb1 hh1
  go_enter Tryz.func17, Tryz.ntmps17
  go_wp2_with fail
  refine S1.out.mono ?_
  rintro e w2 ⟨A, c, rfl, hf, b2⟩
  have HSL := hidden hf
  have HF0 := hidden (HF0.out.below b2 HF0.out.lt)
  have HF1 := hidden (HF1.out.below b2 HF1.out.lt)
  have HB2 := hidden (HB1.out.trans (b2.mono HB1.out.size))
  have HH2 := hidden (HH1.out.below b2)
  have HXE := hidden HH2.out.len
  clear S1 hf b2 HH1 HB1 hw1 ch0
  go_wp2_with fail
  go_loopw [9, 27] (fun vo vi wr => ∃ (k : Nat) (L : List Ser), vi = .int .i64 (k : Int) ∧ k ≤ E.length ∧ Hid (RawO wr w2.heap.size vo L) ∧ Hid (L.map Ser.q = rawL (E.take k) ((X.map HsR.p).take k)) ∧ L.length ≤ k ∧ Hid (Below w2.heap.size w2 wr)) (fun _ vi _ => E.length - (intOf vi).toNat)
  case atStart => exact ⟨0, [], rfl, Nat.zero_le _, hidden RawO.nil, hidden (by simp [rawL]), Nat.le_refl _, hidden (Below.refl _ _)⟩
  case round =>
    obtain ⟨k, L, rfl, hk, ho, hq, hLk, hb2⟩ := hrel
    have k0 : (0 : Int) ≤ (k : Int) := by omega
    by_cases hlt : k < E.length
    · have k1 : (k : Int) < (E.length : Int) := by omega
      have HLT := hidden (show k + 1 ≤ E.length from hlt)
      have fwk : IntKind.i64.wrap ((k : Int) + 1) = (k : Int) + 1 := Go.IntWalk.i64_in _ (by omega)
      obtain ⟨e1, he1⟩ : ∃ l, E[k]? = some l := ⟨_, List.getElem?_eq_getElem hlt⟩
      have hsl := HSL.out.on hb2.out
      have hul : (upL E.length)[k]? = some (k : Int) := by simp [upL, hlt]
      obtain ⟨g, o, rfl, hg, hc⟩ := ints_at hsl.row (by omega)
      have ck : wr.cell? ⟨g, o + k, none⟩ = some (.int .i64 (k : Int)) := by
        rw [hc k (by rw [upL_len]; exact hlt), List.getD_eq_getElem?_getD, hul]; rfl
      have hh3 := HH2.out.below hb2.out
      obtain ⟨As, cs, hAs, _, hrow⟩ := own_shape hh3.row
      rw [List.map_eq_flatMap] at hrow
      obtain ⟨gs, os, y, hAs2, _, hy, hcx⟩ := row_at (enc := fun x : HsR => [x.ptr]) (k := 1) (fun _ => rfl) hrow rfl k (by rw [HXE.out]; exact hlt)
      subst hAs2
      subst hAs
      have hym := hh3.at_ y (List.mem_of_getElem? hy)
      have hyI := HI.out.sm y.p (List.mem_map.2 ⟨y, List.mem_of_getElem? hy, rfl⟩)
      have hyG := HI.out.gone y.p (List.mem_map.2 ⟨y, List.mem_of_getElem? hy, rfl⟩)
      have hrt := rawL_take (E := E) (S := X.map HsR.p) (k := k) he1 (by rw [List.getElem?_map, hy]; rfl)
      have ch1 := hh3.blk.cell 1
      have cx0 := hcx 0 (by omega)
      rw [HXE.out] at ch1
      simp only [HsR.ptr, Nat.mul_one, Nat.add_zero, List.getElem?_cons_zero] at cx0
      have hb3 : Below wr.heap.size wr (wr.alloc (.cells #[.pointer (some ⟨y.b, 0, none⟩)] 108)) := (Below.refl _ _).alloc (Nat.le_refl _) _
      have hv3 := Whole1.new wr 108 #[.pointer (some ⟨y.b, 0, none⟩)]
      obtain ⟨w4, hw4⟩ : ∃ w4, wr.alloc (.cells #[.pointer (some ⟨y.b, 0, none⟩)] 108) = w4 := ⟨_, rfl⟩
      obtain ⟨V, hV⟩ : ∃ V, wr.heap.size = V := ⟨_, rfl⟩
      rw [hw4] at hb3 hv3
      rw [hV] at hv3
      have HY4 := hidden (hym.below hb3)
      have HV4 := hidden hv3
      have HO4 := hidden (ho.out.below hb3)
      have HB24 := hidden (hb2.out.trans (hb3.mono hb2.out.size))
      have HF04 := hidden (HF0.out.below HB24.out HF0.out.lt)
      have HF14 := hidden (HF1.out.below HB24.out HF1.out.lt)
      have HRT := hidden hrt
      have HYI := hidden hyI
      have HYG := hidden hyG
      have HE1 := hidden he1
      have HQ := hidden hq.out
      clear hsl hul hc hh3 hrow hcx hym hyI hyG hrt he1 hb3 hv3 ho hb2 hq hy hg
      go_upto_region 8 with (fail)
      clear ck ch1 cx0 hw4 hV
      obtain ⟨yb, ymx, ygv, ygo, ysv, ysm⟩ := y
      have hy4 := HY4.out
      obtain ⟨Ay, cy, hAy, hcy, hrs⟩ := own_shape hy4.smp
      simp only at hAy
      subst hAy
      obtain ⟨Ag, cg, hAg, hcg, hrg⟩ := own_shape hy4.gon
      simp only at hAg
      subst hAg
      simp only at hrs hrg hcy
      have SR1 := hidden (fun W (hW : Below w4.heap.size w4 W) => search_any ysm.length 48 #[.pointer (some ⟨V, 0, none⟩), .pointer (some ⟨w.heap.size, 0, none⟩)] true W (by have := HYI.out.2; simp only [HsR.p] at this; omega) (enters_of Tryz.func48 (by kernel_rfl) rfl) (fun i hi W' hW' => by
        have hb5 := hW.trans (hW'.mono hW.size)
        obtain ⟨z, hz⟩ : ∃ z, ysm[i]? = some z := ⟨_, List.getElem?_eq_getElem hi⟩
        refine (raw1_any i _ z V w.heap.size base 0 W' (HY4.out.below hb5) (HV4.out.below hb5 HV4.out.lt) (HF04.out.below hb5 HF04.out.lt) hz).mono ?_
        rintro e w' ⟨rfl, hb⟩
        have := (HYI.out.1 z (List.mem_of_getElem? hz)).1
        exact ⟨by rw [decide_eq_true this], hb⟩))
      have SR2 := hidden (fun W (hW : Below w4.heap.size w4 W) => search_any ysm.length 49 #[.pointer (some ⟨V, 0, none⟩), .pointer (some ⟨w.heap.size + 1, 0, none⟩)] false W (by have := HYI.out.2; simp only [HsR.p] at this; omega) (enters_of Tryz.func49 (by kernel_rfl) rfl) (fun i hi W' hW' => by
        have hb5 := hW.trans (hW'.mono hW.size)
        obtain ⟨z, hz⟩ : ∃ z, ysm[i]? = some z := ⟨_, List.getElem?_eq_getElem hi⟩
        refine (raw2_any i _ z V (w.heap.size + 1) base 1125899906842624 W' (HY4.out.below hb5) (HV4.out.below hb5 HV4.out.lt) (HF14.out.below hb5 HF14.out.lt) hz).mono ?_
        rintro e w' ⟨rfl, hb⟩
        have := (HYI.out.1 z (List.mem_of_getElem? hz)).2
        exact ⟨by rw [decide_eq_false (by omega)], hb⟩))
      simp only [if_true, Bool.false_eq_true, if_false] at SR1 SR2
      have HRS := hidden hrs
      have HRG := hidden hrg
      have HCY := hidden hcy
      have hy0 := hy4.blk.cell 1
      have hy4' := hy4.blk.cell 4
      have hv4 := HV4.out.cell 0
      simp only [HsR.cells] at hy0 hy4'
      clear hy4 hrs hrg hcy hcg
      go_wp2_with fail
      refine (SR1.out _ (Below.refl _ _)).mono ?_
      rintro e w5 ⟨rfl, b5⟩
      have hy5 := (HY4.out.below b5).blk.cell 4
      have hv5 := (HV4.out.below b5 HV4.out.lt).cell 0
      simp only [HsR.cells] at hy5
      have B5 := hidden b5
      clear hy4' hv4 SR1 b5 hy0
      go_wp2_with fail
      refine (SR2.out _ B5.out).mono ?_
      rintro e w6 ⟨rfl, b6⟩
      have B6 := hidden (B5.out.trans (b6.mono B5.out.size))
      have hy6 := HY4.out.below B6.out
      have hy64 := hy6.blk.cell 4
      have hy61 := hy6.blk.cell 1
      have hv6 := (HV4.out.below B6.out HV4.out.lt).cell 0
      simp only [HsR.cells] at hy64 hy61
      have HRS6 := hidden ((HRS.out.below B6.out).more B6.out.size)
      have HRG6 := hidden ((HRG.out.below B6.out).more B6.out.size)
      clear SR2 b6 hy5 hv5 B5 hy6
      go_upto_region 10 with (fail)
      have hmx : max (0 : Int) (ysm.length : Int) = (ysm.length : Int) := by omega
      have hpos : ¬ ((ysm.length : Int) < 0) := by omega
      have SK := fun (W : World) (hW : Below w6.heap.size w6 W) => keepO_any Ag ygo.length cg ygo Ay ysm.length cy ysm W ((HRG6.out.below hW).more hW.size) rfl (by have := HYG.out.2; simp only [HsR.p] at this; omega) HYG.out.1 ((HRS6.out.below hW).more hW.size) rfl (by have := HYI.out.2; simp only [HsR.p] at this; omega)
      have SK := hidden SK
      have hcy6 : ysm.length ≤ cy := HCY.out
      go_cut [15] (fun vk wx => ∃ A7 c7 R7, vk = .slice A7 (keepP R7 ysm).length c7 ∧ Hid (OfRes ygo R7) ∧ Hid (0 < (keepP R7 ysm).length → wx.ownsRow w6.heap.size 68 2 (.slice A7 (keepP R7 ysm).length c7) (keepP R7 ysm).length ((keepP R7 ysm).flatMap Smp.cells)) ∧ Hid (Below w6.heap.size w6 wx))
      case first =>
        go_region_law (first
          | (go_simp; go_at_call 50; refine (SK.out _ (Below.refl _ _).drew).mono ?_; rintro e w7 ⟨A7, c7, R7, rfl, hR7, hr7, ho7, b7⟩; have HR7 := hidden hR7; have HO7 := hidden ho7; have HB7 := hidden ((Below.refl w6.heap.size w6).drew.trans b7)))
        all_goals
          clear hR7 hr7 ho7 b7
          go_wp2_with fail
          go_meet
          exact ⟨A7, c7, R7, rfl, HR7, HO7, HB7⟩
      case rest =>
        obtain ⟨A7, c7, R7, rfl, HR7, HO7, HB7⟩ := hcut
        clear SK hy64 hy61 hv6 HRS6 HRG6 hmx hpos hcy6
        have hke := keepP_of HR7.out ysm
        have hrt := HRT.out
        have ho7 := HO7.out
        rw [hke] at ho7 ⊢
        have hKl : (keepP ygo ysm).length ≤ 1048576 := by have := HYI.out.2; simp only [HsR.p] at this; exact Nat.le_trans (List.length_filter_le _ _) this
        obtain ⟨K, hK⟩ : ∃ K, keepP ygo ysm = K := ⟨_, rfl⟩
        have HRY := hidden (show 0 < K.length → rawL (E.take (k + 1)) ((X.map HsR.p).take (k + 1)) = rawL (E.take k) ((X.map HsR.p).take k) ++ [(e1, K)] from fun h => by rw [← hK] at h ⊢; exact hrt.trans (if_pos h))
        have HRN := hidden (show ¬ 0 < K.length → rawL (E.take (k + 1)) ((X.map HsR.p).take (k + 1)) = rawL (E.take k) ((X.map HsR.p).take k) from fun h => by rw [← hK] at h; exact hrt.trans (if_neg h))
        rw [hK] at ho7 hKl ⊢
        have HO7 := hidden ho7
        have HB8 := hidden (B6.out.trans (HB7.out.mono B6.out.size))
        have HRO := hidden (HO4.out.below HB8.out)
        have HB2W := hidden (HB24.out.trans (HB8.out.mono HB24.out.size))
        have hnw : w6.heap.size ≤ wc.heap.size := HB7.out.size
        have HNW := hidden (show w2.heap.size ≤ w6.heap.size from Nat.le_trans HB24.out.size B6.out.size)
        clear hke hrt ho7 hnw hK HB8 HO4 HB24 HF04 HF14 HY4 HV4 HB7 B6
        have hh8 := HH2.out.below HB2W.out
        have ch0 := hh8.blk.cell 0
        have S4 := hidden (idx_set k wc hh8.idx HE1.out (by omega))
        clear hh8
        by_cases hz : 0 < K.length
        · have hz2 : (0 : Int) < (K.length : Int) := by omega
          go_wp2_with fail
          refine S4.out.mono ?_
          rintro e w9 ⟨v9, rfl, ho9, b9⟩
          have hvd := HH2.out.idx.valid.1 e1 (List.mem_of_getElem? HE1.out)
          obtain ⟨A9, c9, rfl, hc9, _⟩ := own_shape ho9
          have HRO9 := hidden (HRO.out.below b9)
          have HL9 := hidden (own_more ho9 HB2W.out.size)
          have HVD := hidden hvd
          have HS9 := hidden (own_more (own_below (HO7.out hz) b9 (Nat.le_refl _)) HNW.out)
          have HB2W9 := hidden (HB2W.out.trans (b9.mono HB2W.out.size))
          have HQ2 := hidden (show (L ++ [(⟨⟨A9, e1.length, c9, e1⟩, ⟨A7, K.length, c7, K⟩, Sl.nil⟩ : Ser)]).map Ser.q = rawL (E.take (k + 1)) ((X.map HsR.p).take (k + 1)) by rw [HRY.out hz, List.map_append, HQ.out]; rfl)
          obtain ⟨Av, cv, rfl, _, _⟩ := own_shape HRO9.out.row
          have hfr := Row.fresh w9 73 3 1 [.slice A9 e1.length c9, .slice A7 K.length c7, .slice none 0 0] rfl
          have hba : Below w9.heap.size w9 (w9.alloc (.cells #[.slice A9 e1.length c9, .slice A7 K.length c7, .slice none 0 0] 73)) := (Below.refl _ _).alloc (Nat.le_refl _) _
          have HBA := hidden hba
          clear hvd ho9 b9 S4 hba HRO HB2W HO7
          go_wp2_with (at_builtin; refine wpList_app _ rfl _ _ 57 rfl w2.heap.size 73 iS _ 3 72 Tryz.underlying57 iS0 iS1 iS2 iS3 rfl (by decide) _ _ _ rfl (HRO9.out.row.alloc _) _ _ _ _ _ rfl hfr (by simp [Value.oneCell']) (by unfold maxLen; omega) (by omega) (by have := HB2W9.out.size; simp; omega) ?_; intro v10 w10 hown10 hg10 hat10)
          have ho10 := (HRO9.out.below HBA.out).snoc (x := ⟨⟨A9, e1.length, c9, e1⟩, ⟨A7, K.length, c7, K⟩, Sl.nil⟩) ⟨own_below HL9.out HBA.out (Nat.le_refl _), rfl, HVD.out⟩ ⟨own_below HS9.out HBA.out (Nat.le_refl _), rfl⟩ rfl hown10 hg10
          have hb10 : Below w2.heap.size w2 w10 := (HB2W9.out.trans (HBA.out.mono HB2W9.out.size)).grown hg10 (Nat.le_trans HB2W9.out.size HBA.out.size) (fun q hq => (HRO9.out.row.lt q hq).1)
          refine ⟨⟨k + 1, _, by simp, HLT.out, hidden ho10, HQ2, by rw [List.length_append, List.length_singleton]; omega, hidden hb10⟩, ?_⟩
          simp only [intOf]; omega
        · have hz2 : ¬ (0 : Int) < (K.length : Int) := by omega
          have HQ2 := hidden (show L.map Ser.q = rawL (E.take (k + 1)) ((X.map HsR.p).take (k + 1)) by rw [HRN.out hz]; exact HQ.out)
          go_wp2_with fail
          go_roundw
          case rel => exact ⟨k + 1, L, by go_num, HLT.out, HRO, HQ2, by omega, HB2W⟩
          case measure => have := HLT.out; simp [intOf]; omega
    · obtain rfl : E.length = k := by omega
      have hqe := hq.out
      rw [List.take_of_length_le (Nat.le_refl _), List.take_of_length_le (by rw [List.length_map, HXE.out]; exact Nat.le_refl _)] at hqe
      have HQE := hidden hqe
      have S5 := hidden (rawSort_any _ w2.heap.size L wr ho.out (by omega) hb2.out.size)
      obtain ⟨Av, cv, rfl, _, _⟩ := own_shape ho.out.row
      clear hqe hq
      go_wp2_with fail
      refine S5.out.mono ?_
      rintro e w3 ⟨rfl, S, hS, ho3, hg3⟩
      have HF := hidden (show RawO w3 w.heap.size (.slice Av L.length cv) S ∧ (S.map Ser.q).Perm (rawL E (X.map HsR.p)) ∧ (S.Pairwise fun x y => decide (cmpLs y.lab.l x.lab.l < 0) = false) ∧ Below w.heap.size w w3 from
        ⟨ho3.more HB2.out.size, by rw [← HQE.out]; exact hS.1.map _, hS.2, HB2.out.trans ((hb2.out.grown hg3 hb2.out.size (fun q hq => (ho.out.row.lt q hq).1)).mono HB2.out.size)⟩)
      clear S5 hS ho3 hg3
      go_wp2_with fail
      go_ret
      exact ⟨_, S, rfl, HF.out⟩
end Go.Proofs.YthncochjhbmceaaGreat
