/- head.List, walked. Condition: the head is one of which nothing was taken away. -/
import Derived.Test.YthncochjhbmceaaGreatCkP
import Derived.Test.YthncochjhbmceaaGreatHedNew
import Derived.Test.YthncochjhbmceaaGreatPkdffa1c1c
namespace Go.Proofs.YthncochjhbmceaaGreat
set_option maxRecDepth 100000
open Go.RowKit

theorem infoCk : (Tryz.prog.info? 65).map (fun i => (i.zero, i.size, i.bytes)) = some (some (.agg #[.slice none 0 0, .int .i64 0, .slice none 0 0, .slice none 0 0, .slice none 0 0, .slice none 0 0]), 6, 128) := by kernel_rfl
theorem clone_nil (w : World) : Calls Tryz.prog 35 #[.slice none 0 0] w fun e w' => e = .returned (.slice none 0 0) ∧ w' = w := by
  have h1 := fun w : World => Lib.run_eql_slice_nil (P := Tryz.prog) w 59 33 none 0 0 0 0 Tryz.underlying59
  go_enter Tryz.func35, Tryz.ntmps35
  go_wp2_with fail
  go_ret
  exact ⟨rfl, rfl⟩
theorem put6_own {w : World} {g base k n : Nat} {t T : TypeId} {v : Value} {xs : List Value} {a0 a1 a2 a3 a4 a5 : Value} (h : Whole1 w g t #[a0, a1, a2, a3, a4, a5]) (ho : w.ownsRow base T k v n xs) (hT : T ≠ t) (x0 x1 x2 x3 x4 x5 : Value) :
    ((((((w.setCell ⟨g, 0, none⟩ x0).setCell ⟨g, 1, none⟩ x1).setCell ⟨g, 2, none⟩ x2).setCell ⟨g, 3, none⟩ x3).setCell ⟨g, 4, none⟩ x4).setCell ⟨g, 5, none⟩ x5).ownsRow base T k v n xs := by
  have t1 : Turn 0 [t] false w _ := Turn.put h (Nat.zero_le _) (by simp) 0 x0
  have t2 := t1.trans (Turn.put (h.put 0 x0) (Nat.zero_le _) (by simp) 1 x1)
  have t3 := t2.trans (Turn.put ((h.put 0 x0).put 1 x1) (Nat.zero_le _) (by simp) 2 x2)
  have t4 := t3.trans (Turn.put (((h.put 0 x0).put 1 x1).put 2 x2) (Nat.zero_le _) (by simp) 3 x3)
  have t5 := t4.trans (Turn.put ((((h.put 0 x0).put 1 x1).put 2 x2).put 3 x3) (Nat.zero_le _) (by simp) 4 x4)
  have t6 := t5.trans (Turn.put (((((h.put 0 x0).put 1 x1).put 2 x2).put 3 x3).put 4 x4) (Nat.zero_le _) (by simp) 5 x5)
  exact t6.own ho (.inl (by simpa using hT))
/-- the series of a head, as List tells them -/
def listP (E : List (List Lbl)) (S : List SerP) : List (List Lbl × Int × List Smp) := (E.zip S).map fun p => (p.1, p.2.mx, p.2.sm)
theorem listP_snoc {E : List (List Lbl)} {S : List SerP} {k : Nat} {l : List Lbl} {s : SerP} (hl : E[k]? = some l) (hs : S[k]? = some s) : listP (E.take (k + 1)) (S.take (k + 1)) = listP (E.take k) (S.take k) ++ [(l, s.mx, s.sm)] := by
  unfold listP
  rw [take_snoc? hl, take_snoc? hs, List.zip_append (by rw [List.length_take, List.length_take, Nat.min_eq_left (Nat.le_of_lt (List.getElem?_eq_some_iff.1 hl).1), Nat.min_eq_left (Nat.le_of_lt (List.getElem?_eq_some_iff.1 hs).1)]), List.map_append]
  rfl
/-- what List answers -/
abbrev CkL := CkO 65 70 68
set_option maxHeartbeats 12800000 in
theorem hed_list (w : World) {base h : Nat} {E : List (List Lbl)} {X : List HsR} (hh : Hed w base h E X) (hg : ∀ x ∈ X, x.gone = []) (hs : ∀ x ∈ X, x.sm.length ≤ 1048576) (hE : E.length ≤ 1048576) :
    Calls Tryz.prog 16 #[.pointer (some ⟨h, 0, none⟩)] w fun e w' => ∃ v L, e = .returned v ∧ CkL w' w.heap.size v L ∧ L.map CkR.q = listP E (X.map HsR.p) ∧ Below w.heap.size w w' := by
  obtain ⟨iC, iC0, iC1, iC2, iC3⟩ := info_parts infoCk
  have S0 := hidden (hed_len w hh)
  obtain ⟨ip, sv, hh⟩ := hh
  have HH := hidden hh
  have HG := hidden hg
  have HS := hidden hs
  have HXE := hidden hh.len
  clear hh hg hs
  go_enter Tryz.func16, Tryz.ntmps16
  go_wp2_with fail
  refine S0.out.mono ?_
  rintro e w1 ⟨rfl, rfl⟩
  clear S0
  go_wp2_with fail
  go_loopw [3, 13] (fun vo vi wr => ∃ (k : Nat) (L : List CkR), vi = .int .i64 (k : Int) ∧ k ≤ E.length ∧ Hid (CkL wr w1.heap.size vo L) ∧ Hid (L.map CkR.q = listP (E.take k) ((X.map HsR.p).take k)) ∧ L.length ≤ k ∧ Hid (Below w1.heap.size w1 wr)) (fun _ vi _ => E.length - (intOf vi).toNat)
  case atStart => exact ⟨0, [], rfl, Nat.zero_le _, hidden CkO.nil, hidden (by simp [listP]), Nat.le_refl _, hidden (Below.refl _ _)⟩
  case round =>
    obtain ⟨k, L, rfl, hk, ho, hq, hLk, hb⟩ := hrel
    have k0 : (0 : Int) ≤ (k : Int) := by omega
    by_cases hlt : k < E.length
    · have k1 : (k : Int) < (E.length : Int) := by omega
      have HLT := hidden (show k + 1 ≤ E.length from hlt)
      have fwk : IntKind.i64.wrap ((k : Int) + 1) = (k : Int) + 1 := Go.IntWalk.i64_in _ (by omega)
      obtain ⟨e1, he1⟩ : ∃ l, E[k]? = some l := ⟨_, List.getElem?_eq_getElem hlt⟩
      have hh3 := HH.out.below hb.out
      obtain ⟨As, cs, hAs, _, hrow⟩ := own_shape hh3.row
      rw [List.map_eq_flatMap] at hrow
      obtain ⟨gs, os, y, hAs2, _, hy, hcx⟩ := row_at (enc := fun x : HsR => [x.ptr]) (k := 1) (fun _ => rfl) hrow rfl k (by rw [HXE.out]; exact hlt)
      subst hAs2
      subst hAs
      have hym := hh3.at_ y (List.mem_of_getElem? hy)
      have hgy := HG.out y (List.mem_of_getElem? hy)
      have hsy := HS.out y (List.mem_of_getElem? hy)
      have hgn := hym.gnl hgy
      have ch0 := hh3.blk.cell 0
      have ch1 := hh3.blk.cell 1
      have cx0 := hcx 0 (by omega)
      rw [HXE.out] at ch1
      simp only [HsR.ptr, Nat.mul_one, Nat.add_zero, List.getElem?_cons_zero] at cx0
      have HQ := hidden (show L.map CkR.q ++ [(e1, y.mx, y.sm)] = listP (E.take (k + 1)) ((X.map HsR.p).take (k + 1)) by rw [listP_snoc he1 (show (X.map HsR.p)[k]? = some y.p by rw [List.getElem?_map, hy]; rfl), hq.out]; rfl)
      have S1 := hidden (idx_set k wr hh3.idx he1 (by omega))
      have HYM := hidden hym
      have HVL := hidden (hh3.idx.valid.1 e1 (List.mem_of_getElem? he1))
      obtain ⟨Av, cv, rfl, _, _⟩ := own_shape ho.out.row
      obtain ⟨yb, ymx, ygv, ygo, ysv, ysm⟩ := y
      simp only at hgy hgn hsy cx0
      subst hgy
      subst hgn
      have HSY := hidden hsy
      clear hh3 hrow hcx he1 hy hq hym hsy
      go_wp2_with fail
      refine S1.out.mono ?_
      rintro e w2 ⟨v2, rfl, hl2, b2⟩
      obtain ⟨A2, c2, rfl, _, _⟩ := own_shape hl2
      have hy2 := HYM.out.below b2
      obtain ⟨Ay, cy, hAy, hcy, hrs⟩ := own_shape hy2.smp
      simp only at hAy
      subst hAy
      simp only at hrs
      have HO2 := hidden (ho.out.below b2)
      have HB2 := hidden (hb.out.trans (b2.mono hb.out.size))
      have HL2 := hidden (own_more hl2 hb.out.size)
      have HY2 := hidden hy2.blk
      have SC := hidden (fun W (hW : Below w2.heap.size w2 W) => ClnSmp.cloneO_any Ay ysm.length cy ysm W ((hrs.below hW).more hW.size) rfl (by have := HSY.out; omega))
      have y0 := HY2.out.cell 0
      have y4 := HY2.out.cell 4
      have hzn := Whole1.new w2 65 #[.slice none 0 0, .int .i64 0, .slice none 0 0, .slice none 0 0, .slice none 0 0, .slice none 0 0]
      have hbz : Below w2.heap.size w2 (w2.alloc (.cells #[.slice none 0 0, .int .i64 0, .slice none 0 0, .slice none 0 0, .slice none 0 0, .slice none 0 0] 65)) := (Below.refl _ _).alloc (Nat.le_refl _) _
      have y0z := (HY2.out.below hbz HY2.out.lt).cell 0
      have y4z := (HY2.out.below hbz HY2.out.lt).cell 4
      simp only [HsR.cells] at y0 y4 y0z y4z
      have HZN := hidden hzn
      have HBZ := hidden hbz
      clear S1 hl2 b2 hy2 hrs ho hb ch0 ch1 cx0 HYM hzn hbz
      go_upto_region 7 with (fail)
      go_cut [8] (fun v8 wx => ∃ V sA sc, v8 = .pointer (some ⟨V, 0, none⟩) ∧ Hid (Whole1 wx V 65 #[.slice A2 e1.length c2, .int .i64 ymx, .slice none 0 0, .slice none 0 0, .slice none 0 0, .slice sA ysm.length sc]) ∧ Hid (w2.heap.size ≤ V) ∧ Hid (0 < ysm.length → wx.ownsRow w2.heap.size 68 2 (.slice sA ysm.length sc) ysm.length (ysm.flatMap Smp.cells)) ∧ Hid (Below w2.heap.size w2 wx))
      case first =>
       go_region_law (first
         | (go_simp; go_at_call 41; refine (SC.out _ (Below.refl _ _).drew).mono ?_; rintro e w3 ⟨⟨sA, sn, sc, sl⟩, he, hsl, hsn, hsa, _, b3, hown3⟩; simp only at hsl hsn; subst hsl; subst hsn; simp only [Sl.val] at he hown3; subst he; have hb3 : Below w2.heap.size w2 w3 := (Below.refl _ _).drew.trans b3; have y03 := (HY2.out.below hb3 HY2.out.lt).cell 0; have y03z := (HY2.out.below (hb3.alloc hb3.size (.cells #[.slice none 0 0, .int .i64 0, .slice none 0 0, .slice none 0 0, .slice none 0 0, .slice none 0 0] 65)) HY2.out.lt).cell 0; simp only [HsR.cells] at y03 y03z; have HO1 := trivial; have HB3 := hidden hb3; have HS3 := hidden (fun h0 => own_more (hown3 h0) (show w2.heap.size ≤ w2.drew.heap.size from Nat.le_refl _)); clear hb3 b3 hsa hown3)
         | (go_simp; go_at_call 41; refine (SC.out _ HBZ.out.drew).mono ?_; rintro e w3 ⟨⟨sA, sn, sc, sl⟩, he, hsl, hsn, hsa, _, b3, hown3⟩; simp only at hsl hsn; subst hsl; subst hsn; simp only [Sl.val] at he hown3; subst he; have hbd : Below (w2.alloc (.cells #[.slice none 0 0, .int .i64 0, .slice none 0 0, .slice none 0 0, .slice none 0 0, .slice none 0 0] 65)).heap.size (w2.alloc (.cells #[.slice none 0 0, .int .i64 0, .slice none 0 0, .slice none 0 0, .slice none 0 0, .slice none 0 0] 65)) w3 := (Below.refl _ _).drew.trans b3; have hb3 : Below w2.heap.size w2 w3 := HBZ.out.trans (hbd.mono HBZ.out.size); have y03 := (HY2.out.below hb3 HY2.out.lt).cell 0; simp only [HsR.cells] at y03; have hz := HZN.out.below hbd HZN.out.lt; have zc0 := hz.cell 0; have pf0 := (hz).free 0; have zc1 := hz.cell 1; have pf1 := ((hz).put 0 (.slice A2 e1.length c2)).free 1; have pc1 := ((hz).put 0 (.slice A2 e1.length c2)).cell 1; have zc2 := hz.cell 2; have pf2 := (((hz).put 0 (.slice A2 e1.length c2)).put 1 (.int .i64 ymx)).free 2; have pc2 := (((hz).put 0 (.slice A2 e1.length c2)).put 1 (.int .i64 ymx)).cell 2; have zc3 := hz.cell 3; have pf3 := ((((hz).put 0 (.slice A2 e1.length c2)).put 1 (.int .i64 ymx)).put 2 (.slice none 0 0)).free 3; have pc3 := ((((hz).put 0 (.slice A2 e1.length c2)).put 1 (.int .i64 ymx)).put 2 (.slice none 0 0)).cell 3; have zc4 := hz.cell 4; have pf4 := (((((hz).put 0 (.slice A2 e1.length c2)).put 1 (.int .i64 ymx)).put 2 (.slice none 0 0)).put 3 (.slice none 0 0)).free 4; have pc4 := (((((hz).put 0 (.slice A2 e1.length c2)).put 1 (.int .i64 ymx)).put 2 (.slice none 0 0)).put 3 (.slice none 0 0)).cell 4; have zc5 := hz.cell 5; have pf5 := ((((((hz).put 0 (.slice A2 e1.length c2)).put 1 (.int .i64 ymx)).put 2 (.slice none 0 0)).put 3 (.slice none 0 0)).put 4 (.slice none 0 0)).free 5; have pc5 := ((((((hz).put 0 (.slice A2 e1.length c2)).put 1 (.int .i64 ymx)).put 2 (.slice none 0 0)).put 3 (.slice none 0 0)).put 4 (.slice none 0 0)).cell 5; have HZ4 := hidden (((((((hz).put 0 (.slice A2 e1.length c2)).put 1 (.int .i64 ymx)).put 2 (.slice none 0 0)).put 3 (.slice none 0 0)).put 4 (.slice none 0 0)).put 5 (.slice sA sl.length sc)); have HO2 := trivial; have HB3 := hidden hb3; have HZ3 := hidden hz; have HS3 := hidden (fun h0 => own_more (hown3 h0) (show w2.heap.size ≤ _ from HBZ.out.size)); clear hz hbd hb3 b3 hsa hown3))
       all_goals
         go_wp2_with fail
         go_meet
         first
           | have := HO1; exact ⟨_, sA, sc, rfl, hidden (Whole1.new _ _ _), hidden HB3.out.size, hidden fun h0 => (HS3.out h0).alloc _, hidden (HB3.out.alloc HB3.out.size _)⟩
           | have := HO2; exact ⟨_, sA, sc, rfl, HZ4, hidden (Nat.le_refl _), hidden fun h0 => put6_own HZ3.out (HS3.out h0) (by decide) _ _ _ _ _ _, hidden (below6 HB3.out (Nat.le_refl _) _ _ _ _ _ _)⟩
      case rest =>
        obtain ⟨V, sA, sc, rfl, hV, hVb, hS3, hB3⟩ := hcut
        have hyc := HY2.out.below hB3.out HY2.out.lt
        have y1 := hyc.cell 1
        have y2 := hyc.cell 2
        have y3 := hyc.cell 3
        simp only [HsR.cells] at y1 y2 y3
        clear y0 y4 hyc
        have ix0 : ∀ w, (Instr.index 62 (.agg #[.slice none 0 0, .slice none 0 0, .slice none 0 0]) (.int .i64 0)).run Tryz.prog w = .ok (.slice none 0 0) w := fun _ => by kernel_rfl
        have ix1 : ∀ w, (Instr.index 62 (.agg #[.slice none 0 0, .slice none 0 0, .slice none 0 0]) (.int .i64 1)).run Tryz.prog w = .ok (.slice none 0 0) w := fun _ => by kernel_rfl
        have ix2 : ∀ w, (Instr.index 62 (.agg #[.slice none 0 0, .slice none 0 0, .slice none 0 0]) (.int .i64 2)).run Tryz.prog w = .ok (.slice none 0 0) w := fun _ => by kernel_rfl
        have HB4 := hidden hB3.out
        have HV4 := hidden hV.out
        go_wp2_with fail
        refine wp_loop_rounds 4 ?_
        rw [rounds_succ]
        have ff0 := HV4.out.free 2
        have fc0 := HV4.out.cell 2
        go_wp2_with fail
        refine (clone_nil _).mono ?_
        rintro e w5 ⟨rfl, rfl⟩
        go_wp2_with fail
        have HV5 := hidden (HV4.out.put 2 (.slice none 0 0))
        have HS4 := hidden (fun h0 => (Turn.put (base := 0) (ts := [65]) (mp := false) HV4.out (Nat.zero_le _) (by simp) 2 (.slice none 0 0)).own (hS3.out h0) (.inl (by decide)))
        have HB5 := hidden (HB4.out.setCell (p := ⟨V, 2, none⟩) hVb.out (.slice none 0 0))
        clear ff0 fc0
        rw [rounds_succ]
        have ff1 := HV5.out.free 3
        have fc1 := HV5.out.cell 3
        go_wp2_with fail
        refine (clone_nil _).mono ?_
        rintro e w5 ⟨rfl, rfl⟩
        go_wp2_with fail
        have HV6 := hidden (HV5.out.put 3 (.slice none 0 0))
        have HS5 := hidden (fun h0 => (Turn.put (base := 0) (ts := [65]) (mp := false) HV5.out (Nat.zero_le _) (by simp) 3 (.slice none 0 0)).own (HS4.out h0) (.inl (by decide)))
        have HB6 := hidden (HB5.out.setCell (p := ⟨V, 3, none⟩) hVb.out (.slice none 0 0))
        clear ff1 fc1
        rw [rounds_succ]
        have ff2 := HV6.out.free 4
        have fc2 := HV6.out.cell 4
        go_wp2_with fail
        refine (clone_nil _).mono ?_
        rintro e w5 ⟨rfl, rfl⟩
        go_wp2_with fail
        have HV7 := hidden (HV6.out.put 4 (.slice none 0 0))
        have HS6 := hidden (fun h0 => (Turn.put (base := 0) (ts := [65]) (mp := false) HV6.out (Nat.zero_le _) (by simp) 4 (.slice none 0 0)).own (HS5.out h0) (.inl (by decide)))
        have HB7 := hidden (HB6.out.setCell (p := ⟨V, 4, none⟩) hVb.out (.slice none 0 0))
        clear ff2 fc2
        obtain ⟨w9, hw9⟩ : ∃ w9, ((w5.setCell ⟨V, 2, none⟩ (.slice none 0 0)).setCell ⟨V, 3, none⟩ (.slice none 0 0)).setCell ⟨V, 4, none⟩ (.slice none 0 0) = w9 := ⟨_, rfl⟩
        rw [hw9] at HV7 HS6 HB7 ⊢
        have d0 := HV7.out.cell 0
        have d1 := HV7.out.cell 1
        have d2 := HV7.out.cell 2
        have d3 := HV7.out.cell 3
        have d4 := HV7.out.cell 4
        have d5 := HV7.out.cell 5
        have HO9 := hidden (HO2.out.below HB7.out)
        have hr9 := HO9.out.row
        have HL9 := hidden (own_below HL2.out HB7.out (Nat.le_refl _))
        have HB9 := hidden (HB2.out.trans (HB7.out.mono HB2.out.size))
        have hsz := HB9.out.size
        have HSM := hidden (fun (h0 : 0 < ysm.length) => own_more (HS6.out h0) HB2.out.size)
        have hfr := Row.fresh w9 65 6 1 [.slice A2 e1.length c2, .int .i64 ymx, .slice none 0 0, .slice none 0 0, .slice none 0 0, .slice sA ysm.length sc] rfl
        clear hw9 HV4 HV5 HV6 HS4 HS5 HB4 HB5 HB6 hV hVb hS3 hB3 SC HZN HBZ HY2 HO2 HL2 ix0 ix1 ix2 y1 y2 y3 y0z y4z
        rw [rounds_succ]
        go_wp2_with (at_builtin; refine wpList_app _ rfl _ _ 55 rfl w1.heap.size 65 iC _ 6 128 Tryz.underlying55 iC0 iC1 iC2 iC3 rfl (by decide) _ _ _ rfl (hr9.alloc _) _ _ _ _ _ rfl hfr (by simp [Value.oneCell']) (by unfold maxLen; omega) (by omega) (by rw [World.size_alloc]; omega) ?_; intro v10 w10 hown10 hg10 hat10)
        have hba : Below w9.heap.size w9 (w9.alloc (.cells #[.slice A2 e1.length c2, .int .i64 ymx, .slice none 0 0, .slice none 0 0, .slice none 0 0, .slice sA ysm.length sc] 65)) := (Below.refl _ _).alloc (Nat.le_refl _) _
        have hen := (HO9.out.below hba).snoc (x := ⟨⟨A2, e1.length, c2, e1⟩, ymx, ⟨sA, ysm.length, sc, ysm⟩⟩) ⟨HL9.out.alloc _, rfl⟩ ⟨fun h0 => (HSM.out h0).alloc _, rfl⟩ hown10 hg10 (by decide) (by decide)
        have HEN := hidden hen
        have HB10 := hidden ((HB9.out.trans (hba.mono HB9.out.size)).grown hg10 (by rw [World.size_alloc]; omega) (fun q e => (HO9.out.row.lt q e).1))
        clear hba hen
        go_roundw
        case rel => exact ⟨k + 1, _, by go_num, HLT.out, HEN, hidden (by rw [List.map_append, ← HQ.out]; rfl), by rw [List.length_append, List.length_singleton]; omega, HB10⟩
        case measure => have := HLT.out; simp [intOf]; omega
    · obtain rfl : k = E.length := by omega
      have HQ := hidden hq.out
      go_wp2_with fail
      go_ret
      refine ⟨_, L, rfl, ho.out, ?_, hb.out⟩
      rw [HQ.out, List.take_of_length_le (Nat.le_refl _), List.take_of_length_le (by rw [List.length_map, HXE.out]; exact Nat.le_refl _)]
end Go.Proofs.YthncochjhbmceaaGreat
