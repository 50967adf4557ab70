/- HeadErases, walked: what is erased is no longer told, and all else is. Condition: the arguments are of bulk within the limit. -/
import Derived.Test.YthncochjhbmceaaGreatPk86f69611
import Derived.Test.YthncochjhbmceaaGreatPkbb3ea29e
namespace Go.Proofs.YthncochjhbmceaaGreat
set_option maxRecDepth 100000
open Go.RowKit Go.WideShapes Go.ChangeShapes

theorem infoSmpE : (Tryz.prog.info? 68).map (fun i => (i.zero, i.size, i.bytes)) = some (some (.agg #[.int .i64 0, .int .u64 0]), 2, 16) := by kernel_rfl
set_option maxHeartbeats 12800000 in
theorem headErases_any (A B : Option Addr) (N C n c : Nat) (sp : Spn) (os : List OpR) (l : List Ask) (w : World) (ho : OpsF w A N os) (hsp : sp.ok) (ha : AskF w B n l) (hn : n ≤ 1048576) (hs : (os.map fun o => o.bat.n).sum ≤ 1048576) :
    Calls Tryz.prog 5 #[.slice A N C, .agg #[.int .i64 sp.frm, .int .i64 sp.til], .slice B n c] w fun e w' => e = .returned (.bool true) ∧ Below w.heap.size w w' := by
  obtain ⟨iQ, iQ0, iQ1, iQ2, iQ3⟩ := info_parts infoSmpE
  obtain ⟨ws, hws⟩ : ∃ ws, w.alloc (.cells #[.int .i64 sp.frm, .int .i64 sp.til] 33) = ws := ⟨_, rfl⟩
  have b0 : Below w.heap.size w ws := hws ▸ (Below.refl _ _).alloc (Nat.le_refl _) _
  have hbx : Whole1 ws w.heap.size 33 #[.int .i64 sp.frm, .int .i64 sp.til] := hws ▸ Whole1.new w _ _
  have HO := hidden (ho.on b0)
  have HA := hidden (ha.on b0)
  have HS := hidden hs
  have HN := hidden hn
  have HSP := hidden hsp
  have HB0 := hidden b0
  have HBX := hidden hbx
  have HWS := hidden hws
  have hN := ho.few
  clear ho ha hs hn hsp b0 hbx hws
  go_enter Tryz.func5, Tryz.ntmps5
  go_wp2_with fail
  rw [HWS.out]
  refine (wakes18_any _).mono ?_
  rintro e w1 ⟨rfl, b1⟩
  have HB1 := hidden b1
  have S1 := hidden (hed_new w1 (base := ws.heap.size) b1.size)
  clear b1
  go_wp2_with fail
  refine S1.out.mono ?_
  rintro e w2 ⟨h, rfl, hh, b2⟩
  have HM2 := hidden (show MadeH w2 ws.heap.size h [] [] 0 from ⟨hh, HInv.nil, Nat.le_refl _, Nat.le_refl _⟩)
  have HB2 := hidden (HB1.out.trans (b2.mono HB1.out.size))
  clear S1 hh b2 HB1
  go_wp2_with fail
  go_loopw [27] (fun vi wr => ∃ (k : Nat) (E : List (List Lbl)) (X : List HsR), vi = .int .i64 (k : Int) ∧ k ≤ N ∧ Hid (MadeH wr ws.heap.size h E X (usedN os k)) ∧ Hid (Below ws.heap.size ws wr)) (fun vi _ => N - (intOf vi).toNat)
  case atStart => exact ⟨0, [], [], rfl, Nat.zero_le _, HM2, HB2⟩
  case round =>
    obtain ⟨k, E, X, rfl, hk, hm, hb⟩ := hrel
    have k0 : (0 : Int) ≤ (k : Int) := by omega
    by_cases hlt : k < N
    · have k1 : (k : Int) < (N : Int) := by omega
      have fwk : IntKind.i64.wrap ((k : Int) + 1) = (k : Int) + 1 := Go.IntWalk.i64_in _ (by omega)
      have HLT := hidden (show k + 1 ≤ N from hlt)
      have hoo := HO.out.on hb.out
      obtain ⟨g, o, x, rfl, hg, hox, hc⟩ := row_at (enc := OpR.cells) (k := 14) (fun _ => rfl) hoo.row hoo.len k hlt
      have hen := hoo.ent x (List.mem_of_getElem? hox)
      have hus := usedN_snoc hox
      have hul := usedN_le os (k + 1)
      have c0 := hc 0 (by omega)
      have c1 := hc 1 (by omega)
      have c2 := hc 2 (by omega)
      have c3 := hc 3 (by omega)
      have c4 := hc 4 (by omega)
      have c5 := hc 5 (by omega)
      have c6 := hc 6 (by omega)
      have c7 := hc 7 (by omega)
      have c8 := hc 8 (by omega)
      have c9 := hc 9 (by omega)
      have c10 := hc 10 (by omega)
      have c11 := hc 11 (by omega)
      have c12 := hc 12 (by omega)
      have c13 := hc 13 (by omega)
      obtain ⟨kind, ⟨bA, bn, bc, bl⟩, ⟨A2, n2, e2⟩, ⟨A3, n3, e3⟩, ⟨A4, n4, e4⟩, i5, i6, i7, i8, i9, i10, i11, i12, ⟨A13, n13, e13⟩⟩ := x
      simp only [OpR.cells, Sl.val, SlV.val, List.getElem?_cons_zero, List.getElem?_cons_succ, Nat.add_zero] at c0 c1 c2 c3 c4 c5 c6 c7 c8 c9 c10 c11 c12 c13 hen hus
      have hb1 : Below wr.heap.size wr (wr.alloc (.cells #[.int .i64 kind, .slice bA bn bc, .slice A2 n2 e2, .slice A3 n3 e3, .slice A4 n4 e4, .int .i64 i5, .int .i64 i6, .int .i64 i7, .int .i64 i8, .int .i64 i9, .int .i64 i10, .int .i64 i11, .int .i64 i12, .slice A13 n13 e13] 37)) := (Below.refl _ _).alloc (Nat.le_refl _) _
      have hw1 := Whole1.new wr 37 #[.int .i64 kind, .slice bA bn bc, .slice A2 n2 e2, .slice A3 n3 e3, .slice A4 n4 e4, .int .i64 i5, .int .i64 i6, .int .i64 i7, .int .i64 i8, .int .i64 i9, .int .i64 i10, .int .i64 i11, .int .i64 i12, .slice A13 n13 e13]
      obtain ⟨w4, hw4⟩ : ∃ w4, wr.alloc (.cells #[.int .i64 kind, .slice bA bn bc, .slice A2 n2 e2, .slice A3 n3 e3, .slice A4 n4 e4, .int .i64 i5, .int .i64 i6, .int .i64 i7, .int .i64 i8, .int .i64 i9, .int .i64 i10, .int .i64 i11, .int .i64 i12, .slice A13 n13 e13] 37) = w4 := ⟨_, rfl⟩
      obtain ⟨Y, hY⟩ : ∃ Y, wr.heap.size = Y := ⟨_, rfl⟩
      rw [hw4] at hb1 hw1
      rw [hY] at hw1
      have HM4 := hidden (hm.out.below hb1)
      have HB4 := hidden (hb.out.trans (hb1.mono hb.out.size))
      have HEN := hidden (hen.on hb1)
      have HUS := hidden hus
      have HSS := hidden (show usedN os k + bn ≤ 1048576 by have := HS.out; omega)
      have d0 := hw1.cell 0
      have d1 := hw1.cell 1
      clear hoo hox hc hen hus hul hb1 hw1 hm hb hg
      go_upto_region 7 with (fail)
      clear c0 c1 c2 c3 c4 c5 c6 c7 c8 c9 c10 c11 c12 c13 hw4 hY
      by_cases hkind : kind = 1
      · subst hkind
        have S2 := hidden (hed_plan bA bn bc bl w4 HM4.out.hed HEN.out (by have := HM4.out.few; have := HSS.out; omega))
        have HI := hidden (HM4.out.plan bl)
        have htk := fun (w' : World) (X' : List HsR) => HM4.out.applied (w' := w') (X' := X') (xs := bl) (n := bn) (fun x hx => (HEN.out.ok x hx).2.2) HEN.out.len
        obtain ⟨s, hs⟩ : ∃ s, planB (T0 E X) (bl.map EntR.p) = s := ⟨_, rfl⟩
        rw [hs] at S2 HI htk
        have HTK := hidden htk
        clear hs htk
        go_wp2_with fail
        refine S2.out.mono ?_
        rintro e w5 ⟨nv, pv, vv, L, rfl, hnw, hpt, hvr, b5⟩
        obtain ⟨r, hrv, hr⟩ := planRec (w0 := w4) (X := X) (xs := bl) hnw hpt HI.out (by obtain ⟨_, _, kk⟩ := HM4.out.hed; exact kk.len) (by have := HM4.out.few; have := HSS.out; have := HEN.out.len; omega) (fun x hx => (HEN.out.ok x hx).2.2)
        obtain ⟨⟨nA, nn, nc, nl⟩, ⟨pA, pn, pc, pl⟩, ⟨gA, gn, gc, gl⟩⟩ := r
        simp only [RecR.val, Sl.val, Value.agg.injEq, Array.mk.injEq, List.cons.injEq, and_true] at hrv
        obtain ⟨rfl, rfl, hgv⟩ := hrv
        simp only [Value.slice.injEq] at hgv
        obtain ⟨rfl, rfl, rfl⟩ := hgv
        have b6 : Below w5.heap.size w5 (w5.alloc (.cells #[.slice nA nn nc, .slice pA pn pc, .slice none 0 0] 31)) := (Below.refl _ _).alloc (Nat.le_refl _) _
        have hw6 := Whole1.new w5 31 #[.slice nA nn nc, .slice pA pn pc, .slice none 0 0]
        obtain ⟨w6, hw6e⟩ : ∃ w6, w5.alloc (.cells #[.slice nA nn nc, .slice pA pn pc, .slice none 0 0] 31) = w6 := ⟨_, rfl⟩
        obtain ⟨Z, hZ⟩ : ∃ Z, w5.heap.size = Z := ⟨_, rfl⟩
        rw [hw6e] at b6 hw6
        rw [hZ] at hw6
        have b46 := b5.trans (b6.mono b5.size)
        have HB6 := hidden (HB4.out.trans (b46.mono HB4.out.size))
        have S3 := hidden (apply_plan w6 (HM4.out.hed.below b46) HB6.out.size (s := s) _ (hr.turn (Turn.of_below b6 0 [] false) (by simp) (by simp) (by simp) (by simp)) HI.out (by have := HM4.out.few; have := HSS.out; have := HEN.out.len; omega) (by have := HM4.out.cnt; have := HSS.out; have := HEN.out.len; omega))
        simp only [RecR.val, Sl.val] at S3
        have r0 := hw6.cell 0
        have r1 := hw6.cell 1
        have r2 := hw6.cell 2
        have HW6 := hidden hw6e
        have HZ := hidden hZ
        clear S2 hnw hpt hvr b5 hr b6 hw6 hw6e hZ b46 d0 d1
        go_upto_region 9 with (fail)
        rw [HW6.out, HZ.out]
        go_wp2_with fail
        refine S3.out.mono ?_
        rintro e w7 ⟨X7, rfl, hh7, hp7, t7⟩
        have HM7 := hidden (HTK.out w7 X7 hh7 hp7)
        have HB7 := hidden (HB6.out.trans (t7.below (Nat.le_refl _) HB6.out.size))
        clear S3 hh7 hp7 t7 r0 r1 r2
        go_wp2_with fail
        go_roundw
        case rel => exact ⟨k + 1, _, X7, by go_num, HLT.out, hidden (by rw [HUS.out]; exact HM7.out), HB7⟩
        case measure => have := HLT.out; simp [intOf]; omega
      · have hkb : (kind == 1) = false := by simpa using hkind
        go_wp2_with fail
        go_roundw
        case rel => exact ⟨k + 1, E, X, by go_num, HLT.out, hidden (HM4.out.more (by rw [HUS.out]; omega)), HB4⟩
        case measure => have := HLT.out; simp [intOf]; omega
    · obtain rfl : N = k := by omega
      have hul := usedN_le os N
      have hm1 := hm.out.more (Nat.le_trans hul HS.out)
      have hE20 : E.length ≤ 1048576 := hm1.few
      have hmx : ∀ x ∈ X, -9223372036854775808 ≤ x.mx ∧ x.mx < 9223372036854775808 := fun x hx => by
        have := hm1.inv.mx x.p (List.mem_map_of_mem hx)
        simp only [HsR.p] at this
        omega
      have hgn : ∀ s ∈ X.map HsR.p, s.gone = [] := hm1.inv.gone
      have hgX : ∀ x ∈ X, x.gone = [] := fun x hx => hgn x.p (List.mem_map_of_mem hx)
      have hri := hm1.raw (Nat.le_refl _)
      have HM := hidden hm1
      have HB := hidden hb.out
      have HMX := hidden hmx
      have HGN := hidden hgn
      have HGX := hidden hgX
      have HRI := hidden hri
      have S1 := hidden (matchers18_any B n c l wr (HA.out.on HB.out))
      clear hul hm hb hN hm1 hmx hgn hgX hri
      go_wp2_with fail
      refine S1.out.mono ?_
      rintro e w3 ⟨vm, vw, ms, rfl, hP, _, hmn⟩
      have b3 := hP.below
      obtain ⟨Am, cm, rfl, _, _⟩ := own_shape hP.one
      have HMs3 := hidden (show MsO w3 ws.heap.size Am cm ms from ⟨own_more hP.one HB.out.size, hP.m1⟩)
      have hm20 : ms.length ≤ 1048576 := Nat.le_trans hmn HN.out
      have HB3 := hidden (HB.out.trans (b3.mono HB.out.size))
      have HM3 := hidden (HM.out.below b3)
      have S2 := hidden (hed_raw w3 HM3.out.hed HB3.out.size HRI.out hE20)
      clear S1 hP b3 hmn HM HB
      go_wp2_with fail
      refine S2.out.mono ?_
      rintro e w4 ⟨v1, L1, rfl, hO1, hp1, hs1, b4⟩
      obtain ⟨A1, c1, rfl, _, _⟩ := own_shape hO1.row
      have HO4 := hidden hO1
      have HMs4 := hidden (HMs3.out.below b4)
      have HB4 := hidden (HB3.out.trans (b4.mono HB3.out.size))
      have HM4 := hidden (HM3.out.below b4)
      have hbx4 := HBX.out.below HB4.out HBX.out.lt
      have f0 := hbx4.cell 0
      have f1 := hbx4.cell 1
      have HP1 := hidden hp1
      have HS1 := hidden hs1
      have S3 := hidden (hed_erase sp Am ms.length cm ms w4 HM4.out.hed hE20 HSP.out HMs4.out.mt hm20 HMX.out)
      clear S2 hO1 hp1 hs1 b4 hbx4 HMs3 HB3 HM3
      go_wp2_with fail
      refine S3.out.mono ?_
      rintro e w5 ⟨gv, G, T, rfl, hG, hq, hT1, hTok, hTh, hTl, b5⟩
      have HB5 := hidden (HB4.out.trans (b5.mono HB4.out.size))
      have HM5 := hidden (HM4.out.below b5)
      have HMs5 := hidden (HMs4.out.below b5)
      have HO5 := hidden (HO4.out.below b5)
      have S4 := hidden (apply_gon w5 HM5.out.hed HB5.out.size hG hq hT1 hTok hTl HMX.out HGX.out hE20)
      have HQ := hidden hq
      have HTH := hidden hTh
      have HRI2 := hidden (rawI_left (Z := fitsTo E ms E.length) HRI.out HGN.out hTok hTl (mx_getD HMX.out))
      clear S3 hG hq hT1 hTok hTh hTl b5 HB4 HMs4 HO4 HM4 f0 f1
      go_wp2_with fail
      refine S4.out.mono ?_
      rintro e w6 ⟨⟨z, rfl⟩, X6, hh6, hp6, t6⟩
      have HB6 := hidden (HB5.out.trans (t6.below (Nat.le_refl _) HB5.out.size))
      have HMs6 := hidden (HMs5.out.turn t6 (by decide) (by decide))
      have HO6 := hidden (HO5.out.turn t6 (by decide) (by decide) (by decide))
      rw [HQ.out] at hp6
      have S5 := hidden (hed_raw w6 hh6 HB6.out.size (hp6 ▸ HRI2.out) hE20)
      have HP6 := hidden hp6
      have HX6 := hidden (show (X.map HsR.p).length = E.length by rw [List.length_map]; obtain ⟨_, _, kk⟩ := HM5.out.hed; exact kk.len)
      have HND := hidden (show E.Nodup by obtain ⟨_, _, kk⟩ := HM5.out.hed; exact kk.idx.valid.2)
      clear S4 hh6 hp6 t6 HB5 HMs5 HO5
      go_wp2_with fail
      refine S5.out.mono ?_
      rintro e w7 ⟨v2, L2, rfl, hO2, hp2, hs2, b7⟩
      obtain ⟨A2, c2, rfl, hc2, _⟩ := own_shape hO2.row
      have HO2 := hidden hO2
      have HO1 := hidden (HO6.out.below b7)
      have HB7 := hidden (HB6.out.trans (b7.mono HB6.out.size))
      have HMs7 := hidden (HMs6.out.below b7)
      have hfin : L2.map Ser.q = leftL ms sp (L1.map Ser.q) := by
        rw [HP6.out] at hp2
        have hmm : (X.map HsR.p).map SerP.mx = X.map HsR.mx := by rw [List.map_map]; rfl
        have her := erased (E := E) (S := X.map HsR.p) (ms := ms) (T := T) (sp := sp) HX6.out HGN.out (fun s hs x hx => by
          have h1 := HM5.out.inv.mx s hs
          have h2 := HM5.out.inv.sm s hs x hx
          omega) HTH.out
        rw [hmm] at her
        exact sorted_left HND.out (by rw [gonesP_len, HX6.out]) (raw_left ms sp E _ _ HX6.out (by rw [gonesP_len, HX6.out]) HGN.out her) HP1.out HS1.out hp2 hs2
      have hn1 : L1.length ≤ 1048576 := by
        have h1 := HP1.out.length_eq
        have h2 := rawL_len E (X.map HsR.p)
        rw [List.length_map] at h1
        omega
      have hsn : ∀ x ∈ L1, x.smp.n ≤ 1048576 := fun x hx => by
        have h1 := rawL_smp HRI.out (HP1.out.mem_iff.1 (List.mem_map_of_mem (f := Ser.q) hx))
        rw [← (HO1.out.smp x hx).2]
        exact h1
      obtain ⟨n1, hl1⟩ : ∃ n1, L1.length = n1 := ⟨_, rfl⟩
      obtain ⟨n2, hl2⟩ : ∃ n2, L2.length = n2 := ⟨_, rfl⟩
      rw [hl1] at hn1 ⊢
      rw [hl2] at hc2 ⊢
      have HFIN := hidden hfin
      have HSN := hidden hsn
      have HL1 := hidden hl1
      have HL2 := hidden hl2
      have hf2 : n2 ≤ n1 := by
        have := congrArg List.length hfin
        rw [List.length_map, hl2] at this
        have h2 : (leftL ms sp (L1.map Ser.q)).length ≤ n1 := by
          refine Nat.le_trans (List.length_filter_le _ _) ?_
          rw [List.length_map, List.length_map, hl1]
          exact Nat.le_refl _
        omega
      clear S5 hO2 hp2 hs2 b7 HB6 HMs6 HO6 hfin hsn hl1 hl2 HP6 HX6 HND HM5 HP1 HS1 HRI HRI2 HQ HTH HGN HGX HMX
      go_wp2_with fail
      go_loopw [16, 64] (fun va vi wy => ∃ (k j : Nat), vi = .int .i64 (k : Int) ∧ k ≤ n1 ∧ va = .int .i64 (j : Int) ∧ j ≤ k ∧ Hid (j = (leftL ms sp ((L1.map Ser.q).take k)).length) ∧ Hid (Below w7.heap.size w7 wy)) (fun _ vi _ => n1 - (intOf vi).toNat)
      case atStart => exact ⟨0, 0, rfl, Nat.zero_le _, rfl, Nat.le_refl _, hidden rfl, hidden (Below.refl _ _)⟩
      case round =>
        obtain ⟨k, j, rfl, hk, rfl, hjk, hj, hb⟩ := hrel
        have k0 : (0 : Int) ≤ (k : Int) := by omega
        have j0 : (0 : Int) ≤ (j : Int) := by omega
        by_cases hlt : k < n1
        · have k1 : (k : Int) < (n1 : Int) := by omega
          have fwk : IntKind.i64.wrap ((k : Int) + 1) = (k : Int) + 1 := Go.IntWalk.i64_in _ (by omega)
          have fwj : IntKind.i64.wrap ((j : Int) + 1) = (j : Int) + 1 := Go.IntWalk.i64_in _ (by omega)
          have HLT := hidden (show k + 1 ≤ n1 from hlt)
          obtain ⟨A', c', e, _, hrow⟩ := own_shape (HO1.out.below hb.out).row
          simp only [Value.slice.injEq, true_and] at e
          obtain ⟨rfl, rfl⟩ := e
          rw [HL1.out] at hrow
          obtain ⟨g1, o1, x, hA1, _, hx, hc⟩ := row_at (enc := Ser.cells) (k := 3) (fun _ => rfl) hrow HL1.out k hlt
          subst hA1
          have hxm := List.mem_of_getElem? hx
          have hwin := HO1.out.win x hxm
          have hlab := HO1.out.lab x hxm
          have hsmp := HO1.out.smp x hxm
          have hqk : (L1.map Ser.q)[k]? = some x.q := by rw [List.getElem?_map, hx]; rfl
          have hsN := HSN.out x hxm
          have a0 := hc 0 (by omega)
          have a1 := hc 1 (by omega)
          have a2 := hc 2 (by omega)
          obtain ⟨⟨lA, lN, lC, ll⟩, ⟨sA, sN, sC, sl⟩, xw⟩ := x
          simp only at hwin hlab hsmp hsN
          subst hwin
          simp only [Ser.cells, Sl.val, Sl.nil, List.getElem?_cons_zero, List.getElem?_cons_succ, Nat.add_zero] at a0 a1 a2
          have HQK := hidden (show (L1.map Ser.q)[k]? = some (ll, sl) from hqk)
          have HLAB := hidden hlab
          have HSMP := hidden hsmp
          have hb8 : Below wr.heap.size wr (wr.alloc (.cells #[.slice lA lN lC, .slice sA sN sC, .slice none 0 0] 73)) := (Below.refl _ _).alloc (Nat.le_refl _) _
          have hw8 := Whole1.new wr 73 #[.slice lA lN lC, .slice sA sN sC, .slice none 0 0]
          obtain ⟨w8, he8⟩ : ∃ w8, wr.alloc (.cells #[.slice lA lN lC, .slice sA sN sC, .slice none 0 0] 73) = w8 := ⟨_, rfl⟩
          obtain ⟨Y, hY⟩ : ∃ Y, wr.heap.size = Y := ⟨_, rfl⟩
          rw [he8] at hb8 hw8
          rw [hY] at hw8
          have HB8 := hidden (hb.out.trans (hb8.mono hb.out.size))
          have HY8 := hidden hw8
          have HE8 := hidden he8
          have HYe := hidden hY
          have y1 := hw8.cell 1
          clear hrow hc hx hxm hlab hsmp hqk hb8 hw8 he8 hY hb
          go_upto_region 19 with (fail)
          rw [HE8.out, HYe.out]
          clear a0 a1 a2
          obtain ⟨bm, hbm⟩ : ∃ bm, allM ll ms = bm := ⟨_, rfl⟩
          have HBM := hidden hbm
          clear hbm
          go_wp2_with fail
          go_loopw [19, 71] (fun vl vi wz => ∃ i : Nat, vi = .int .i64 (i : Int) ∧ i ≤ sN ∧ (leftS bm sp (sl.take i)).length ≤ i ∧ Hid (wz.ownsRow w8.heap.size 68 2 vl (leftS bm sp (sl.take i)).length ((leftS bm sp (sl.take i)).flatMap Smp.cells)) ∧ Hid (Below w8.heap.size w8 wz)) (fun _ vi _ => sN - (intOf vi).toNat)
          case atStart => exact ⟨0, rfl, Nat.zero_le _, by simp [leftS], hidden (World.ownsRow_nil _ _ _ _), hidden (Below.refl _ _)⟩
          case round =>
            obtain ⟨i, rfl, hi, hil, ho, hb⟩ := hrel
            have i0 : (0 : Int) ≤ (i : Int) := by omega
            obtain ⟨Al, cl, rfl, hcl, _⟩ := own_shape ho.out
            by_cases hlti : i < sN
            · have i1 : (i : Int) < (sN : Int) := by omega
              have fwi : IntKind.i64.wrap ((i : Int) + 1) = (i : Int) + 1 := Go.IntWalk.i64_in _ (by omega)
              have HLTI := hidden (show i + 1 ≤ sN from hlti)
              have hbz := HB8.out.trans (hb.out.mono HB8.out.size)
              obtain ⟨A', c', e, _, hrow⟩ := own_shape (own_below HSMP.out.1 hbz (Nat.le_refl _))
              simp only [Sl.val, Value.slice.injEq, true_and] at e
              obtain ⟨rfl, rfl⟩ := e
              obtain ⟨gs, os', y, hsA, _, hy, hc⟩ := row_at (enc := Smp.cells) (k := 2) (fun _ => rfl) hrow HSMP.out.2 i hlti
              subst hsA
              have d0 := hc 0 (by omega)
              have d1 := hc 1 (by omega)
              obtain ⟨yt, yv⟩ := y
              simp only [Smp.cells, List.getElem?_cons_zero, List.getElem?_cons_succ, Nat.add_zero] at d0 d1
              have HYY := hidden hy
              have hb9 : Below wr.heap.size wr (wr.alloc (.cells #[.int .i64 yt, .int .u64 (yv : Int)] 68)) := (Below.refl _ _).alloc (Nat.le_refl _) _
              have hw9 := Whole1.new wr 68 #[.int .i64 yt, .int .u64 (yv : Int)]
              obtain ⟨w9, he9⟩ : ∃ w9, wr.alloc (.cells #[.int .i64 yt, .int .u64 (yv : Int)] 68) = w9 := ⟨_, rfl⟩
              obtain ⟨Z, hZ⟩ : ∃ Z, wr.heap.size = Z := ⟨_, rfl⟩
              rw [he9] at hb9 hw9
              rw [hZ] at hw9
              have HB9 := hidden (hb.out.trans (hb9.mono hb.out.size))
              have HZ9 := hidden hw9
              have HE9 := hidden he9
              have HZe := hidden hZ
              have HOW := hidden (own_below ho.out hb9 (Nat.le_refl _))
              have z0 := hw9.cell 0
              have z1 := hw9.cell 1
              have y0 := (HY8.out.below HB9.out HY8.out.lt).cell 0
              have hbw := HB8.out.trans (HB9.out.mono HB8.out.size)
              have HMs9 := hidden (HMs7.out.below hbw)
              have hel := valid_small HLAB.out.2.2
              have hlr := own_below HLAB.out.1 hbw (Nat.le_refl _)
              obtain ⟨A', c', e, _, hlrow⟩ := own_shape hlr
              simp only [Sl.val, Value.slice.injEq, true_and] at e
              obtain ⟨rfl, rfl⟩ := e
              have hlN := HLAB.out.2.1
              have S6 := hidden (mall_any lA Am lN lC ms.length cm ll ms w9 ⟨hlrow, hlN, by omega, fun x hx => by have := hel.2 x hx; omega⟩ HMs9.out.mt (by omega))
              rw [HBM.out] at S6
              clear hbz hrow hc hy hb9 hw9 he9 hZ hbw hel hlr hlrow ho hb hlN
              go_upto_region 23 with (fail)
              rw [HE9.out, HZe.out]
              clear d0 d1
              go_wp2_with fail
              refine S6.out.mono ?_
              rintro e w10 ⟨rfl, b10⟩
              have HB10 := hidden (HB9.out.trans (b10.mono HB9.out.size))
              have hz10 := HZ9.out.below b10 HZ9.out.lt
              have z0 := hz10.cell 0
              have z1 := hz10.cell 1
              have hbx10 := HBX.out.below (HB7.out.trans ((HB8.out.trans (HB10.out.mono HB8.out.size)).mono HB7.out.size)) HBX.out.lt
              have f0 := hbx10.cell 0
              have f1 := hbx10.cell 1
              have HO10 := hidden (own_below HOW.out b10 (Nat.le_refl _))
              have hfr := Row.fresh w10 68 2 1 [.int .i64 yt, .int .u64 (yv : Int)] rfl
              have hba : Below w10.heap.size w10 (w10.alloc (.cells #[.int .i64 yt, .int .u64 (yv : Int)] 68)) := (Below.refl _ _).alloc (Nat.le_refl _) _
              have HBA := hidden hba
              have HGs := hidden HB10.out.size
              have HYES := hidden (leftS_yes (b := bm) (sp := sp) HYY.out)
              have HNO := hidden (leftS_no (b := bm) (sp := sp) HYY.out)
              obtain ⟨L, hL⟩ : ∃ L, leftS bm sp (sl.take i) = L := ⟨_, rfl⟩
              rw [hL] at HO10 HYES HNO hil hcl ⊢
              clear S6 hz10 hbx10 HOW b10 hba y0 hL
              cases bm with
              | false =>
                have hf : (false && inSpn sp yt) = false := rfl
                go_wp2_with (at_builtin; refine wpList_app _ rfl _ _ 63 rfl w8.heap.size 68 iQ _ 2 16 Tryz.underlying63 iQ0 iQ1 iQ2 iQ3 rfl (by decide) _ _ _ rfl (HO10.out.alloc _) _ _ _ _ _ rfl hfr (by simp [Value.oneCell']) (by unfold maxLen; omega) (by omega) (by have := HGs.out; simp; omega) ?_; intro v11 w11 hown11 hg11 hat11; obtain ⟨A11, q11, rfl, _, _⟩ := own_shape hown11)
                have hb11 := (HB10.out.trans (HBA.out.mono HB10.out.size)).grown hg11 (by have := HGs.out; rw [World.size_alloc]; omega) (fun q e => (HO10.out.lt q e).1)
                refine ⟨⟨i + 1, by simp, HLTI.out, ?_, hidden ?_, hidden hb11⟩, ?_⟩
                · rw [HYES.out hf, List.length_append, List.length_singleton]; omega
                · rw [HYES.out hf, List.length_append, List.length_singleton, List.flatMap_append, List.flatMap_singleton]; exact hown11
                · simp only [intOf]; omega
              | true =>
                by_cases h1 : yt < sp.frm
                · have hf : (true && inSpn sp yt) = false := Bool.eq_false_iff.2 fun e => by
                    rw [Bool.true_and] at e
                    have := inSpn_iff.1 e
                    omega
                  go_wp2_with (at_builtin; refine wpList_app _ rfl _ _ 63 rfl w8.heap.size 68 iQ _ 2 16 Tryz.underlying63 iQ0 iQ1 iQ2 iQ3 rfl (by decide) _ _ _ rfl (HO10.out.alloc _) _ _ _ _ _ rfl hfr (by simp [Value.oneCell']) (by unfold maxLen; omega) (by omega) (by have := HGs.out; simp; omega) ?_; intro v11 w11 hown11 hg11 hat11; obtain ⟨A11, q11, rfl, _, _⟩ := own_shape hown11)
                  have hb11 := (HB10.out.trans (HBA.out.mono HB10.out.size)).grown hg11 (by have := HGs.out; rw [World.size_alloc]; omega) (fun q e => (HO10.out.lt q e).1)
                  refine ⟨⟨i + 1, by simp, HLTI.out, ?_, hidden ?_, hidden hb11⟩, ?_⟩
                  · rw [HYES.out hf, List.length_append, List.length_singleton]; omega
                  · rw [HYES.out hf, List.length_append, List.length_singleton, List.flatMap_append, List.flatMap_singleton]; exact hown11
                  · simp only [intOf]; omega
                · by_cases h2 : sp.til < yt
                  · have hf : (true && inSpn sp yt) = false := Bool.eq_false_iff.2 fun e => by
                      rw [Bool.true_and] at e
                      have := inSpn_iff.1 e
                      omega
                    go_wp2_with (at_builtin; refine wpList_app _ rfl _ _ 63 rfl w8.heap.size 68 iQ _ 2 16 Tryz.underlying63 iQ0 iQ1 iQ2 iQ3 rfl (by decide) _ _ _ rfl (HO10.out.alloc _) _ _ _ _ _ rfl hfr (by simp [Value.oneCell']) (by unfold maxLen; omega) (by omega) (by have := HGs.out; simp; omega) ?_; intro v11 w11 hown11 hg11 hat11; obtain ⟨A11, q11, rfl, _, _⟩ := own_shape hown11)
                    have hb11 := (HB10.out.trans (HBA.out.mono HB10.out.size)).grown hg11 (by have := HGs.out; rw [World.size_alloc]; omega) (fun q e => (HO10.out.lt q e).1)
                    refine ⟨⟨i + 1, by simp, HLTI.out, ?_, hidden ?_, hidden hb11⟩, ?_⟩
                    · rw [HYES.out hf, List.length_append, List.length_singleton]; omega
                    · rw [HYES.out hf, List.length_append, List.length_singleton, List.flatMap_append, List.flatMap_singleton]; exact hown11
                    · simp only [intOf]; omega
                  · have hf : (true && inSpn sp yt) = true := by
                      rw [Bool.true_and]
                      exact inSpn_iff.2 ⟨by omega, by omega⟩
                    have HO11 := hidden (show w10.ownsRow w8.heap.size 68 2 (.slice Al L.length cl) (leftS true sp (sl.take (i + 1))).length ((leftS true sp (sl.take (i + 1))).flatMap Smp.cells) by rw [HNO.out hf]; exact HO10.out)
                    have hil2 : (leftS true sp (sl.take (i + 1))).length ≤ i + 1 := by rw [HNO.out hf]; omega
                    go_wp2_with fail
                    refine ⟨⟨i + 1, by simp, HLTI.out, hil2, HO11, HB10⟩, ?_⟩
                    simp only [intOf]; omega
            · obtain rfl : sN = i := by omega
              have htk : sl.take sN = sl := List.take_of_length_le (by rw [HSMP.out.2]; exact Nat.le_refl _)
              have hls : leftS bm sp sl = (leftF ms sp (ll, sl)).2 := by rw [← HBM.out]; rfl
              rw [htk] at ho hil hcl ⊢
              obtain ⟨D, hD⟩ : ∃ D, leftS bm sp sl = D := ⟨_, rfl⟩
              rw [hD] at ho hil hcl hls ⊢
              have hbz := HB8.out.trans (hb.out.mono HB8.out.size)
              obtain ⟨d, hd⟩ : ∃ d, D.length = d := ⟨_, rfl⟩
              have HD := hidden hd
              have HOD := hidden ho.out
              have HBZ := hidden hbz
              have HY9 := hidden (HY8.out.below hb.out HY8.out.lt)
              have HLS := hidden hls
              rw [hd] at hil hcl HOD ⊢
              clear htk hls hD hbz hd ho hb
              by_cases hd0 : d = 0
              · subst hd0
                have HJ := hidden (show j = (leftL ms sp ((L1.map Ser.q).take (k + 1))).length by
                  rw [leftL_no HQK.out (by rw [← HLS.out, HD.out]; decide)]
                  exact hj.out)
                clear hj
                go_wp2_with fail
                go_roundw
                case rel => exact ⟨k + 1, j, by go_num, HLT.out, rfl, by omega, HJ, HBZ⟩
                case measure => have := HLT.out; simp [intOf]; omega
              · have hd1 : ((d : Int) == 0) = false := by simp; omega
                have hf : 0 < (leftF ms sp (ll, sl)).2.length := by rw [← HLS.out, HD.out]; omega
                have HJ := hidden (show j + 1 = (leftL ms sp ((L1.map Ser.q).take (k + 1))).length by
                  rw [leftL_yes HQK.out hf, List.length_append, List.length_singleton, ← hj.out])
                have hat := leftL_at HQK.out hf
                rw [← hj.out, ← HFIN.out, List.getElem?_map] at hat
                obtain ⟨x2, hx2, hq2⟩ := Option.map_eq_some_iff.1 hat
                have hj2 : j < n2 := by rw [← HL2.out]; exact (List.getElem?_eq_some_iff.1 hx2).1
                have hx2m := List.mem_of_getElem? hx2
                have hql : x2.lab.l = ll := congrArg Prod.fst hq2
                have hqs : x2.smp.l = D := (congrArg Prod.snd hq2).trans HLS.out.symm
                have hln : x2.lab.n = lN := by rw [← (HO2.out.lab x2 hx2m).2.1, hql]; exact HLAB.out.2.1
                have hsn : x2.smp.n = d := by rw [← (HO2.out.smp x2 hx2m).2, hqs]; exact HD.out
                obtain ⟨A', c', e, _, hrow2⟩ := own_shape (HO2.out.below HBZ.out).row
                simp only [Value.slice.injEq, true_and] at e
                obtain ⟨rfl, rfl⟩ := e
                obtain ⟨g2, o2, _, hA2, _, _, _⟩ := row_at (enc := Ser.cells) (k := 3) (fun _ => rfl) hrow2 rfl j (by rw [HL2.out]; exact hj2)
                subst hA2
                have hlN8 : lN ≤ 8 := by rw [← HLAB.out.2.1]; exact (valid_small HLAB.out.2.2).1
                have hww : Below w7.heap.size w7 wr := HBZ.out
                have HALL := hidden (fun W (hW : Below wr.heap.size wr W) => (⟨ser_one ((hrow2.below hW).more hW.size) rfl hx2, own_sl (((HO2.out.below HBZ.out).below hW).lab x2 hx2m).1 ((HO2.out.lab x2 hx2m).2.1), own_sl (((HO2.out.below HBZ.out).below hW).smp x2 hx2m).1 ((HO2.out.smp x2 hx2m).2)⟩ : Row W W.heap.size 3 (some ⟨g2, o2 + j * 3, none⟩) 1 x2.cells ∧ x2.lab.At W W.heap.size 2 Lbl.cells ∧ x2.smp.At W W.heap.size 2 Smp.cells))
                have SL := hidden (fun W (hW : Below wr.heap.size wr W) => labelsRef18_any lA lN lC ll W (own_sl (own_below (own_below HLAB.out.1 HBZ.out (Nat.le_refl _)) hW (Nat.le_refl _)) HLAB.out.2.1).2.2 HLAB.out.2.1 (by omega))
                have SS := hidden (fun W (hW : Below wr.heap.size wr W) => samplesRef18_any Al d cl D W (by obtain ⟨A', c', e, _, hr⟩ := own_shape (own_below HOD.out hW (Nat.le_refl _)); simp only [Value.slice.injEq, true_and] at e; obtain ⟨rfl, rfl⟩ := e; exact hr) HD.out (by omega))
                have HSx := hidden (fun W (hW : Below wr.heap.size wr W) => (HY9.out.below hW HY9.out.lt).cell 0)
                have HX2 := hidden (And.intro hql (And.intro hqs (And.intro hln (And.intro hsn (HO2.out.win x2 hx2m)))))
                have hge : ¬ (n2 : Int) ≤ (j : Int) := by omega
                have hj3 : (j : Int) + 1 ≤ (c2 : Int) := by omega
                have hj4 : (j : Int) ≤ (j : Int) + 1 := by omega
                clear hf hat hx2 hq2 hx2m hql hqs hln hsn hrow2 hj
                go_upto_region 27 with (fail)
                go_cut [121] (fun vb wx => vb = .bool false ∧ Hid (Below wr.heap.size wr wx))
                case first =>
                  go_region_held3 (fun W => W.cell? ⟨Y, 0, none⟩ = some (.slice lA lN lC))
                    (first | exact HSx.out _ (Below.refl _ _) | exact HSx.out _ (Below.refl _ _).drew | exact HSx.out _ (by assumption) | exact HSx.out _ (ky.alloc ky.size _))
                    (first
                      | (go_at_call 23; have kz : Below wr.heap.size wr (w11.alloc (.cells #[.slice A3 lN c3, .slice A4 d c4, .slice none 0 0] 89)) := ky.alloc ky.size _; have hz : Below w11.heap.size w11 (w11.alloc (.cells #[.slice A3 lN c3, .slice A4 d c4, .slice none 0 0] 89)) := (Below.refl _ _).alloc (Nat.le_refl _) _; have hW := Whole1.new w11 89 #[.slice A3 lN c3, .slice A4 d c4, .slice none 0 0]; refine (alike_one g2 (o2 + j * 3) _ x2 _ _ A3 lN c3 A4 d c4 _ (HALL.out _ kz).1 (HALL.out _ kz).2.1 (HALL.out _ kz).2.2 HX2.out.2.2.2.2 (by have := HX2.out.2.2.1; omega) (by have := HX2.out.2.2.2.1; omega) hW (by rw [HX2.out.1]; exact (HRa2.out.below hz).more hz.size) HX2.out.2.2.1.symm (by rw [HX2.out.2.1]; exact (HRb.out.below hz).more hz.size) HX2.out.2.2.2.1.symm).mono ?_; rintro e w12 ⟨rfl, b12⟩; have HKY := hidden (kz.trans (b12.mono kz.size)))
                      | (go_at_call 25; refine (SS.out _ kx).mono ?_; rintro e w11 ⟨v4, rfl, h3, c6⟩; obtain ⟨A4, c4, rfl, _, h4⟩ := own_shape h3; have HRa2 := hidden ((HRa.out.below c6).more c6.size); have HRb := hidden h4; have ky : Below wr.heap.size wr w11 := kx.trans (c6.mono kx.size); clear c6 h3 h4)
                      | (go_at_call 24; refine (SL.out _ (Below.refl _ _).drew).mono ?_; rintro e w10 ⟨v3, rfl, h1, c5⟩; obtain ⟨A3, c3, rfl, _, h2⟩ := own_shape h1; have HRa := hidden h2; have kx : Below wr.heap.size wr w10 := (Below.refl _ _).drew.trans c5; clear c5 h1 h2))
                  all_goals
                    go_wp2_with fail
                    go_meet
                    exact ⟨rfl, HKY⟩
                case rest =>
                  obtain ⟨rfl, HB3⟩ := hcut
                  have HB12 := hidden (HBZ.out.trans (HB3.out.mono HBZ.out.size))
                  clear HALL SL SS HSx HX2 HY9 HOD
                  go_wp2_with fail
                  go_roundw
                  case rel => exact ⟨k + 1, j + 1, by go_num, HLT.out, by go_num, by omega, HJ, HB12⟩
                  case measure => have := HLT.out; simp [intOf]; omega
        · obtain rfl : n1 = k := by omega
          have hjn : j = n2 := by
            rw [hj.out, List.take_of_length_le (by rw [List.length_map, HL1.out]; exact Nat.le_refl _), ← HFIN.out, List.length_map]
            exact HL2.out
          have hjj : ((j : Int) == (n2 : Int)) = true := by simp [hjn]
          clear hjn hj
          go_wp2_with fail
          go_ret
          exact ⟨rfl, HB0.out.trans ((HB7.out.trans (hb.out.mono HB7.out.size)).mono HB0.out.size)⟩
section
variable {H : Type} {enc : TypeId × Value → H} {W : World} {b : Nat}
theorem open_spanE {base : Nat} {v : Value} {d : DataW H} {ps : List MemPlace} (hv : Value.okWide Tryz.prog W .any base 33 v) (h : DataW.Trod enc Tryz.prog W 0 (fun _ => true) true 33 v d ps) (hF : Fits Tryz.prog W b 33 (d, ps)) :
    ∃ sp : Spn, v = .agg #[.int .i64 sp.frm, .int .i64 sp.til] ∧ sp.ok := by
  obtain ⟨cs, rfl, hcs⟩ := okWide_struct Tryz.underlying33 hv
  obtain ⟨fuel, hf⟩ := h
  obtain ⟨n, hl, hp⟩ := open_ones Tryz.underlying33 (by kernel_rfl) (by kernel_rfl) hf hF
  obtain ⟨u3, z3, c3, q3, m3⟩ := hp 0 _ rfl
  obtain ⟨u4, z4, c4, q4, m4⟩ := hp 1 _ rfl
  obtain ⟨p3, j3, k3⟩ := opens_int Tryz.underlying2 _ _ _ q3 m3
  obtain ⟨p4, j4, k4⟩ := opens_int Tryz.underlying2 _ _ _ q4 m4
  obtain ⟨l⟩ := cs
  simp only [Value.cells] at c3 c4 hl
  clear hp hf hcs hv
  match l, hl with
  | [a0, a1], _ =>
    simp only [List.getElem?_cons_zero, List.getElem?_cons_succ, Option.some.injEq, List.cons.injEq, and_true] at c3 c4 j3 j4
    subst c3 c4 j3 j4
    have h3 := wf_i64 k3
    have h4 := wf_i64 k4
    exact ⟨⟨p3, p4⟩, rfl, h3.1, h3.2, h4.1, h4.2⟩
end
theorem headErases_walk {H : Type} (enc : TypeId × Value → H) : LawWalk enc Tryz.prog 5 Tryz.f5 (fun ds => Rows.uptoBulkAll ds ≤ 1048576) := by
  intro W base args ds p hval hA hlt hsz hcond
  rw [Tryz.params5] at hval hA hsz
  obtain ⟨v0, vs0, d0, ds0, p0, q0, hargs, rfl, rfl, h0, r0⟩ := trodAll_cons hA
  obtain ⟨v1, vs1, d1, ds1, p1, q1, rfl, rfl, rfl, h1, r1⟩ := trodAll_cons r0
  obtain ⟨v2, vs2, d2, ds2, p2, q2, rfl, rfl, rfl, h2, r2⟩ := trodAll_cons r1
  obtain ⟨rfl, rfl, rfl⟩ := trodAll_nil r2
  obtain rfl : args = #[v0, v1, v2] := by cases args; simp_all
  have hsum : Rows.uptoBulk d0 + Rows.uptoBulk d2 ≤ 1048576 := by
    have := hcond
    simp only [Rows.uptoBulkAll] at this
    omega
  obtain ⟨A, N, C, os, rfl, hos, hun⟩ := open_ops (by omega) (hval 0 22 v0 rfl rfl) h0 (arg_fits (b := Rows.uptoBulkAll [d0, d1, d2]) (j := 0) rfl rfl (fun x hx => hlt x (by simp [hx])) hsz (Nat.le_refl _))
  obtain ⟨sp, rfl, hsp⟩ := open_spanE (hval 1 33 v1 rfl rfl) h1 (arg_fits (b := Rows.uptoBulkAll [d0, d1, d2]) (j := 1) rfl rfl (fun x hx => hlt x (by simp [hx])) hsz (Nat.le_refl _))
  obtain ⟨B, n, c, l, rfl, hl, hn⟩ := OpA18.open_asks (hval 2 35 v2 rfl rfl) h2 (arg_fits (b := Rows.uptoBulkAll [d0, d1, d2]) (j := 2) rfl rfl (fun x hx => hlt x (by simp [hx])) hsz (Nat.le_refl _))
  exact headErases_any A B N C n c sp os l W hos hsp hl (Nat.le_trans hn hcond) (by omega)

namespace headErasesUpto
set_option maxRecDepth 100000 in
theorem lifted (os : Os) (started : os.Started) (H : Type) (enc : TypeId × Value → H) (F : Stop.Interp) :
    ReturnsInHanded {} Tryz.checked os 5 .any ((Rows.OpenSpec.upto Rows.headErasesSpec).pre6 enc Tryz.prog Tryz.f5 Rows.headErasesUptoRow.domain false) (((Rows.OpenSpec.upto Rows.headErasesSpec).at F).post enc Tryz.prog Tryz.f5 false true false false) :=
  law_upto (C := Tryz.checked) (s := Rows.headErasesSpec) (tb := 4) own_prog started (by kernel_rfl) Tryz.func5
    (OpenSpec.witness (enc := enc) (C := Tryz.checked) (s := Rows.OpenSpec.upto Rows.headErasesSpec) (k := Rows.uptoSmall) rfl false ⟨#[], #[.slice none 0 0, .agg #[.int .i64 0, .int .i64 0], .slice none 0 0], []⟩ 8 (by kernel_rfl) (by kernel_rfl) (by kernel_rfl)
      (x := ([.nil, .agg [.lit (.int .i64 0), .lit (.int .i64 0)], .nil], [], [])) (by kernel_rfl) rfl (by kernel_rfl))
    laidOut (by kernel_rfl) rfl Tryz.underlying4 ⟨rfl, fun H ds h => match ds, h with | [_, _, _], _ => ⟨rfl, rfl, rfl⟩⟩ (headErases_walk enc)

end headErasesUpto
end Go.Proofs.YthncochjhbmceaaGreat
