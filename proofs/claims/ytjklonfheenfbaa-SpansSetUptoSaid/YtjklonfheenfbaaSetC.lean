/- SpansSet, one of the three ways through its first question. -/
import Derived.Test.YtjklonfheenfbaaSetBase
namespace Go.Proofs.Ytjklonfheenfbaa
set_option maxRecDepth 100000
open Go.RowKit Go.WideShapes Go.ChangeShapes Go.Shelf

set_option maxHeartbeats 6400000 in
theorem spansSet_C (A : Option Addr) (n c : Nat) (l : List Spn) (B : Option Addr) (m d : Nat) (k : List Spn) (t : Int) (w : World) (h : SpF w A n l) (h2 : SpF w B m k) (hn : n ≤ 1048576) (hm : m ≤ 1048576) (hA0 : hasP l t = true) :
    Calls Try.prog 6 #[.slice A n c, .slice B m d, .int .i64 t] w fun e w' => e = .returned (.bool true) ∧ Below w.heap.size w w' := by
  obtain ⟨i0, hi, hz0, hz1, hz2⟩ := info_parts ClnSpn.info
  have HA := hidden h
  have HA0 := hidden hA0
  clear hA0
  have HK := hidden h2
  clear h h2
  go_enter Try.func6, Try.ntmps6
  go_wp2_with fail
  refine (spnWakes_any _).mono ?_
  rintro e w1 ⟨rfl, hb1⟩
  have HB1 := hidden hb1
  have S1 := hidden (twinF c (HA.out.on hb1))
  clear hb1
  go_wp2_with fail
  refine S1.out.mono ?_
  rintro e w2 ⟨A2, c2, l2, rfl, h2, rfl, hb2⟩
  have HB2 := hidden (HB1.out.trans (hb2.mono HB1.out.size))
  have S2 := hidden (ofF c2 h2)
  clear h2 hb2 HB1 S1
  go_wp2_with fail
  refine S2.out.mono ?_
  rintro e w3 ⟨A3, c3, R, rfl, h3, hR, hb3⟩
  have HB3 := hidden (HB2.out.trans (hb3.mono HB2.out.size))
  have H3 := hidden h3
  have HR := hidden hR
  have S3 := hidden (TwnSpn.twin_any A n c l2 w3 (HA.out.on HB3.out).row (HA.out.fit))
  clear h3 hR hb3 HB2 S2
  go_wp2_with fail
  refine S3.out.mono ?_
  rintro e w4 ⟨v4, rfl, o4, hb4⟩
  have HB4 := hidden (HB3.out.trans (hb4.mono HB3.out.size))
  have hs4 := hb4.size
  have hrK := (HK.out.on HB4.out).row
  have hb4h := hidden hb4
  clear hb4 S3
  go_wp2_with (at_builtin; refine wpList_app _ rfl _ _ 30 rfl w3.heap.size 51 i0 _ 2 16 Try.underlying30 hi hz0 hz1 hz2 rfl (by decide) v4 n _ rfl o4 w4.heap.size B m d _ rfl hrK (ClnSpn.cells_one k) (by unfold maxLen; omega) (by omega) (by omega) ?_; intro v5 w5 o5 g5 _)
  rw [← List.flatMap_append] at o5
  obtain ⟨A5, c5, rfl, h5⟩ := spF_own o5 (by rw [List.length_append, HA.out.len, HK.out.len]) (by omega) (ok_app HA.out.ok HK.out.ok)
  have b35 := hb4h.out.grown g5 hs4 fun j hj => (o4.lt j hj).1
  have HB5 := hidden (HB3.out.trans (b35.mono HB3.out.size))
  have H3b := hidden (H3.out.on b35)
  have S4 := hidden (ofF c5 h5)
  clear o4 o5 g5 hs4 hrK H3 HB3 HB4 hb4h b35
  go_wp2_with fail
  refine S4.out.mono ?_
  rintro e w6 ⟨A6, c6, Rb, rfl, h6, hRb, hb6⟩
  have HB6 := hidden (HB5.out.trans (hb6.mono HB5.out.size))
  have H3c := hidden (H3b.out.on hb6)
  have H6 := hidden h6
  have HRb := hidden hRb
  have S5 := hidden (TwnSpn.twin_any B m d k w6 (HK.out.on HB6.out).row (HK.out.fit))
  clear h5 h6 hRb hb6 S4 HB5 H3b
  go_wp2_with fail
  refine S5.out.mono ?_
  rintro e w7 ⟨v7, rfl, o7, hb7⟩
  have HB7 := hidden (HB6.out.trans (hb7.mono HB6.out.size))
  have hs7 := hb7.size
  have hrK := (HK.out.on HB7.out).row
  have hb7h := hidden hb7
  clear hb7 S5
  have hbel := fun (w8 : World) (g8 : w7.grownBy w8 v7.ownBlock) => hb7h.out.grown g8 hs7 fun j hj => (o7.lt j hj).1
  have hrA := fun (w8 : World) (g8 : w7.grownBy w8 v7.ownBlock) => (HA.out.on (HB6.out.trans ((hbel w8 g8).mono HB6.out.size))).row
  have hsz8 := fun (w8 : World) (g8 : w7.grownBy w8 v7.ownBlock) => (hbel w8 g8).size
  go_wp2_with (at_builtin; first | (refine wpList_app _ rfl _ _ 30 rfl w6.heap.size 51 i0 _ 2 16 Try.underlying30 hi hz0 hz1 hz2 rfl (by decide) v7 m _ rfl o7 w7.heap.size B m d _ rfl hrK (ClnSpn.cells_one k) (by unfold maxLen; omega) (by omega) (by omega) ?_; intro v8 w8 o8 g8 _) | (refine wpList_app _ rfl _ _ 30 rfl w6.heap.size 51 i0 _ 2 16 Try.underlying30 hi hz0 hz1 hz2 rfl (by decide) v8 (m + m) _ rfl o8 _ A n c _ rfl (hrA w8 g8) (ClnSpn.cells_one l2) (by unfold maxLen; omega) (by omega) (hsz8 w8 g8) ?_; intro v9 w9 o9 g9 _))
  rw [← List.flatMap_append, ← List.flatMap_append] at o9
  obtain ⟨A9, c9, rfl, h9⟩ := spF_own o9 (by rw [List.length_append, List.length_append, HA.out.len, HK.out.len]) (by omega) (ok_app (ok_app HK.out.ok HK.out.ok) HA.out.ok)
  have b69 := (hbel w8 g8).grown g9 (hsz8 w8 g8) fun j hj => (o8.lt j hj).1
  have HB9 := hidden (HB6.out.trans (b69.mono HB6.out.size))
  have H3d := hidden (H3c.out.on b69)
  have H6b := hidden (H6.out.on b69)
  have S6 := hidden (ofF c9 h9)
  clear o7 o8 o9 g8 g9 hs7 hrK hb7h hbel hrA hsz8 b69 H3c H6 HB6 HB7
  go_wp2_with fail
  refine S6.out.mono ?_
  rintro e w10 ⟨A10, c10, Rt, rfl, h10, hRt, hb10⟩
  obtain rfl : Rt = Rb := hRt.uniq HRb.out fun q => by rw [hasP_app, hasP_app, hasP_app, Bool.or_self, Bool.or_comm]
  have HB10 := hidden (HB9.out.trans (hb10.mono HB9.out.size))
  have H3e := hidden (H3d.out.on hb10)
  have H6c := hidden (H6b.out.on hb10)
  have HT := hidden h10
  have hH1 := hRt.has t
  have hH2 := HR.out.has t
  rw [hasP_app, hasP_app] at hH1
  have S7 := hidden (hasF c6 H6c.out t)
  clear h9 h10 hRt hb10 S6 HB9 H3d H6b
  go_wp2_with fail
  refine S7.out.mono ?_
  rintro e w11 ⟨rfl, hb11⟩
  have HB11 := hidden (HB10.out.trans (hb11.mono HB10.out.size))
  have H3f := hidden (H3e.out.on hb11)
  have H6d := hidden (H6c.out.on hb11)
  have HTb := hidden (HT.out.on hb11)
  clear hb11 S7 HB10 H3e H6c HT
  rw [Bool.or_self] at hH1
  have SA := fun w (hb : Below w11.heap.size w11 w) => hasF c (HA.out.on (HB11.out.trans (hb.mono HB11.out.size))) t
  have SK := fun w (hb : Below w11.heap.size w11 w) => hasF d (HK.out.on (HB11.out.trans (hb.mono HB11.out.size))) t
  have SO := fun w (hb : Below w11.heap.size w11 w) => hasF c3 (H3f.out.on hb) t
  have SPA := hidden (rfl : hasP l2 t = hasP l2 t)
  rw [hH1]
  rw [hH2] at SO
  generalize hpa : hasP l2 t = pa at *
  generalize hpb : hasP k t = pb at *
  have HPA := hidden hpa
  have HPB := hidden hpb
  clear hpa hpb hH1 hH2 SPA
  obtain rfl : pa = true := HA0.out
  have S8 := hidden (SA w11 (Below.refl _ _))
  go_wp2_with fail
  refine S8.out.mono ?_
  rintro e w12 ⟨rfl, hb12⟩
  have B13 := hidden hb12
  clear S8 hb12
  have S10 := hidden (SO w12 B13.out)
  go_wp2_with fail
  refine S10.out.mono ?_
  rintro e w14 ⟨rfl, hb14⟩
  have B14 := hidden (B13.out.trans (hb14.mono B13.out.size))
  have S11 := hidden (SA w14 B14.out)
  clear S10 hb14
  go_wp2_with fail
  refine S11.out.mono ?_
  rintro e w15 ⟨rfl, hb15⟩
  have B15 := hidden (B14.out.trans (hb15.mono B14.out.size))
  clear S11 hb15 SA SK SO
  have HB15 := hidden (HB11.out.trans (B15.out.mono HB11.out.size))
  have H3g := hidden (H3f.out.on B15.out)
  have H6e := hidden (H6d.out.on B15.out)
  have HTc := hidden (HTb.out.on B15.out)
  clear H3f H6d HTb B13 B14 B15 HB11
  have S12 := hidden (refSF c6 H6e.out)
  go_wp2_with fail
  refine S12.out.mono ?_
  rintro e w16 ⟨A16, c16, l16, rfl, h16, rfl, hb16⟩
  have HB16 := hidden (HB15.out.trans (hb16.mono HB15.out.size))
  have H3h := hidden (H3g.out.on hb16)
  have H6f := hidden (H6e.out.on hb16)
  have S13 := hidden (TwnSpn.alike_yes A10 A16 _ c10 c16 _ w16 (HTc.out.on hb16).row h16.row h16.len (by have := h16.fit; omega))
  clear h16 hb16 S12 H3g H6e HTc HB15
  go_wp2_with fail
  refine S13.out.mono ?_
  rintro e w17 ⟨rfl, m17, rfl⟩
  have b17 : Below w16.heap.size w16 (w16.drewN m17) := below_drewN (Below.refl _ _) m17
  have HB17 := hidden (HB16.out.trans (b17.mono HB16.out.size))
  have H3i := hidden (H3h.out.on b17)
  have H6g := hidden (H6f.out.on b17)
  generalize w16.drewN m17 = w17 at *
  have S14 := hidden (ofF c3 H3i.out)
  clear b17 H3h H6f HB16 S13
  go_wp2_with fail
  refine S14.out.mono ?_
  rintro e w18 ⟨A18, c18, R18, rfl, h18, hR18, hb18⟩
  obtain rfl : R18 = R := hR18.uniq (OfRes.self HR.out.one) fun _ => rfl
  have HB18 := hidden (HB17.out.trans (hb18.mono HB17.out.size))
  have H3j := hidden (H3i.out.on hb18)
  have H6h := hidden (H6g.out.on hb18)
  have H18 := hidden h18
  have S15 := hidden (refSF c3 H3j.out)
  clear h18 hb18 hR18 S14 H3i H6g HB17
  go_wp2_with fail
  refine S15.out.mono ?_
  rintro e w19 ⟨A19, c19, l19, rfl, h19, rfl, hb19⟩
  have HB19 := hidden (HB18.out.trans (hb19.mono HB18.out.size))
  have H3k := hidden (H3j.out.on hb19)
  have H6i := hidden (H6h.out.on hb19)
  have S16 := hidden (TwnSpn.alike_yes A18 A19 _ c18 c19 _ w19 (H18.out.on hb19).row h19.row h19.len (by have := h19.fit; omega))
  clear h19 hb19 S15 H3j H6h H18 HB18
  go_wp2_with fail
  refine S16.out.mono ?_
  rintro e w20 ⟨rfl, m20, rfl⟩
  have b20 : Below w19.heap.size w19 (w19.drewN m20) := below_drewN (Below.refl _ _) m20
  have HB20 := hidden (HB19.out.trans (b20.mono HB19.out.size))
  have H3l := hidden (H3k.out.on b20)
  have H6j := hidden (H6i.out.on b20)
  generalize w19.drewN m20 = w20 at *
  clear b20 H3k H6i HB19 S16
  go_wp2_with fail
  have HBase := hidden HB20.out.size
  go_loopw [69] (fun i wr => ∃ q : Nat, q ≤ m ∧ i = .int .i64 q ∧ Below w20.heap.size w20 wr) (fun i _ => m - (intOf i).toNat)
  case atStart => exact ⟨0, Nat.zero_le _, rfl, Below.refl _ _⟩
  case round =>
    obtain ⟨q, hq, rfl, hb⟩ := hrel
    have HBr := hidden (HB20.out.trans (hb.mono HB20.out.size))
    by_cases hlt : q < m
    · obtain ⟨gs, o, x, rfl, _, hx, hcl⟩ := row_at spnK ((HK.out.on HBr.out).row) HK.out.len q hlt
      have c0 : wr.cell? ⟨gs, o + q * 2, none⟩ = some (.int .i64 x.frm) := hcl 0 (by omega)
      have c1 : wr.cell? ⟨gs, o + q * 2 + 1, none⟩ = some (.int .i64 x.til) := hcl 1 (by omega)
      have hxm := List.mem_of_getElem? hx
      have hxo := HK.out.ok x hxm
      have hcv := hidden (set_covers HRb.out hxm)
      have k0 : (0 : Int) ≤ (q : Int) := by omega
      have k1 : (q : Int) < (m : Int) := by omega
      clear hx hcl
      go_wp2_with fail
      have hbA := hb.alloc hb.size (.cells #[.int .i64 x.frm, .int .i64 x.til] 51)
      have X1 := Whole1.new wr 51 #[.int .i64 x.frm, .int .i64 x.til]
      generalize wr.alloc (.cells #[.int .i64 x.frm, .int .i64 x.til] 51) = wa at hbA X1 ⊢
      obtain ⟨X, hX⟩ : ∃ X, wr.heap.size = X := ⟨_, rfl⟩
      rw [hX] at X1 ⊢
      have hXl := X1.lt
      have e0 := X1.cell 0
      have e1 := X1.cell 1
      have HBa := hidden (HB20.out.trans (hbA.mono HBase.out))
      have S21 := hidden (clipF c (HA.out.on HBa.out) x.frm x.til ⟨hxo.1, hxo.2.1⟩ ⟨hxo.2.2.1, hxo.2.2.2⟩)
      clear X1 hX c0 c1 hb HBr
      refine S21.out.mono ?_
      rintro e w21 ⟨A21, c21, C, rfl, h21, ⟨R', hR', hC⟩, hb21⟩
      have hCt := set_clip hR' x t
      rw [← hC, HPA.out] at hCt
      have f0 := (hb21.cell (p := ⟨X, 0, none⟩) hXl).trans e0
      have f1 := (hb21.cell (p := ⟨X, 1, none⟩) hXl).trans e1
      have hXl2 : X < w21.heap.size := Nat.lt_of_lt_of_le hXl hb21.size
      have hb2 := hbA.trans (hb21.mono hbA.size)
      have H21 := hidden h21
      clear hR' hC hb21 h21 hbA HBa S21 e0 e1 hXl
      simp only [inSpn] at hCt
      by_cases h1 : x.frm ≤ t <;> by_cases h2 : t ≤ x.til <;> simp [h1, h2] at hCt
      all_goals (
        have S22 := hidden (hasF c21 H21.out t)
        rw [hCt] at S22
        go_wp2_with fail
        refine S22.out.mono ?_
        rintro e w22 ⟨rfl, hb22⟩
        have g0 := (hb22.cell (p := ⟨X, 0, none⟩) hXl2).trans f0
        have g1 := (hb22.cell (p := ⟨X, 1, none⟩) hXl2).trans f1
        have hXl3 : X < w22.heap.size := Nat.lt_of_lt_of_le hXl2 hb22.size
        have hb3 := hb2.trans (hb22.mono hb2.size)
        have HB3' := hidden (HB20.out.trans (hb3.mono HBase.out))
        have S23 := hidden (hasF c (HA.out.on HB3'.out) t)
        rw [HPA.out] at S23
        clear hb2 hb22 f0 f1 hXl2 S22 H21 hCt HB3'
        go_wp2_with fail
        refine S23.out.mono ?_
        rintro e w23 ⟨rfl, hb23⟩
        have f0 := (hb23.cell (p := ⟨X, 0, none⟩) hXl3).trans g0
        have f1 := (hb23.cell (p := ⟨X, 1, none⟩) hXl3).trans g1
        have hb4 := hb3.trans (hb23.mono hb3.size)
        have S24 := hidden (coversF c6 (H6j.out.on hb4) x.frm x.til)
        clear hb3 hb23 g0 g1 hXl3 S23
        go_wp2_with fail
        refine S24.out.mono ?_
        rintro e w24 ⟨⟨R24, rfl, hR24⟩, hb24⟩
        obtain rfl := hR24.uniq (OfRes.self HRb.out.one) fun _ => rfl
        have hb5 := hb4.trans (hb24.mono hb4.size)
        clear hb4 hb24 f0 f1 S24 hR24
        rw [hcv.out]
        go_wp2_with fail
        go_roundw
        case rel => exact ⟨q + 1, by omega, by go_num, hb5⟩
        case measure => simp [intOf]; omega)
    · have k2 : ¬ (q : Int) < (m : Int) := by omega
      go_wp2_with fail
      have HBr2 := HBr.out
      have H3m := hidden (H3l.out.on hb)
      have HRr := HR.out.one
      clear HBr hb HB20 H3l
      generalize wr = wo at *
      go_loopw [109] (fun i wz => ∃ z : Nat, z ≤ l19.length ∧ i = .int .i64 z ∧ Below wo.heap.size wo wz) (fun i _ => l19.length - (intOf i).toNat)
      case atStart => exact ⟨0, Nat.zero_le _, rfl, Below.refl _ _⟩
      case round =>
        obtain ⟨z, hz, rfl, hb⟩ := hrel
        by_cases hlt2 : z < l19.length
        · obtain ⟨gs, o, x, rfl, _, hx, hcl⟩ := row_at spnK ((H3m.out.on hb).row) rfl z hlt2
          have c0 : wr.cell? ⟨gs, o + z * 2, none⟩ = some (.int .i64 x.frm) := hcl 0 (by omega)
          have c1 : wr.cell? ⟨gs, o + z * 2 + 1, none⟩ = some (.int .i64 x.til) := hcl 1 (by omega)
          have hxm := List.mem_of_getElem? hx
          have hxf := HRr.full x hxm
          have hxo := (H3m.out.ok x hxm)
          have hxn : ¬ x.til < x.frm := by omega
          have k0 : (0 : Int) ≤ (z : Int) := by omega
          have k1 : (z : Int) < (l19.length : Int) := by omega
          have hbs := hb.size
          clear hcl
          go_upto_region 17 with (fail)
          have hbA := hb.alloc hbs (.cells #[.int .i64 x.frm, .int .i64 x.til] 51)
          have X1 := Whole1.new wr 51 #[.int .i64 x.frm, .int .i64 x.til]
          generalize wr.alloc (.cells #[.int .i64 x.frm, .int .i64 x.til] 51) = wa at hbA X1 ⊢
          obtain ⟨X, hX⟩ : ∃ X, wr.heap.size = X := ⟨_, rfl⟩
          rw [hX] at X1 ⊢
          have e0 := X1.cell 0
          have e1 := X1.cell 1
          clear X1 hX c0 c1
          by_cases hz0 : z = 0
          · subst hz0
            clear hx hb hbs
            have g0 : decide (x.til < x.frm) = false := by simpa using hxf
            go_quiet (fail)
            go_wp2_with fail
            go_roundw
            case rel => exact ⟨0 + 1, by omega, by go_num, below_drewN hbA _⟩
            case measure => simp [intOf]; omega
          · obtain ⟨p, rfl⟩ : ∃ p, z = p + 1 := ⟨z - 1, by omega⟩
            obtain ⟨gs2, o2, y, he, _, hy, hdl⟩ := row_at spnK ((H3m.out.on hbA).row) rfl p (by omega)
            simp only [Option.some.injEq, Addr.mk.injEq, and_true] at he
            obtain ⟨rfl, rfl⟩ := he
            have d0 : wa.cell? ⟨gs, o + p * 2, none⟩ = some (.int .i64 y.frm) := hdl 0 (by omega)
            have d1 : wa.cell? ⟨gs, o + p * 2 + 1, none⟩ = some (.int .i64 y.til) := hdl 1 (by omega)
            have hgap := oneS_gap HRr hy hx
            have hyo := (H3m.out.ok y (List.mem_of_getElem? hy))
            have q1 : ¬ x.frm ≤ y.til := by omega
            have q2 : ¬ x.frm - 1 ≤ y.til := by omega
            have q3 : (0 : Int) < ((p + 1 : Nat) : Int) := by omega
            have q4 : (p : Int) < (l19.length : Int) := by omega
            have q5 : (0 : Int) ≤ (p : Int) := by omega
            have q6 : (((p + 1 : Nat) : Int)) - 1 = (p : Int) := by omega
            have q7 := w64s (a := x.frm - 1) (by have := hxo.2.1; have := hyo.2.2.1; omega) (by have := hxo.2.1; omega)
            clear hx hy hdl hb hbs
            have g0 : decide (x.til < x.frm) = false := by simpa using hxf
            have g1 : decide (x.frm ≤ y.til) = false := by simpa using q1
            have g2 : decide (x.frm - 1 ≤ y.til) = false := by simpa using q2
            obtain ⟨q8, q9, d2, d3⟩ := set_prev (lt_of_fit (H3m.out.fit) hlt2) q4 d0 d1
            have q10 := set_dec q7 g2
            clear k0 q4
            have q11 := hidden (w64s (a := (p : Int) + 1 + 1) (by omega) (by have := lt_of_fit (H3m.out.fit) hlt2; omega))
            clear hgap hxo hyo
            go_quiet (fail)
            go_wp2_with fail
            go_roundw
            case rel => exact ⟨p + 1 + 1, by omega, by rw [q11.out]; go_num, below_drewN hbA _⟩
            case measure => exact set_meas q11.out hlt2
        · have k3 : ¬ (z : Int) < (l19.length : Int) := by omega
          go_wp2_with fail
          go_ret
          exact ⟨rfl, HBr2.trans (hb.mono HBr2.size)⟩
end Go.Proofs.Ytjklonfheenfbaa
