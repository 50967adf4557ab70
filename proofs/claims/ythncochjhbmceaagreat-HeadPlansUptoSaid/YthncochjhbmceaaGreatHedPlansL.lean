/- HeadPlans, walked: a batch that is planned and applied is in the head. Condition: the arguments are of bulk within the limit. -/
import Derived.Test.YthncochjhbmceaaGreatHedWak
import Derived.Test.YthncochjhbmceaaGreatOpE18
namespace Go.Proofs.YthncochjhbmceaaGreat
set_option maxRecDepth 100000
open Go.RowKit Go.WideShapes Go.ChangeShapes

/-- how many entries the first k calls bring -/
def usedN (os : List OpR) (k : Nat) : Nat := ((os.take k).map fun o => o.bat.n).sum
theorem usedN_snoc {os : List OpR} {k : Nat} {o : OpR} (h : os[k]? = some o) : usedN os (k + 1) = usedN os k + o.bat.n := by
  unfold usedN
  rw [take_snoc? h]
  simp
theorem usedN_le (os : List OpR) (k : Nat) : usedN os k ≤ (os.map fun o => o.bat.n).sum := by
  have h : (os.map fun o => o.bat.n).sum = usedN os k + ((os.drop k).map fun o => o.bat.n).sum := by
    unfold usedN
    rw [← List.sum_append, ← List.map_append, List.take_append_drop]
  omega
/-- a head that plans made of so many entries -/
structure MadeH (w : World) (base h : Nat) (E : List (List Lbl)) (X : List HsR) (c : Nat) : Prop where
  hed : Hed w base h E X
  inv : HInv (X.map HsR.p)
  few : E.length ≤ c
  cnt : cntP (X.map HsR.p) ≤ c
theorem MadeH.below {w w' : World} {base h c : Nat} {E : List (List Lbl)} {X : List HsR} (k : MadeH w base h E X c) (hb : Below w.heap.size w w') : MadeH w' base h E X c := ⟨k.hed.below hb, k.inv, k.few, k.cnt⟩
theorem MadeH.more {w : World} {base h c c' : Nat} {E : List (List Lbl)} {X : List HsR} (k : MadeH w base h E X c) (hc : c ≤ c') : MadeH w base h E X c' := ⟨k.hed, k.inv, Nat.le_trans k.few hc, Nat.le_trans k.cnt hc⟩
/-- a plan over a head that plans made -/
theorem MadeH.plan {w : World} {base h c : Nat} {E : List (List Lbl)} {X : List HsR} (k : MadeH w base h E X c) (xs : List EntR) : PlanI (T0 E X) (xs.map EntR.p) (planB (T0 E X) (xs.map EntR.p)) := by
  obtain ⟨_, _, hb⟩ := k.hed
  have h1 : (T0 E X).map (·.1) = E := by unfold T0; exact List.map_fst_zip (by rw [List.length_map, hb.len]; exact Nat.le_refl _)
  exact planI (by rw [h1]; exact hb.idx.valid.2) _
theorem MadeH.tk {w : World} {base h c : Nat} {E : List (List Lbl)} {X : List HsR} (k : MadeH w base h E X c) {xs : List EntR} (hx : ∀ x ∈ xs, x.v < 18446744073709551616) : TookP E (X.map HsR.p) (xs.map EntR.p) (planB (T0 E X) (xs.map EntR.p)) := by
  obtain ⟨_, _, hb⟩ := k.hed
  have := Go.Proofs.YthncochjhbmceaaGreat.took (E := E) (S := X.map HsR.p) k.inv (by rw [List.length_map]; exact hb.len) hb.idx.valid.2 (xs.map EntR.p) (fun x hx2 => by obtain ⟨y, hy, rfl⟩ := List.mem_map.1 hx2; exact hx y hy)
  rw [← t0_of] at this
  exact this
/-- what a plan that took effect made -/
theorem MadeH.applied {w w' : World} {base h c n : Nat} {E : List (List Lbl)} {X X' : List HsR} (k : MadeH w base h E X c) {xs : List EntR} (hx : ∀ x ∈ xs, x.v < 18446744073709551616) (hn : xs.length = n)
    (hh : Hed w' base h (E ++ (planB (T0 E X) (xs.map EntR.p)).N) X') (hp : X'.map HsR.p = afterS (X.map HsR.p) (planB (T0 E X) (xs.map EntR.p))) : MadeH w' base h (E ++ (planB (T0 E X) (xs.map EntR.p)).N) X' (c + n) := by
  have ht := k.tk hx
  have I := k.plan xs
  have h1 := I.few
  have h2 := plan_few I
  rw [List.length_map, hn] at h2
  refine ⟨hh, by rw [hp]; exact ht.inv, ?_, ?_⟩
  · rw [List.length_append]; have := k.few; omega
  · rw [hp, ht.cnt]; have := k.cnt; omega
set_option maxHeartbeats 12800000 in
theorem headPlans_any (A B : Option Addr) (N C n c : Nat) (os : List OpR) (xs : List EntR) (w : World) (ho : OpsF w A N os) (hx : EntF w B n xs) (hs : (os.map fun o => o.bat.n).sum + n ≤ 1048576) :
    Calls Tryz.prog 3 #[.slice A N C, .slice B n c] w fun e w' => e = .returned (.bool true) ∧ Below w.heap.size w w' := by
  have HO := hidden ho
  have HX := hidden hx
  have HS := hidden hs
  have hN := ho.few
  have hn := hx.few
  clear ho hx hs
  go_enter Tryz.func3, Tryz.ntmps3
  go_wp2_with fail
  refine (wakes18_any _).mono ?_
  rintro e w1 ⟨rfl, b1⟩
  have HB1 := hidden b1
  have S1 := hidden (hed_new w1 (base := w.heap.size) b1.size)
  clear b1
  go_wp2_with fail
  refine S1.out.mono ?_
  rintro e w2 ⟨h, rfl, hh, b2⟩
  have HM2 := hidden (show MadeH w2 w.heap.size h [] [] 0 from ⟨hh, HInv.nil, Nat.le_refl _, Nat.le_refl _⟩)
  have HB2 := hidden (HB1.out.trans (b2.mono HB1.out.size))
  clear S1 hh b2 HB1
  go_wp2_with fail
  go_loopw [24] (fun vi wr => ∃ (k : Nat) (E : List (List Lbl)) (X : List HsR), vi = .int .i64 (k : Int) ∧ k ≤ N ∧ Hid (MadeH wr w.heap.size h E X (usedN os k)) ∧ Hid (Below w.heap.size w wr)) (fun vi _ => N - (intOf vi).toNat)
  case atStart => exact ⟨0, [], [], rfl, Nat.zero_le _, HM2, HB2⟩
  case round =>
    obtain ⟨k, E, X, rfl, hk, hm, hb⟩ := hrel
    have k0 : (0 : Int) ≤ (k : Int) := by omega
    by_cases hlt : k < N
    · have k1 : (k : Int) < (N : Int) := by omega
      have fwk : IntKind.i64.wrap ((k : Int) + 1) = (k : Int) + 1 := Go.IntWalk.i64_in _ (by omega)
      have HLT := hidden (show k + 1 ≤ N from hlt)
      have hoo := HO.out.on hb.out
      obtain ⟨g, o, x, rfl, hg, hox, hc⟩ := row_at (enc := OpR.cells) (k := 14) (fun _ => rfl) hoo.row hoo.len k hlt
      have hen := hoo.ent x (List.mem_of_getElem? hox)
      have hus := usedN_snoc hox
      have hul := usedN_le os (k + 1)
      have c0 := hc 0 (by omega)
      have c1 := hc 1 (by omega)
      have c2 := hc 2 (by omega)
      have c3 := hc 3 (by omega)
      have c4 := hc 4 (by omega)
      have c5 := hc 5 (by omega)
      have c6 := hc 6 (by omega)
      have c7 := hc 7 (by omega)
      have c8 := hc 8 (by omega)
      have c9 := hc 9 (by omega)
      have c10 := hc 10 (by omega)
      have c11 := hc 11 (by omega)
      have c12 := hc 12 (by omega)
      have c13 := hc 13 (by omega)
      obtain ⟨kind, ⟨bA, bn, bc, bl⟩, ⟨A2, n2, e2⟩, ⟨A3, n3, e3⟩, ⟨A4, n4, e4⟩, i5, i6, i7, i8, i9, i10, i11, i12, ⟨A13, n13, e13⟩⟩ := x
      simp only [OpR.cells, Sl.val, SlV.val, List.getElem?_cons_zero, List.getElem?_cons_succ, Nat.add_zero] at c0 c1 c2 c3 c4 c5 c6 c7 c8 c9 c10 c11 c12 c13 hen hus
      have hb1 : Below wr.heap.size wr (wr.alloc (.cells #[.int .i64 kind, .slice bA bn bc, .slice A2 n2 e2, .slice A3 n3 e3, .slice A4 n4 e4, .int .i64 i5, .int .i64 i6, .int .i64 i7, .int .i64 i8, .int .i64 i9, .int .i64 i10, .int .i64 i11, .int .i64 i12, .slice A13 n13 e13] 37)) := (Below.refl _ _).alloc (Nat.le_refl _) _
      have hw1 := Whole1.new wr 37 #[.int .i64 kind, .slice bA bn bc, .slice A2 n2 e2, .slice A3 n3 e3, .slice A4 n4 e4, .int .i64 i5, .int .i64 i6, .int .i64 i7, .int .i64 i8, .int .i64 i9, .int .i64 i10, .int .i64 i11, .int .i64 i12, .slice A13 n13 e13]
      obtain ⟨w4, hw4⟩ : ∃ w4, wr.alloc (.cells #[.int .i64 kind, .slice bA bn bc, .slice A2 n2 e2, .slice A3 n3 e3, .slice A4 n4 e4, .int .i64 i5, .int .i64 i6, .int .i64 i7, .int .i64 i8, .int .i64 i9, .int .i64 i10, .int .i64 i11, .int .i64 i12, .slice A13 n13 e13] 37) = w4 := ⟨_, rfl⟩
      obtain ⟨Y, hY⟩ : ∃ Y, wr.heap.size = Y := ⟨_, rfl⟩
      rw [hw4] at hb1 hw1
      rw [hY] at hw1
      have HM4 := hidden (hm.out.below hb1)
      have HB4 := hidden (hb.out.trans (hb1.mono hb.out.size))
      have HEN := hidden (hen.on hb1)
      have HUS := hidden hus
      have HSS := hidden (show usedN os k + bn + n ≤ 1048576 by have := HS.out; omega)
      have d0 := hw1.cell 0
      have d1 := hw1.cell 1
      clear hoo hox hc hen hus hul hb1 hw1 hm hb hg
      go_upto_region 7 with (fail)
      clear c0 c1 c2 c3 c4 c5 c6 c7 c8 c9 c10 c11 c12 c13 hw4 hY
      by_cases hkind : kind = 1
      · subst hkind
        have S2 := hidden (hed_plan bA bn bc bl w4 HM4.out.hed HEN.out (by have := HM4.out.few; have := HSS.out; omega))
        have HI := hidden (HM4.out.plan bl)
        have htk := fun (w' : World) (X' : List HsR) => HM4.out.applied (w' := w') (X' := X') (xs := bl) (n := bn) (fun x hx => (HEN.out.ok x hx).2.2) HEN.out.len
        obtain ⟨s, hs⟩ : ∃ s, planB (T0 E X) (bl.map EntR.p) = s := ⟨_, rfl⟩
        rw [hs] at S2 HI htk
        have HTK := hidden htk
        clear hs htk
        go_wp2_with fail
        refine S2.out.mono ?_
        rintro e w5 ⟨nv, pv, vv, L, rfl, hnw, hpt, hvr, b5⟩
        obtain ⟨r, hrv, hr⟩ := planRec (w0 := w4) (X := X) (xs := bl) hnw hpt HI.out (by obtain ⟨_, _, kk⟩ := HM4.out.hed; exact kk.len) (by have := HM4.out.few; have := HSS.out; have := HEN.out.len; omega) (fun x hx => (HEN.out.ok x hx).2.2)
        obtain ⟨⟨nA, nn, nc, nl⟩, ⟨pA, pn, pc, pl⟩, ⟨gA, gn, gc, gl⟩⟩ := r
        simp only [RecR.val, Sl.val, Value.agg.injEq, Array.mk.injEq, List.cons.injEq, and_true] at hrv
        obtain ⟨rfl, rfl, hgv⟩ := hrv
        simp only [Value.slice.injEq] at hgv
        obtain ⟨rfl, rfl, rfl⟩ := hgv
        have b6 : Below w5.heap.size w5 (w5.alloc (.cells #[.slice nA nn nc, .slice pA pn pc, .slice none 0 0] 31)) := (Below.refl _ _).alloc (Nat.le_refl _) _
        have hw6 := Whole1.new w5 31 #[.slice nA nn nc, .slice pA pn pc, .slice none 0 0]
        obtain ⟨w6, hw6e⟩ : ∃ w6, w5.alloc (.cells #[.slice nA nn nc, .slice pA pn pc, .slice none 0 0] 31) = w6 := ⟨_, rfl⟩
        obtain ⟨Z, hZ⟩ : ∃ Z, w5.heap.size = Z := ⟨_, rfl⟩
        rw [hw6e] at b6 hw6
        rw [hZ] at hw6
        have b46 := b5.trans (b6.mono b5.size)
        have HB6 := hidden (HB4.out.trans (b46.mono HB4.out.size))
        have S3 := hidden (apply_plan w6 (HM4.out.hed.below b46) HB6.out.size (s := s) _ (hr.turn (Turn.of_below b6 0 [] false) (by simp) (by simp) (by simp) (by simp)) HI.out (by have := HM4.out.few; have := HSS.out; have := HEN.out.len; omega) (by have := HM4.out.cnt; have := HSS.out; have := HEN.out.len; omega))
        simp only [RecR.val, Sl.val] at S3
        have r0 := hw6.cell 0
        have r1 := hw6.cell 1
        have r2 := hw6.cell 2
        have HW6 := hidden hw6e
        have HZ := hidden hZ
        clear S2 hnw hpt hvr b5 hr b6 hw6 hw6e hZ b46 d0 d1
        go_upto_region 9 with (fail)
        rw [HW6.out, HZ.out]
        go_wp2_with fail
        refine S3.out.mono ?_
        rintro e w7 ⟨X7, rfl, hh7, hp7, t7⟩
        have HM7 := hidden (HTK.out w7 X7 hh7 hp7)
        have HB7 := hidden (HB6.out.trans (t7.below (Nat.le_refl _) HB6.out.size))
        clear S3 hh7 hp7 t7 r0 r1 r2
        go_wp2_with fail
        go_roundw
        case rel => exact ⟨k + 1, _, X7, by go_num, HLT.out, hidden (by rw [HUS.out]; exact HM7.out), HB7⟩
        case measure => have := HLT.out; simp [intOf]; omega
      · have hkb : (kind == 1) = false := by simpa using hkind
        go_wp2_with fail
        go_roundw
        case rel => exact ⟨k + 1, E, X, by go_num, HLT.out, hidden (HM4.out.more (by rw [HUS.out]; omega)), HB4⟩
        case measure => have := HLT.out; simp [intOf]; omega
    · obtain rfl : N = k := by omega
      have hul := usedN_le os N
      have HM := hidden (hm.out.more hul)
      have HB := hidden hb.out
      obtain ⟨u, hu⟩ : ∃ u, (os.map fun o => o.bat.n).sum = u := ⟨_, rfl⟩
      rw [hu] at HM
      have hs := HS.out
      rw [hu] at hs
      have HUN := hidden hs
      have S4 := hidden (total_any wr HM.out.hed HB.out.size HM.out.inv (by have := HM.out.cnt; omega) (by have := HM.out.few; omega))
      have HXX := hidden (HX.out.on HB.out)
      clear hul hm hb hu hs hN
      go_wp2_with fail
      refine S4.out.mono ?_
      rintro e w3 ⟨rfl, b3⟩
      have HM3 := hidden (HM.out.below b3)
      have HB3 := hidden (HB.out.trans (b3.mono HB.out.size))
      have HX3 := hidden (HXX.out.on b3)
      have S5 := hidden (hed_plan B n c xs w3 HM3.out.hed HX3.out (by have := HM3.out.few; have := HUN.out; omega))
      have HI := hidden (HM3.out.plan xs)
      have HTK := hidden (HM3.out.tk (xs := xs) (fun x hx => (HX3.out.ok x hx).2.2))
      have htk := fun (w' : World) (X' : List HsR) => HM3.out.applied (w' := w') (X' := X') (xs := xs) (n := n) (fun x hx => (HX3.out.ok x hx).2.2) HX3.out.len
      obtain ⟨s, hs⟩ : ∃ s, planB (T0 E X) (xs.map EntR.p) = s := ⟨_, rfl⟩
      rw [hs] at S5 HI HTK htk
      have HAP := hidden htk
      obtain ⟨M0, hM0⟩ : ∃ M0, cntP (X.map HsR.p) = M0 := ⟨_, rfl⟩
      rw [hM0]
      have HM0 := hidden hM0
      have HM0u := hidden (show M0 ≤ u by rw [← hM0]; exact HM3.out.cnt)
      clear S4 b3 HM HXX hs htk hM0
      go_wp2_with fail
      refine S5.out.mono ?_
      rintro e w4 ⟨nv, pv, vv, L, rfl, hnw, hpt, hvr, b4⟩
      obtain ⟨r, hrv, hr⟩ := planRec (w0 := w3) (X := X) (xs := xs) hnw hpt HI.out (by obtain ⟨_, _, kk⟩ := HM3.out.hed; exact kk.len) (by have := HM3.out.few; have := HUN.out; have := HX3.out.len; omega) (fun x hx => (HX3.out.ok x hx).2.2)
      obtain ⟨⟨nA, nn, nc, nl⟩, ⟨pA, pn, pc, pl⟩, ⟨gA, gn, gc, gl⟩⟩ := r
      simp only [RecR.val, Sl.val, Value.agg.injEq, Array.mk.injEq, List.cons.injEq, and_true] at hrv
      obtain ⟨rfl, rfl, hgv⟩ := hrv
      simp only [Value.slice.injEq] at hgv
      obtain ⟨rfl, rfl, rfl⟩ := hgv
      have hVl : s.V.length = n := by have := HI.out.len; rw [List.length_map, HX3.out.len] at this; exact this
      obtain ⟨Av, cv, rfl, _, hvrow⟩ := own_shape hvr
      rw [hVl] at hvrow ⊢
      have b6 : Below w4.heap.size w4 (w4.alloc (.cells #[.slice nA nn nc, .slice pA pn pc, .slice none 0 0] 31)) := (Below.refl _ _).alloc (Nat.le_refl _) _
      have hw6 := Whole1.new w4 31 #[.slice nA nn nc, .slice pA pn pc, .slice none 0 0]
      obtain ⟨w6, hw6e⟩ : ∃ w6, w4.alloc (.cells #[.slice nA nn nc, .slice pA pn pc, .slice none 0 0] 31) = w6 := ⟨_, rfl⟩
      obtain ⟨Z, hZ⟩ : ∃ Z, w4.heap.size = Z := ⟨_, rfl⟩
      rw [hw6e] at b6 hw6
      rw [hZ] at hw6
      have b46 := b4.trans (b6.mono b4.size)
      have HB6 := hidden (HB3.out.trans (b46.mono HB3.out.size))
      have HM6 := hidden (HM3.out.below b46)
      have HR6 := hidden (hr.turn (Turn.of_below b6 0 [] false) (by simp) (by simp) (by simp) (by simp))
      have HV6 := hidden ((hvrow.below b6).more b6.size)
      have HZ6 := hidden hw6
      have HX6 := hidden (HX3.out.on b46)
      have HW6 := hidden hw6e
      have HZ := hidden hZ
      have HVL := hidden hVl
      clear S5 hnw hpt hvr b4 hr b6 hw6 hw6e hZ b46 hvrow hVl HM3 HB3 HX3
      go_upto_region 13 with (fail)
      rw [HW6.out, HZ.out]
      go_wp2_with fail
      go_loopw [13, 52] (fun vt vi wz => ∃ k : Nat, vi = .int .i64 (k : Int) ∧ k ≤ n ∧ vt = .int .i64 (((s.V.take k).countP (· == 0) : Nat) : Int) ∧ wz = w6) (fun _ vi _ => n - (intOf vi).toNat)
      case atStart => exact ⟨0, rfl, Nat.zero_le _, rfl, rfl⟩
      case round =>
        obtain ⟨k, rfl, hk, rfl, rfl⟩ := hrel
        have k0 : (0 : Int) ≤ (k : Int) := by omega
        by_cases hlt : k < n
        · have k1 : (k : Int) < (n : Int) := by omega
          have fwk : IntKind.i64.wrap ((k : Int) + 1) = (k : Int) + 1 := Go.IntWalk.i64_in _ (by omega)
          obtain ⟨gv, ov, hAv, _, hvc⟩ := ints_at HV6.out (by omega)
          subst hAv
          obtain ⟨vk, hvk⟩ : ∃ v, s.V[k]? = some v := ⟨_, List.getElem?_eq_getElem (by rw [HVL.out]; exact hlt)⟩
          have ck := hvc k (by rw [HVL.out]; exact hlt)
          rw [List.getD_eq_getElem?_getD, hvk, Option.getD_some] at ck
          have hct : (s.V.take (k + 1)).countP (· == 0) = (s.V.take k).countP (· == 0) + if vk == 0 then 1 else 0 := by
            rw [take_snoc? hvk, List.countP_append, List.countP_singleton]
          have hcl : (s.V.take k).countP (· == 0) ≤ k := Nat.le_trans List.countP_le_length (by rw [List.length_take]; omega)
          obtain ⟨q, hq⟩ : ∃ q, (s.V.take k).countP (· == 0) = q := ⟨_, rfl⟩
          rw [hq] at hct hcl ⊢
          have fwq : IntKind.i64.wrap ((q : Int) + 1) = (q : Int) + 1 := Go.IntWalk.i64_in _ (by omega)
          have HCT := hidden hct
          clear hvc hvk hct hq
          by_cases hv0 : vk = 0
          · subst hv0
            go_wp2_with fail
            refine ⟨⟨k + 1, by simp, hlt, by rw [HCT.out]; simp, trivial⟩, ?_⟩
            simp only [intOf]; omega
          · have hvb : (vk == 0) = false := by simpa using hv0
            go_wp2_with fail
            refine ⟨⟨k + 1, by simp, hlt, by rw [HCT.out, hvb]; simp, trivial⟩, ?_⟩
            simp only [intOf]; omega
        · obtain rfl : n = k := by omega
          have hct : (s.V.take n).countP (· == 0) = s.P.length := by rw [List.take_of_length_le (by rw [HVL.out]; exact Nat.le_refl _)]; exact HI.out.count
          have hPn : s.P.length ≤ n := by have := plan_few HI.out; rw [List.length_map, HX6.out.len] at this; exact this
          rw [hct]
          obtain ⟨q, hq⟩ : ∃ q, s.P.length = q := ⟨_, rfl⟩
          rw [hq] at hPn ⊢
          have HQ := hidden hq
          have hUN := HUN.out
          have hM0u := HM0u.out
          have S6 := total_any wr HM6.out.hed HB6.out.size HM6.out.inv (by rw [HM0.out]; omega) (by have := HM6.out.few; omega)
          rw [HM0.out] at S6
          have S6 := hidden S6
          clear hct hq
          go_wp2_with fail
          refine S6.out.mono ?_
          rintro e w7 ⟨rfl, b7⟩
          have HB7 := hidden (HB6.out.trans (b7.mono HB6.out.size))
          have HM7 := hidden (HM6.out.below b7)
          have HX7 := hidden (HX6.out.on b7)
          have hz7 := HZ6.out.below b7 HZ6.out.lt
          have z0 := hz7.cell 0
          have z1 := hz7.cell 1
          have z2 := hz7.cell 2
          have S7 := apply_plan w7 HM7.out.hed HB7.out.size (s := s) _ (HR6.out.turn (Turn.of_below b7 0 [] false) (by simp) (by simp) (by simp) (by simp)) HI.out (by have := HM7.out.few; have := HX7.out.len; omega) (by rw [HM0.out]; have := HX7.out.len; omega)
          simp only [RecR.val, Sl.val] at S7
          rw [HQ.out] at S7
          have S7 := hidden S7
          clear S6 b7 hz7 HB6 HM6 HX6
          go_wp2_with fail
          refine S7.out.mono ?_
          rintro e w8 ⟨X8, rfl, hh8, hp8, t8⟩
          have hct8 : cntP (X8.map HsR.p) = M0 + q := by rw [hp8, HTK.out.cnt, HM0.out, HQ.out]
          have hT8 : T0 (E ++ s.N) X8 = s.T := by rw [t0_of, hp8]; exact HTK.out.zip
          have hag := plan_again (T := s.T) (xs.map EntR.p) HI.out.seen
          have hI8 := planB_lens (T0 (E ++ s.N) X8) (xs.map EntR.p)
          have HM8 := hidden (HAP.out w8 X8 hh8 hp8)
          have HB8 := hidden (HB7.out.trans (t8.below (Nat.le_refl _) HB7.out.size))
          have S8 := total_any w8 hh8 HB8.out.size HM8.out.inv (by rw [hct8]; omega) (by have := HM8.out.few; omega)
          rw [hct8] at S8
          have S8 := hidden S8
          have HX8 := hidden (HX.out.on HB8.out)
          rw [hT8] at hI8
          have HT8 := hidden hT8
          have HAG := hidden hag
          have HI8 := hidden hI8
          clear S7 hh8 hp8 t8 hct8 hT8 hag hI8
          have fwm : IntKind.i64.wrap ((M0 : Int) + (q : Int)) = (M0 : Int) + (q : Int) := Go.IntWalk.i64_in _ (by omega)
          have hmm : ((M0 : Int) + (q : Int) != (M0 : Int) + (q : Int)) = false := by simp
          by_cases hq0 : q = 0
          · have hgt2 : ¬ (0 : Int) < (q : Int) := by omega
            rw [if_pos hq0]
            go_wp2_with fail
            refine S8.out.mono ?_
            rintro e w9 ⟨rfl, b9⟩
            have HM9 := hidden (HM8.out.below b9)
            have HB9 := hidden (HB8.out.trans (b9.mono HB8.out.size))
            have S9 := hed_plan B n c xs w9 HM9.out.hed (HX8.out.on b9) (by have := HM9.out.few; omega)
            rw [HT8.out] at S9
            have S9 := hidden S9
            clear S8 b9 HM8 HB8 HX8
            go_wp2_with fail
            refine S9.out.mono ?_
            rintro e w10 ⟨nv', pv', vv', L', rfl, _, _, hvr, b10⟩
            have HB10 := hidden (HB9.out.trans (b10.mono HB9.out.size))
            have hVl : (planB s.T (xs.map EntR.p)).V.length = n := by have := HI8.out.1; rw [List.length_map, HX.out.len] at this; exact this
            have hne := HAG.out.2
            generalize (planB s.T (xs.map EntR.p)).V = V2 at hvr hVl hne ⊢
            obtain ⟨Av2, cv2, rfl, _, hvrow⟩ := own_shape hvr
            rw [hVl] at hvrow ⊢
            have HV10 := hidden hvrow
            have HVL2 := hidden hVl
            have HNE := hidden hne
            clear S9 hvr b10 hvrow hVl hne
            go_wp2_with fail
            go_loopw [96] (fun vi wz => ∃ k : Nat, vi = .int .i64 (k : Int) ∧ k ≤ n ∧ wz = w10) (fun vi _ => n - (intOf vi).toNat)
            case atStart => exact ⟨0, rfl, Nat.zero_le _, rfl⟩
            case round =>
              obtain ⟨k, rfl, hk, rfl⟩ := hrel
              have k0 : (0 : Int) ≤ (k : Int) := by omega
              by_cases hlt : k < n
              · have k1 : (k : Int) < (n : Int) := by omega
                have fwk : IntKind.i64.wrap ((k : Int) + 1) = (k : Int) + 1 := Go.IntWalk.i64_in _ (by omega)
                obtain ⟨gv, ov, hAv, _, hvc⟩ := ints_at HV10.out (by omega)
                subst hAv
                obtain ⟨vk, hvk⟩ : ∃ v, V2[k]? = some v := ⟨_, List.getElem?_eq_getElem (by rw [HVL2.out]; exact hlt)⟩
                have ck := hvc k (by rw [HVL2.out]; exact hlt)
                rw [List.getD_eq_getElem?_getD, hvk, Option.getD_some] at ck
                have hvb : (vk == 0) = false := by simpa using HNE.out vk (List.mem_of_getElem? hvk)
                clear hvc hvk
                go_wp2_with fail
                refine ⟨⟨k + 1, by simp, hlt, trivial⟩, ?_⟩
                simp only [intOf]; omega
              · obtain rfl : n = k := by omega
                have hnn : ((n : Int) == (n : Int)) = true := by simp
                go_wp2_with fail
                go_ret
                exact ⟨rfl, HB10.out⟩
          · have hgt2 : (0 : Int) < (q : Int) := by omega
            rw [if_neg hq0]
            go_wp2_with fail
            refine S8.out.mono ?_
            rintro e w9 ⟨rfl, b9⟩
            have HM9 := hidden (HM8.out.below b9)
            have HB9 := hidden (HB8.out.trans (b9.mono HB8.out.size))
            have S9 := hed_plan B n c xs w9 HM9.out.hed (HX8.out.on b9) (by have := HM9.out.few; omega)
            rw [HT8.out] at S9
            have S9 := hidden S9
            clear S8 b9 HM8 HB8 HX8
            go_wp2_with fail
            refine S9.out.mono ?_
            rintro e w10 ⟨nv', pv', vv', L', rfl, _, _, hvr, b10⟩
            have HB10 := hidden (HB9.out.trans (b10.mono HB9.out.size))
            have hVl : (planB s.T (xs.map EntR.p)).V.length = n := by have := HI8.out.1; rw [List.length_map, HX.out.len] at this; exact this
            have hne := HAG.out.2
            generalize (planB s.T (xs.map EntR.p)).V = V2 at hvr hVl hne ⊢
            obtain ⟨Av2, cv2, rfl, _, hvrow⟩ := own_shape hvr
            rw [hVl] at hvrow ⊢
            have HV10 := hidden hvrow
            have HVL2 := hidden hVl
            have HNE := hidden hne
            clear S9 hvr b10 hvrow hVl hne
            go_wp2_with fail
            go_loopw [96] (fun vi wz => ∃ k : Nat, vi = .int .i64 (k : Int) ∧ k ≤ n ∧ wz = w10) (fun vi _ => n - (intOf vi).toNat)
            case atStart => exact ⟨0, rfl, Nat.zero_le _, rfl⟩
            case round =>
              obtain ⟨k, rfl, hk, rfl⟩ := hrel
              have k0 : (0 : Int) ≤ (k : Int) := by omega
              by_cases hlt : k < n
              · have k1 : (k : Int) < (n : Int) := by omega
                have fwk : IntKind.i64.wrap ((k : Int) + 1) = (k : Int) + 1 := Go.IntWalk.i64_in _ (by omega)
                obtain ⟨gv, ov, hAv, _, hvc⟩ := ints_at HV10.out (by omega)
                subst hAv
                obtain ⟨vk, hvk⟩ : ∃ v, V2[k]? = some v := ⟨_, List.getElem?_eq_getElem (by rw [HVL2.out]; exact hlt)⟩
                have ck := hvc k (by rw [HVL2.out]; exact hlt)
                rw [List.getD_eq_getElem?_getD, hvk, Option.getD_some] at ck
                have hvb : (vk == 0) = false := by simpa using HNE.out vk (List.mem_of_getElem? hvk)
                clear hvc hvk
                go_wp2_with fail
                refine ⟨⟨k + 1, by simp, hlt, trivial⟩, ?_⟩
                simp only [intOf]; omega
              · obtain rfl : n = k := by omega
                have hnn : ((n : Int) == (n : Int)) = true := by simp
                go_wp2_with fail
                go_ret
                exact ⟨rfl, HB10.out⟩
theorem headPlans_walk {H : Type} (enc : TypeId × Value → H) : LawWalk enc Tryz.prog 3 Tryz.f3 (fun ds => Rows.uptoBulkAll ds ≤ 1048576) := by
  intro W base args ds p hval hA hlt hsz hcond
  rw [Tryz.params3] at hval hA hsz
  obtain ⟨v0, vs0, d0, ds0, p0, q0, hargs, rfl, rfl, h0, r0⟩ := trodAll_cons hA
  obtain ⟨v1, vs1, d1, ds1, p1, q1, rfl, rfl, rfl, h1, r1⟩ := trodAll_cons r0
  obtain ⟨rfl, rfl, rfl⟩ := trodAll_nil r1
  obtain rfl : args = #[v0, v1] := by cases args; simp_all
  have hsum : Rows.uptoBulk d0 + Rows.uptoBulk d1 ≤ 1048576 := by
    have := hcond
    simp only [Rows.uptoBulkAll] at this
    omega
  obtain ⟨A, N, C, os, rfl, hos, hun⟩ := open_ops (by omega) (hval 0 22 v0 rfl rfl) h0 (arg_fits (b := Rows.uptoBulkAll [d0, d1]) (j := 0) rfl rfl (fun x hx => hlt x (by simp [hx])) hsz (Nat.le_refl _))
  obtain ⟨B, n, c, xs, rfl, hxs, hn⟩ := open_batch (by omega) (hval 1 23 v1 rfl rfl) h1 (arg_fits (b := Rows.uptoBulkAll [d0, d1]) (j := 1) rfl rfl (fun x hx => hlt x (by simp [hx])) hsz (Nat.le_refl _))
  exact headPlans_any A B N C n c os xs W hos hxs (by omega)

namespace headPlansUpto
set_option maxRecDepth 100000 in
theorem lifted (os : Os) (started : os.Started) (H : Type) (enc : TypeId × Value → H) (F : Stop.Interp) :
    ReturnsInHanded {} Tryz.checked os 3 .any ((Rows.OpenSpec.upto Rows.headPlansSpec).pre6 enc Tryz.prog Tryz.f3 Rows.headPlansUptoRow.domain false) (((Rows.OpenSpec.upto Rows.headPlansSpec).at F).post enc Tryz.prog Tryz.f3 false true false false) :=
  law_upto (C := Tryz.checked) (s := Rows.headPlansSpec) (tb := 4) own_prog started (by kernel_rfl) Tryz.func3
    (OpenSpec.witness (enc := enc) (C := Tryz.checked) (s := Rows.OpenSpec.upto Rows.headPlansSpec) (k := Rows.uptoSmall) rfl false ⟨#[], #[.slice none 0 0, .slice none 0 0], []⟩ 8 (by kernel_rfl) (by kernel_rfl) (by kernel_rfl)
      (x := ([.nil, .nil], [], [])) (by kernel_rfl) rfl (by kernel_rfl))
    laidOut (by kernel_rfl) rfl Tryz.underlying4 ⟨rfl, fun H ds h => match ds, h with | [_, _], _ => ⟨rfl, rfl, rfl⟩⟩ (headPlans_walk enc)

end headPlansUpto
end Go.Proofs.YthncochjhbmceaaGreat
