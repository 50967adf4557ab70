/- index: Sorted, walked. Condition: the index is one. -/
import Derived.Test.YtalnndenncnbdaaGreatSrfInt
import Derived.Test.YtalnndenncnbdaaGreatPkbd1ff10a
import Derived.Test.YtalnndenncnbdaaGreatPke0389641
import Derived.Deep.RegionHeld3
namespace Go.Proofs.YtalnndenncnbdaaGreat
set_option maxRecDepth 100000
open Go.RowKit Go.Sort

/-- an index, and a variable that holds it -/
theorem cmp14_any (E : List (List Lbl)) (base p X : Nat) (x y : Int) (W : World) (h : Idx W base p E) (hX : W.cell? ⟨X, 0, none⟩ = some (.pointer (some ⟨p, 0, none⟩))) (hx : 0 ≤ x ∧ x < (E.length : Int)) (hy : 0 ≤ y ∧ y < (E.length : Int)) :
    Calls Tryz.prog 46 #[.int .i64 x, .int .i64 y, .pointer (some ⟨X, 0, none⟩)] W fun e w2 => e = .returned (.int .i64 (cmpE E x y)) ∧ ∃ q os', w2 = grow (W.drewN q) os' := by
  obtain ⟨xn, rfl⟩ : ∃ xn : Nat, x = (xn : Int) := ⟨x.toNat, by omega⟩
  obtain ⟨yn, rfl⟩ : ∃ yn : Nat, y = (yn : Int) := ⟨y.toNat, by omega⟩
  obtain ⟨sv, L, bn, bl, mn, ml, oM, oI, h, rfl⟩ := h
  rw [List.length_map] at hx hy
  obtain ⟨A, c, rfl, _, hr⟩ := own_shape h.b.sets
  have c0 := h.b.blk.cell 0
  obtain ⟨g, o, rfl, hg, hc⟩ := hr.at_ (by omega)
  obtain ⟨s1, hs1⟩ : ∃ s, L[xn]? = some s := ⟨_, List.getElem?_eq_getElem (by omega)⟩
  obtain ⟨s2, hs2⟩ : ∃ s, L[yn]? = some s := ⟨_, List.getElem?_eq_getElem (by omega)⟩
  have ck1 : W.cell? ⟨g, o + xn, none⟩ = some s1.v := by rw [hc xn (by rw [Nat.mul_one]; omega), List.getElem?_map, hs1]; rfl
  have ck2 : W.cell? ⟨g, o + yn, none⟩ = some s2.v := by rw [hc yn (by rw [Nat.mul_one]; omega), List.getElem?_map, hs2]; rfl
  have hv1 := h.val s1 (List.mem_of_getElem? hs1)
  have hv2 := h.val s2 (List.mem_of_getElem? hs2)
  obtain ⟨A1, e1, hw1, hf1, _⟩ := lbF_own (h.b.lab s1 (List.mem_of_getElem? hs1)) hv1
  obtain ⟨A2, e2, hw2, hf2, _⟩ := lbF_own (h.b.lab s2 (List.mem_of_getElem? hs2)) hv2
  rw [hw1] at ck1
  rw [hw2] at ck2
  have hcm : cmpE (L.map SetR.l) (xn : Int) (yn : Int) = cmpLs s1.l s2.l := by rw [cmpE, getE_set rfl hs1, getE_set rfl hs2]
  rw [hcm]
  have n1 := (valid_small hv1).1
  have n2 := (valid_small hv2).1
  have S1 := hidden (fun V (hV : Gr W V) => lcompare_any A1 A2 s1.l.length s2.l.length e1 e2 s1.l s2.l V V.heap.size V.heap.size (hf1.on hV.below).row (hf2.on hV.below).row (Nat.le_refl _) (Nat.le_refl _) rfl rfl (by omega) (by omega))
  have x0 : (0 : Int) ≤ (xn : Int) := by omega
  have x1 : (xn : Int) < (L.length : Int) := by omega
  have y0 : (0 : Int) ≤ (yn : Int) := by omega
  have y1 : (yn : Int) < (L.length : Int) := by omega
  clear h hr hc hs1 hs2 hv1 hv2 hw1 hw2 hf1 hf2 hcm hx hy
  go_enter Tryz.func46, Tryz.ntmps46
  go_wp2_with fail
  have hg0 : Gr W W.drew := (Gr.refl _).drew
  have g1 := gr_cell hg0 hX
  have g2 := gr_cell hg0 c0
  have g3 := gr_cell hg0 ck1
  have g4 := gr_cell hg0 ck2
  clear hX c0 ck1 ck2
  go_region_held3 (fun w' => w'.cell? ⟨X, 0, none⟩ = some (.pointer (some ⟨p, 0, none⟩)) ∧ w'.cell? ⟨p, 0, none⟩ = some (.slice (some ⟨g, o, none⟩) L.length c) ∧ w'.cell? ⟨g, o + xn, none⟩ = some (.slice A1 s1.l.length e1) ∧ w'.cell? ⟨g, o + yn, none⟩ = some (.slice A2 s2.l.length e2) ∧ Gr W w') ((go_split_ands; refine ⟨?_, ?_, ?_, ?_, ?_⟩ <;> first | assumption | (refine gr_cell (by assumption) ?_; assumption) | (refine Gr.trans ?_ (by assumption); assumption)))
    (first | (go_at_call 29; refine (S1.out _ (by assumption)).mono ?_; rintro e w' ⟨rfl, hGn⟩))
  go_wp2_with fail
  go_ret
  refine ⟨rfl, ?_⟩
  show Gr W _
  first | assumption | exact hg0.trans (by assumption) | exact Gr.trans (by assumption) (by assumption)
set_option maxHeartbeats 1600000 in
theorem idx_sorted (w : World) {base p : Nat} {E : List (List Lbl)} (h : Idx w base p E) (hE : E.length ≤ 1048576) :
    Calls Tryz.prog 20 #[.pointer (some ⟨p, 0, none⟩)] w fun e w' => ∃ v S, e = .returned v ∧ w'.ownsRow w.heap.size 3 1 v E.length (S.map (Value.int .i64)) ∧ SrtE E S ∧ Below w.heap.size w w' := by
  obtain ⟨w1, hw1⟩ : ∃ w1, w.alloc (.cells #[.pointer (some ⟨p, 0, none⟩)] 24) = w1 := ⟨_, rfl⟩
  have hb1 : Below w.heap.size w w1 := hw1 ▸ (Below.refl _ _).alloc (Nat.le_refl _) _
  obtain ⟨X, hX⟩ : ∃ X, w.heap.size = X := ⟨_, rfl⟩
  have hx1 : Whole1 w1 X 24 #[.pointer (some ⟨p, 0, none⟩)] := by rw [← hX, ← hw1]; exact Whole1.new w _ _
  have hI1 := h.below hb1
  have S1 := hidden (idx_all w1 hI1 hE)
  have d0 := hx1.cell 0
  have HW := hidden hw1
  have HXX := hidden hX
  have HB1 := hidden hb1
  have HI1 := hidden hI1
  have HX1 := hidden hx1
  have e1 : ∀ args w, (callFunc 46 args).run Tryz.prog w = .ok (.enter 46 args) w := enters_of Tryz.func46 (by kernel_rfl) rfl
  have HE1 := hidden e1
  clear h hw1 hX hb1 hI1 hx1 e1
  go_enter Tryz.func20, Tryz.ntmps20
  go_upto_region 1 with (fail)
  rw [HXX.out, HW.out]
  go_wp2_with fail
  refine S1.out.mono ?_
  rintro e w2 ⟨a, S, F, rfl, ⟨hc, hF, hb2⟩, rfl⟩
  have S2 := hidden (rest_cur _ _ F w2 hc (by rw [upL_len]; omega))
  rw [upL_len] at S2
  have HF := hidden (And.intro hF hb2)
  clear S1 d0 hc hF hb2
  go_wp2_with fail
  refine S2.out.mono ?_
  rintro e w3 ⟨v, rfl, ho, _, hk⟩
  have B3 := hidden (show Below w1.heap.size w1 w3 from HF.out.2.trans (hk.below HF.out.1 HF.out.2.size |>.mono (Nat.le_refl _)))
  have HO := hidden (own_more (base' := w1.heap.size) ho HF.out.2.size)
  clear S2 ho hk HF
  have hgrow : ∀ W, w3.grownBy W v.ownBlock → Below w1.heap.size w1 W := fun W hg => B3.out.grown hg B3.out.size (fun q hq => (HO.out.lt q hq).1)
  have HGR := hidden hgrow
  have S3 := hidden (SrfInt.sortAll_any v E.length w1.heap.size (upL E.length) 46 #[.pointer (some ⟨X, 0, none⟩)] (cmpE E) w3 HE1.out (swo_ltE E)
    (fun x hx y hy W hg => cmp14_any E base p X x y W (HI1.out.below (HGR.out W hg)) ((HX1.out.below (HGR.out W hg) HX1.out.lt).cell 0) (mem_upL.1 hx) (mem_upL.1 hy)) HO.out (upL_len _) (by omega))
  have HN := hidden HO.out
  clear hgrow
  go_wp2_with fail
  refine S3.out.mono ?_
  rintro e w4 ⟨rfl, S, hS, ho4, hg4⟩
  have HS := hidden hS
  have HO4 := hidden ho4
  have B4 := hidden (HGR.out w4 hg4)
  clear S3 hS ho4 hg4
  go_wp2_with fail
  go_ret
  exact ⟨v, S, rfl, own_more HO4.out HB1.out.size, ⟨HS.out.1, HS.out.2⟩, HB1.out.trans (B4.out.mono HB1.out.size)⟩
end Go.Proofs.YtalnndenncnbdaaGreat
