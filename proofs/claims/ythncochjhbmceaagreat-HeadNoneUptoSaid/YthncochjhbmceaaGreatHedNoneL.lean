/- HeadNone, walked: a nil head has nothing and takes nothing; lists that are answered are new memory. Condition: the batch is of bulk within the limit. -/
import Derived.Test.YthncochjhbmceaaGreatPlnd18
import Derived.Test.YthncochjhbmceaaGreatLRef18
import Derived.Test.YthncochjhbmceaaGreatAlk17
import Derived.Test.YthncochjhbmceaaGreatHedNil
import Derived.Test.YthncochjhbmceaaGreatHedMade
namespace Go.Proofs.YthncochjhbmceaaGreat
set_option maxRecDepth 100000
open Go.RowKit Go.WideShapes Go.ChangeShapes

theorem rawI_made {w : World} {base h c : Nat} {E : List (List Lbl)} {X : List HsR} (k : MadeH w base h E X c) (hc : c ≤ 1048576) : RawI (X.map HsR.p) := by
  refine ⟨fun s hs => ⟨fun x hx => ?_, ?_⟩, fun s hs => ?_⟩
  · have h1 := k.inv.mx s hs
    have h2 := k.inv.sm s hs x hx
    omega
  · exact Nat.le_trans (sm_le_cnt hs) (Nat.le_trans k.cnt hc)
  · rw [k.inv.gone s hs]
    exact ⟨by simp, by simp⟩
/-- what is read into of a list is no more than what the head holds -/
theorem listP_small {E : List (List Lbl)} {S : List SerP} {L : List CkR} (h : L.map CkR.q = listP E S) (hE : ∀ l ∈ E, validP l) (hS : ∀ s ∈ S, s.sm.length ≤ 1048576) (hl : ∀ x ∈ L, x.lab.l.length = x.lab.n) (hs : ∀ x ∈ L, x.smp.l.length = x.smp.n) :
    (∀ x ∈ L, x.lab.n ≤ 8) ∧ (∀ x ∈ L, x.smp.n ≤ 1048576) ∧ L.length ≤ E.length := by
  have key : ∀ x ∈ L, x.lab.l ∈ E ∧ ∃ s ∈ S, s.sm = x.smp.l := fun x hx => by
    have h1 : x.q ∈ listP E S := by rw [← h]; exact List.mem_map_of_mem hx
    unfold listP at h1
    obtain ⟨⟨l, s⟩, h2, e⟩ := List.mem_map.1 h1
    obtain ⟨h3, h4⟩ := List.of_mem_zip h2
    simp only [CkR.q, Prod.mk.injEq] at e
    exact ⟨e.1 ▸ h3, s, h4, e.2.2⟩
  refine ⟨fun x hx => ?_, fun x hx => ?_, ?_⟩
  · have := valid_small (hE _ (key x hx).1)
    have := hl x hx
    omega
  · obtain ⟨_, s, h1, h2⟩ := key x hx
    have := hS s h1
    have := hs x hx
    rw [h2] at *
    omega
  · have := congrArg List.length h
    rw [List.length_map] at this
    unfold listP at this
    rw [List.length_map, List.length_zip] at this
    omega
theorem rawN_len (E : List (List Lbl)) (S : List SerP) : (rawL E S).length ≤ E.length := by
  unfold rawL
  refine Nat.le_trans (List.length_filter_le _ _) ?_
  rw [List.length_map, List.length_zip]
  exact Nat.min_le_left _ _
theorem rawN_smp {E : List (List Lbl)} {S : List SerP} (h : RawI S) {q : List Lbl × List Smp} (hq : q ∈ rawL E S) : q.2.length ≤ 1048576 := by
  obtain ⟨p, hp, rfl⟩ := List.mem_map.1 (List.mem_filter.1 hq).1
  refine Nat.le_trans (List.length_filter_le _ _) (h.sm p.2 ?_).2
  exact (List.of_mem_zip hp).2
theorem CkM.at_ {lo hi gA n : Nat} {w : World} {A : Option Addr} {L : List CkR} (h : CkM lo hi gA w A n L) {k : Nat} {x : CkR} (hx : L[k]? = some x) :
    ∃ t cs, A = some ⟨gA, 0, none⟩ ∧ Whole1 w gA t cs ∧ k * 6 + 5 < cs.size ∧ w.cell? ⟨gA, k * 6, none⟩ = some x.lab.val ∧ w.cell? ⟨gA, k * 6 + 5, none⟩ = some x.smp.val ∧ lo ≤ gA ∧ gA < hi := by
  have hk := (List.getElem?_eq_some_iff.1 hx).1
  rw [h.len] at hk
  obtain ⟨t, cs, h1, h2, h3, h4, h5, h6⟩ := h.row (by omega)
  obtain ⟨e1, e2⟩ := h6 k x hx
  exact ⟨t, cs, h1, h2, by omega, by rw [h2.cell]; exact e1, by rw [h2.cell]; exact e2, h4, h5⟩
theorem RawM.at_ {lo gA n : Nat} {w : World} {A : Option Addr} {L : List Ser} (h : RawM lo gA w A n L) {k : Nat} {x : Ser} (hx : L[k]? = some x) :
    A = some ⟨gA, 0, none⟩ ∧ w.cell? ⟨gA, k * 3 + 1, none⟩ = some x.smp.val ∧ lo ≤ gA := by
  have hk := (List.getElem?_eq_some_iff.1 hx).1
  rw [h.len] at hk
  obtain ⟨t, cs, h1, h2, h4, h6⟩ := h.row (by omega)
  exact ⟨h1, by rw [h2.cell]; exact h6 k x hx, h4⟩
theorem wrap_u64 (y : Nat) : IntKind.u64.wrap ((y : Int) + 1) = (((y + 1) % 18446744073709551616 : Nat) : Int) := by
  simp [IntKind.wrap, IntKind.signed, IntKind.bits]
set_option maxHeartbeats 25600000 in
theorem headNone_any (A : Option Addr) (n c : Nat) (xs : List EntR) (w : World) (hB : EntF w A n xs) :
    Calls Tryz.prog 4 #[.slice A n c] w fun e w' => e = .returned (.bool true) ∧ Below w.heap.size w w' := by
  have b1 : Below w.heap.size w (w.alloc (.cells #[.slice none 0 0] 50)) := (Below.refl _ _).alloc (Nat.le_refl _) _
  have hH := Whole1.new w 50 #[.slice none 0 0]
  obtain ⟨w1, hw1⟩ : ∃ w1, w.alloc (.cells #[.slice none 0 0] 50) = w1 := ⟨_, rfl⟩
  rw [hw1] at b1 hH
  have hnf := hB.few
  have HXS := hidden (fun x hx => (hB.ok x hx).2.2 : ∀ x ∈ xs, x.v < 18446744073709551616)
  have HXN := hidden hB.len
  have S1 := hidden (planned_nil w.heap.size A n c xs w1 hH (hB.on b1))
  have I := planI (T0 := []) (by simp) (xs.map EntR.p)
  obtain ⟨s, hs⟩ : ∃ s, planB [] (xs.map EntR.p) = s := ⟨_, rfl⟩
  rw [hs] at S1 I
  have HPS := hidden hs
  have HI := hidden I
  have HB1 := hidden b1
  have HW1 := hidden hw1
  clear hB hH b1 hw1 hs I
  go_enter Tryz.func4, Tryz.ntmps4
  go_wp2_with fail
  rw [HW1.out]
  refine S1.out.mono ?_
  rintro e w2 ⟨nv, pv, L, rfl, hnw, hpt, b2⟩
  obtain ⟨r, hrv, hr⟩ := planRec (w0 := w1) (E := []) (X := []) (xs := xs) hnw hpt (by rw [show T0 [] [] = [] from rfl, ← HPS.out]; exact planI (by simp) _) rfl (by rw [HXN.out]; simpa using hnf) HXS.out
  obtain ⟨⟨nA, nn, nc, nl⟩, ⟨pA, pn, pc, pl⟩, ⟨gA, gn, gc, gl⟩⟩ := r
  simp only [RecR.val, Sl.val, Value.agg.injEq, Array.mk.injEq, List.cons.injEq, and_true] at hrv
  obtain ⟨rfl, rfl, hgv⟩ := hrv
  simp only [Value.slice.injEq] at hgv
  obtain ⟨rfl, rfl, rfl⟩ := hgv
  have b3 : Below w2.heap.size w2 (w2.alloc (.cells #[.slice nA nn nc, .slice pA pn pc, .slice none 0 0] 31)) := (Below.refl _ _).alloc (Nat.le_refl _) _
  have hx3 := Whole1.new w2 31 #[.slice nA nn nc, .slice pA pn pc, .slice none 0 0]
  obtain ⟨w3, hw3⟩ : ∃ w3, w2.alloc (.cells #[.slice nA nn nc, .slice pA pn pc, .slice none 0 0] 31) = w3 := ⟨_, rfl⟩
  obtain ⟨X4, hX4⟩ : ∃ X4, w2.heap.size = X4 := ⟨_, rfl⟩
  rw [hw3] at b3 hx3
  rw [hX4] at hx3
  have HR3 := hidden (hr.turn (Turn.of_below b3 0 [] false) (by simp) (by simp) (by simp) (by simp))
  have HX3 := hidden hx3
  have HB3 := hidden (HB1.out.trans ((b2.trans (b3.mono b2.size)).mono HB1.out.size))
  have HW3 := hidden hw3
  have HX4 := hidden hX4
  have HS3 := hidden (show w1.heap.size ≤ w3.heap.size from Nat.le_trans b2.size b3.size)
  clear S1 hnw hpt hr b2 b3 hx3 hw3 hX4
  go_upto_region 3 with (fail)
  rw [HW3.out, HX4.out]
  go_wp2_with fail
  refine (nil_drop _ 5).mono ?_
  rintro e w4 ⟨rfl, b4⟩
  have HB4 := hidden b4
  clear b4
  go_wp2_with fail
  refine (nil_erase _).mono ?_
  rintro e w5 ⟨rfl, b5⟩
  have b45 := HB4.out.trans (b5.mono HB4.out.size)
  have b6 : Below w5.heap.size w5 (w5.alloc (.cells #[.slice none 0 0, .slice none 0 0, .slice none 0 0] 31)) := (Below.refl _ _).alloc (Nat.le_refl _) _
  have hx6 := Whole1.new w5 31 #[.slice none 0 0, .slice none 0 0, .slice none 0 0]
  obtain ⟨w6, hw6⟩ : ∃ w6, w5.alloc (.cells #[.slice none 0 0, .slice none 0 0, .slice none 0 0] 31) = w6 := ⟨_, rfl⟩
  obtain ⟨X6, hX6⟩ : ∃ X6, w5.heap.size = X6 := ⟨_, rfl⟩
  rw [hw6] at b6 hx6
  rw [hX6] at hx6
  have HB6 := hidden (b45.trans (b6.mono b45.size))
  have HX6 := hidden hx6
  have HW6 := hidden hw6
  have HE6 := hidden hX6
  clear b5 b45 b6 hx6 hw6 hX6 HB4
  go_upto_region 5 with (fail)
  rw [HW6.out, HE6.out]
  go_wp2_with fail
  refine (wakes18_any _).mono ?_
  rintro e w7 ⟨rfl, b7⟩
  have HB7 := hidden (HB6.out.trans (b7.mono HB6.out.size))
  have hx7 := HX3.out.below HB7.out HX3.out.lt
  have HX67 := hidden (HX6.out.below b7 HX6.out.lt)
  have f0 := hx7.cell 0
  have f1 := hx7.cell 1
  have f2 := hx7.cell 2
  clear b7 hx7 HB6
  go_wp2_with fail
  refine (nil_apply w7 _ _ _ _ rfl).mono ?_
  rintro e w8 ⟨rfl, b8⟩
  have HB8 := hidden b8
  clear b8 f0 f1 f2
  go_wp2_with fail
  refine (nil_len w8).mono ?_
  rintro e w9 ⟨rfl, rfl⟩
  go_wp2_with fail
  refine (nil_max w9).mono ?_
  rintro e w10 ⟨rfl, rfl⟩
  go_wp2_with fail
  refine (nil_list w10).mono ?_
  rintro e w11 ⟨rfl, rfl⟩
  go_wp2_with fail
  refine (nil_raw w11 0 9).mono ?_
  rintro e w12 ⟨rfl, b12⟩
  have HB12 := hidden (HB8.out.trans (b12.mono HB8.out.size))
  clear b12 HB8
  go_wp2_with fail
  refine (nil_gone w12 0 _).mono ?_
  rintro e w13 ⟨rfl, rfl⟩
  have HB13 := hidden (HB7.out.trans (HB12.out.mono HB7.out.size))
  have g2 := (HX67.out.below HB12.out HX67.out.lt).cell 2
  have hx13 := HX3.out.below HB13.out HX3.out.lt
  have f0 := hx13.cell 0
  have f1 := hx13.cell 1
  have f2 := hx13.cell 2
  have S1 := hidden (hed_new w13 (base := w3.heap.size) HB13.out.size)
  have HX13 := hidden hx13
  clear hx13 HB7 HB12 HX67
  go_wp2_with fail
  refine S1.out.mono ?_
  rintro e w14 ⟨hd, rfl, hh, b14⟩
  have HM14 := hidden (show MadeH w14 w3.heap.size hd [] [] 0 from ⟨hh, HInv.nil, Nat.le_refl _, Nat.le_refl _⟩)
  have HB14 := hidden (HB13.out.trans (b14.mono HB13.out.size))
  have hx14 := HX13.out.below b14 HX13.out.lt
  have f0 := hx14.cell 0
  have f1 := hx14.cell 1
  have f2 := hx14.cell 2
  have HR14 := hidden (HR3.out.turn (Turn.of_below HB14.out 0 [] false) (by simp) (by simp) (by simp) (by simp))
  have S2 := hidden (apply_plan w14 HM14.out.hed HB14.out.size (s := s) (xs := xs) _ HR14.out HI.out (by rw [HXN.out]; simpa using hnf) (by rw [HXN.out]; simpa [cntP] using hnf))
  simp only [RecR.val, Sl.val] at S2
  have htk : ∀ (w' : World) (X' : List HsR), Hed w' w3.heap.size hd ([] ++ s.N) X' → X'.map HsR.p = afterS (([] : List HsR).map HsR.p) s → MadeH w' w3.heap.size hd ([] ++ s.N) X' (0 + n) := fun w' X' h1 h2 => by
    have h3 := HM14.out.applied (w' := w') (X' := X') (xs := xs) (n := n) HXS.out HXN.out
    rw [show planB (T0 [] []) (xs.map EntR.p) = s from HPS.out] at h3
    exact h3 h1 h2
  have HTK := hidden htk
  clear S1 hh b14 hx14 HX13 HB13 g2 HR3 htk
  go_wp2_with fail
  refine S2.out.mono ?_
  rintro e w15 ⟨X, rfl, hh15, hp15, t15⟩
  obtain ⟨z, hz⟩ : ∃ z, (if s.P.length = 0 then (150 : Int) else 0) = z := ⟨_, rfl⟩
  rw [hz]
  clear hz
  obtain ⟨E, hE⟩ : ∃ E, [] ++ s.N = E := ⟨_, rfl⟩
  have hm := HTK.out w15 X hh15 hp15
  rw [hE, Nat.zero_add] at hm
  have hE20 : E.length ≤ 1048576 := Nat.le_trans hm.few hnf
  have hvE : ∀ l ∈ E, validP l := fun l hl => by
    rw [← hE, List.nil_append] at hl
    exact HI.out.val l hl
  have hgX : ∀ x ∈ X, x.gone = [] := fun x hx => hm.inv.gone x.p (List.mem_map_of_mem hx)
  have hsX : ∀ x ∈ X, x.sm.length ≤ 1048576 := fun x hx => Nat.le_trans (sm_le_cnt (List.mem_map_of_mem (f := HsR.p) hx)) (Nat.le_trans hm.cnt hnf)
  have HRI := hidden (rawI_made hm hnf)
  have HM := hidden hm
  have HVE := hidden hvE
  have HGX := hidden hgX
  have HSX := hidden hsX
  have HB15 := hidden (HB14.out.trans (t15.below (Nat.le_refl _) HB14.out.size))
  have S3 := hidden (fun W (hW : Below w15.heap.size w15 W) => hed_list W (HM.out.below hW).hed HGX.out HSX.out hE20)
  clear S2 hh15 hp15 t15 hE hm hvE hgX hsX HTK HM14 HR14 HB14 f0 f1 f2 HX3
  go_wp2_with fail
  refine (S3.out w15 (Below.refl _ _)).mono ?_
  rintro e wa ⟨va, La, rfl, hOa, hqa, ba⟩
  obtain ⟨Aa, ca, rfl, _, _⟩ := own_shape hOa.row
  have Ba := hidden ba
  have HOa := hidden hOa
  have HPa := hidden (listP_small hqa HVE.out (fun s hs => (HRI.out.sm s hs).2) (fun x hx => (hOa.lab x hx).2) (fun x hx => (hOa.smp x hx).2))
  clear hOa ba hqa
  go_wp2_with fail
  refine (S3.out wa Ba.out).mono ?_
  rintro e wb ⟨vb, Lb, rfl, hOb, hqb, bb⟩
  obtain ⟨Ab, cb, rfl, _, _⟩ := own_shape hOb.row
  have Bb := hidden bb
  have HOb := hidden hOb
  have HQb := hidden hqb
  have HPb := hidden (listP_small hqb HVE.out (fun s hs => (HRI.out.sm s hs).2) (fun x hx => (hOb.lab x hx).2) (fun x hx => (hOb.smp x hx).2))
  have HBb := hidden (Ba.out.trans (bb.mono Ba.out.size))
  obtain ⟨na, hna⟩ : ∃ n, La.length = n := ⟨_, rfl⟩
  obtain ⟨nb, hnb⟩ : ∃ n, Lb.length = n := ⟨_, rfl⟩
  have hOa' := HOa.out
  rw [hna] at hOa'
  obtain ⟨gA, hM0⟩ := CkM.of hOa' hna (by decide) (by decide)
  have HM0 := hidden (hM0.below bb)
  have hna20 : na ≤ 1048576 := by have := HPa.out.2.2; omega
  have hnb20 : nb ≤ 1048576 := by have := HPb.out.2.2; omega
  have HNA := hidden hna
  have HNB := hidden hnb
  have HSa := hidden Ba.out.size
  rw [hna, hnb]
  clear hOb bb hqb hOa' hM0 hna hnb HOa
  go_wp2_with fail
  have HIV := hidden (And.intro HM0.out (And.intro (Below.refl w15.heap.size wb) (Abv.refl wa.heap.size wb)))
  go_loopw [87] (fun vi wr => ∃ k : Nat, vi = .int .i64 (k : Int) ∧ k ≤ na ∧ Hid (CkM w15.heap.size wa.heap.size gA wr Aa na La ∧ Below w15.heap.size wb wr ∧ Abv wa.heap.size wb wr)) (fun vi _ => na - (intOf vi).toNat)
  case atStart => exact ⟨0, rfl, Nat.zero_le _, HIV⟩
  case round =>
    obtain ⟨k, rfl, hk, hiv⟩ := hrel
    have k0 : (0 : Int) ≤ (k : Int) := by omega
    by_cases hlt : k < na
    · have k1 : (k : Int) < (na : Int) := by omega
      have fwk : IntKind.i64.wrap ((k : Int) + 1) = (k : Int) + 1 := Go.IntWalk.i64_in _ (by omega)
      have HLT := hidden (show k + 1 ≤ na from hlt)
      obtain ⟨x, hx⟩ : ∃ x, La[k]? = some x := ⟨_, List.getElem?_eq_getElem (by rw [HNA.out]; exact hlt)⟩
      obtain ⟨t, cs, hA, hw, hsz, _, _, hlo, hhi⟩ := hiv.out.1.at_ hx
      subst hA
      obtain ⟨zo, zc⟩ : ∃ zo, wr.cell? ⟨gA, k * 6 + 1, none⟩ = some zo := ⟨_, (hw.cell (k * 6 + 1)).trans (Array.getElem?_eq_getElem (by omega))⟩
      have zf := hw.free (k * 6 + 1)
      have hxm := List.mem_of_getElem? hx
      have HXK := hidden hx
      have HXM := hidden hxm
      have HIV1 := hidden (And.intro (hiv.out.1.putMax k (.int .i64 (-5))) (And.intro (hiv.out.2.1.setCell (p := ⟨gA, k * 6 + 1, none⟩) hlo (.int .i64 (-5))) (hiv.out.2.2.put hhi (k * 6 + 1) (.int .i64 (-5)))))
      clear hw hsz hlo hhi hx hxm hiv
      obtain ⟨w16, hw16⟩ : ∃ w', wr.setCell ⟨gA, k * 6 + 1, none⟩ (.int .i64 (-5)) = w' := ⟨_, rfl⟩
      have HW16 := hidden hw16
      rw [hw16] at HIV1
      have hx8 := HPa.out.1 x HXM.out
      have hx20 := HPa.out.2.1 x HXM.out
      obtain ⟨⟨lA, lN, lC, ll⟩, xm, ⟨sA, sN, sC, sl⟩⟩ := x
      simp only at hx8 hx20
      obtain ⟨_, _, _, _, _, _, m5, _⟩ := HIV1.out.1.at_ HXK.out
      simp only [Sl.val] at m5
      clear hw16
      go_upto_region 14 with (fail)
      rw [HW16.out]
      clear zc zf
      go_wp2_with fail
      clear m5
      go_loopw [100] (fun vi wx => ∃ i : Nat, vi = .int .i64 (i : Int) ∧ i ≤ sN ∧ Hid (CkM w15.heap.size wa.heap.size gA wx (some ⟨gA, 0, none⟩) na La ∧ Below w15.heap.size wb wx ∧ Abv wa.heap.size wb wx)) (fun vi _ => sN - (intOf vi).toNat)
      case atStart => exact ⟨0, rfl, Nat.zero_le _, HIV1⟩
      case round =>
        obtain ⟨i, rfl, hi, hiv⟩ := hrel
        have i0 : (0 : Int) ≤ (i : Int) := by omega
        obtain ⟨_, _, _, _, _, m0, m5, _⟩ := hiv.out.1.at_ HXK.out
        simp only [Sl.val] at m0 m5
        by_cases hlt2 : i < sN
        · have i1 : (i : Int) < (sN : Int) := by omega
          have fwi : IntKind.i64.wrap ((i : Int) + 1) = (i : Int) + 1 := Go.IntWalk.i64_in _ (by omega)
          have HLI := hidden (show i + 1 ≤ sN from hlt2)
          obtain ⟨g, t, cs, hA, hw, hsz, hlo, hhi, hga⟩ := hiv.out.1.smp _ HXM.out (by show 0 < sN; omega)
          simp only at hA hsz
          subst hA
          obtain ⟨zo, zc⟩ : ∃ zo, wr.cell? ⟨g, i * 2, none⟩ = some zo := ⟨_, (hw.cell (i * 2)).trans (Array.getElem?_eq_getElem (by omega))⟩
          have zf := hw.free (i * 2)
          have HIV2 := hidden (And.intro (hiv.out.1.put (fun _ => hga) (i * 2) (.int .i64 (-5))) (And.intro (hiv.out.2.1.setCell (p := ⟨g, i * 2, none⟩) hlo (.int .i64 (-5))) (hiv.out.2.2.put hhi (i * 2) (.int .i64 (-5)))))
          clear hw hsz hlo hhi hga hiv
          go_wp2_with fail
          go_roundw
          case rel => exact ⟨i + 1, by go_num, HLI.out, HIV2⟩
          case measure => have := HLI.out; simp [intOf]; omega
        · obtain rfl : sN = i := by omega
          have HIV3 := hidden hiv.out
          clear hiv
          go_wp2_with fail
          go_loopw [118] (fun vi wx => ∃ i : Nat, vi = .int .i64 (i : Int) ∧ i ≤ lN ∧ Hid (CkM w15.heap.size wa.heap.size gA wx (some ⟨gA, 0, none⟩) na La ∧ Below w15.heap.size wb wx ∧ Abv wa.heap.size wb wx)) (fun vi _ => lN - (intOf vi).toNat)
          case atStart => exact ⟨0, rfl, Nat.zero_le _, HIV3⟩
          case round =>
            obtain ⟨j, rfl, hj, hiv⟩ := hrel
            have j0 : (0 : Int) ≤ (j : Int) := by omega
            obtain ⟨_, _, _, _, _, m0, m5, _⟩ := hiv.out.1.at_ HXK.out
            simp only [Sl.val] at m0 m5
            by_cases hlt3 : j < lN
            · have j1 : (j : Int) < (lN : Int) := by omega
              have fwj : IntKind.i64.wrap ((j : Int) + 1) = (j : Int) + 1 := Go.IntWalk.i64_in _ (by omega)
              have HLJ := hidden (show j + 1 ≤ lN from hlt3)
              obtain ⟨g, t, cs, hA, hw, hsz, hlo, hhi, hga⟩ := hiv.out.1.lab _ HXM.out (by show 0 < lN; omega)
              simp only at hA hsz
              subst hA
              obtain ⟨zo, zc⟩ : ∃ zo, wr.cell? ⟨g, j * 2, none⟩ = some zo := ⟨_, (hw.cell (j * 2)).trans (Array.getElem?_eq_getElem (by omega))⟩
              have zf := hw.free (j * 2)
              have HIV4 := hidden (And.intro (hiv.out.1.put (fun _ => hga) (j * 2) (.string ⟨#[109, 97, 114, 107]⟩)) (And.intro (hiv.out.2.1.setCell (p := ⟨g, j * 2, none⟩) hlo (.string ⟨#[109, 97, 114, 107]⟩)) (hiv.out.2.2.put hhi (j * 2) (.string ⟨#[109, 97, 114, 107]⟩))))
              clear hw hsz hlo hhi hga hiv
              go_wp2_with fail
              go_roundw
              case rel => exact ⟨j + 1, by go_num, HLJ.out, HIV4⟩
              case measure => have := HLJ.out; simp [intOf]; omega
            · obtain rfl : lN = j := by omega
              have HIV5 := hidden hiv.out
              clear hiv
              go_wp2_with fail
              go_roundw
              case rel => exact ⟨k + 1, by go_num, HLT.out, HIV5⟩
              case measure => have := HLT.out; simp [intOf]; omega
    · obtain rfl : na = k := by omega
      obtain ⟨wq, rfl⟩ : ∃ w', w' = wr := ⟨_, rfl⟩
      have HBq := hidden (HBb.out.trans hiv.out.2.1)
      have HOq := hidden (HOb.out.abv hiv.out.2.2 (Nat.le_refl _))
      have HMq := hidden (HM.out.below HBq.out)
      have S4 := hidden (hed_raw wq HMq.out.hed (Nat.le_trans HB15.out.size HBq.out.size) HRI.out hE20)
      clear hiv HIV HM0 HOb
      go_wp2_with fail
      refine S4.out.mono ?_
      rintro e w17 ⟨vc, Lc, rfl, hOc, hpc, _, b17⟩
      obtain ⟨Ac, cc, rfl, _, _⟩ := own_shape hOc.row
      obtain ⟨nC, hnC⟩ : ∃ n, Lc.length = n := ⟨_, rfl⟩
      have hnC20 : nC ≤ 1048576 := by
        have h1 := hpc.length_eq
        have h2 := rawN_len E (X.map HsR.p)
        rw [List.length_map] at h1
        omega
      have hsC : ∀ x ∈ Lc, x.smp.n ≤ 1048576 := fun x hx => by
        have h1 := rawN_smp HRI.out (hpc.mem_iff.1 (List.mem_map_of_mem (f := Ser.q) hx))
        rw [← (hOc.smp x hx).2]
        exact h1
      rw [hnC] at hOc
      obtain ⟨gC, hM1⟩ := RawM.of hOc hnC
      have HIVc := hidden (And.intro hM1 b17)
      have HNC := hidden hnC
      have HSC := hidden hsC
      rw [hnC]
      clear S4 hOc hpc b17 hM1 hnC hsC
      go_wp2_with fail
      go_loopw [135] (fun vi wx => ∃ k : Nat, vi = .int .i64 (k : Int) ∧ k ≤ nC ∧ Hid (RawM wq.heap.size gC wx Ac nC Lc ∧ Below wq.heap.size wq wx)) (fun vi _ => nC - (intOf vi).toNat)
      case atStart => exact ⟨0, rfl, Nat.zero_le _, HIVc⟩
      case round =>
        obtain ⟨k, rfl, hk, hiv⟩ := hrel
        have k0 : (0 : Int) ≤ (k : Int) := by omega
        by_cases hlt : k < nC
        · have k1 : (k : Int) < (nC : Int) := by omega
          have fwk : IntKind.i64.wrap ((k : Int) + 1) = (k : Int) + 1 := Go.IntWalk.i64_in _ (by omega)
          have HLT := hidden (show k + 1 ≤ nC from hlt)
          obtain ⟨x, hx⟩ : ∃ x, Lc[k]? = some x := ⟨_, List.getElem?_eq_getElem (by rw [HNC.out]; exact hlt)⟩
          obtain ⟨hA, m1, _⟩ := hiv.out.1.at_ hx
          subst hA
          have hxm := List.mem_of_getElem? hx
          have hx20 := HSC.out x hxm
          have HXK := hidden hx
          have HXM := hidden hxm
          obtain ⟨xlab, ⟨sA, sN, sC, sl⟩, xwin⟩ := x
          simp only [Sl.val] at m1 hx20
          have HIVd := hidden hiv.out
          clear hx hxm hiv
          go_wp2_with fail
          clear m1
          go_loopw [144] (fun vi wx => ∃ i : Nat, vi = .int .i64 (i : Int) ∧ i ≤ sN ∧ Hid (RawM wq.heap.size gC wx (some ⟨gC, 0, none⟩) nC Lc ∧ Below wq.heap.size wq wx)) (fun vi _ => sN - (intOf vi).toNat)
          case atStart => exact ⟨0, rfl, Nat.zero_le _, HIVd⟩
          case round =>
            obtain ⟨i, rfl, hi, hiv⟩ := hrel
            have i0 : (0 : Int) ≤ (i : Int) := by omega
            obtain ⟨_, m1, _⟩ := hiv.out.1.at_ HXK.out
            simp only [Sl.val] at m1
            by_cases hlt2 : i < sN
            · have i1 : (i : Int) < (sN : Int) := by omega
              have fwi : IntKind.i64.wrap ((i : Int) + 1) = (i : Int) + 1 := Go.IntWalk.i64_in _ (by omega)
              have HLI := hidden (show i + 1 ≤ sN from hlt2)
              obtain ⟨g, t, cs, hA, hw, hlo, hga, hat⟩ := hiv.out.1.smp _ HXM.out (by show 0 < sN; omega)
              simp only at hA
              subst hA
              obtain ⟨y, hy⟩ := hat i hlt2
              have zc := (hw.cell (i * 2 + 1)).trans hy
              have zf := hw.free (i * 2 + 1)
              have fwy := wrap_u64 y
              obtain ⟨y', hy'⟩ : ∃ y', (y + 1) % 18446744073709551616 = y' := ⟨_, rfl⟩
              rw [hy'] at fwy
              have HIVe := hidden (And.intro (hiv.out.1.put (fun _ => hga) (i * 2 + 1) y') (hiv.out.2.setCell (p := ⟨g, i * 2 + 1, none⟩) hlo (.int .u64 (y' : Int))))
              clear hw hlo hga hat hy hy' hiv
              go_wp2_with fail
              go_roundw
              case rel => exact ⟨i + 1, by go_num, HLI.out, HIVe⟩
              case measure => have := HLI.out; simp [intOf]; omega
            · obtain rfl : sN = i := by omega
              have HIVf := hidden hiv.out
              clear hiv
              go_wp2_with fail
              go_roundw
              case rel => exact ⟨k + 1, by go_num, HLT.out, HIVf⟩
              case measure => have := HLT.out; simp [intOf]; omega
        · obtain rfl : nC = k := by omega
          have hbz := hiv.out.2
          have HBz := hidden (HBq.out.trans (hbz.mono HBq.out.size))
          have hOz := HOq.out.below hbz
          rw [HNB.out] at hOz
          have S5 := hidden (listRef_any Ab nb cb Lb wr hOz HNB.out HPb.out.1 HPb.out.2.1 hnb20)
          clear hiv hbz hOz HIVc
          go_wp2_with fail
          refine S5.out.mono ?_
          rintro e w18 ⟨v18, L18, rfl, hO18, hq18, b18⟩
          obtain ⟨A18, c18, rfl, _, _⟩ := own_shape hO18.row
          have HO18 := hidden hO18
          have HQ18 := hidden hq18
          have HB18 := hidden (HBz.out.trans (b18.mono HBz.out.size))
          clear S5 hO18 hq18 b18
          go_wp2_with fail
          refine (S3.out w18 HB18.out).mono ?_
          rintro e w19 ⟨v19, L19, rfl, hO19, hq19, b19⟩
          obtain ⟨A19, c19, rfl, _, _⟩ := own_shape hO19.row
          have HP19 := hidden (listP_small hq19 HVE.out (fun s hs => (HRI.out.sm s hs).2) (fun x hx => (hO19.lab x hx).2) (fun x hx => (hO19.smp x hx).2))
          have HO18b := hidden (HO18.out.below b19)
          have HB19 := hidden (HB18.out.trans (b19.mono HB18.out.size))
          have HQ19 := hidden hq19
          have S6 := hidden (listRef_any A19 L19.length c19 L19 w19 hO19 rfl HP19.out.1 HP19.out.2.1 (Nat.le_trans HP19.out.2.2 hE20))
          clear hO19 hq19 b19 HO18
          go_wp2_with fail
          refine S6.out.mono ?_
          rintro e w20 ⟨v20, L20, rfl, hO20, hq20, b20⟩
          obtain ⟨A20, c20, rfl, _, _⟩ := own_shape hO20.row
          have hO18c := HO18b.out.below b20
          have hall : L18.map CkR.q = L20.map CkR.q := by rw [HQ18.out, hq20, HQb.out, HQ19.out]
          have h18 := listP_small (HQ18.out.trans HQb.out) HVE.out (fun s hs => (HRI.out.sm s hs).2) (fun x hx => (hO18c.lab x hx).2) (fun x hx => (hO18c.smp x hx).2)
          have h20 := listP_small (hq20.trans HQ19.out) HVE.out (fun s hs => (HRI.out.sm s hs).2) (fun x hx => (hO20.lab x hx).2) (fun x hx => (hO20.smp x hx).2)
          have hlen : L20.length = L18.length := by have := congrArg List.length hall; rw [List.length_map, List.length_map] at this; exact this.symm
          have S7 := hidden (alike17_same A18 A20 L18.length c18 c20 L18 L20 w20 (CkF.of hO18c h18.1 h18.2.1 rfl) (CkF.of (by rw [hlen] at hO20; exact hO20) h20.1 h20.2.1 hlen) hall (Nat.le_trans h18.2.2 hE20))
          have HB20 := hidden (HB19.out.trans (b20.mono HB19.out.size))
          rw [hlen]
          clear S6 hO18c hO20 hq20 b20 hall h18 h20 hlen HO18b
          go_wp2_with fail
          refine S7.out.mono ?_
          rintro e w21 ⟨rfl, b21⟩
          have HB21 := hidden (HB15.out.trans ((HB20.out.trans (b21.mono HB20.out.size)).mono HB15.out.size))
          clear S7 b21
          go_wp2_with fail
          go_ret
          exact ⟨rfl, HB3.out.trans (HB21.out.mono HB3.out.size)⟩
theorem headNone_walk {H : Type} (enc : TypeId × Value → H) : LawWalk enc Tryz.prog 4 Tryz.f4 (fun ds => Rows.uptoBulkAll ds ≤ 1048576) := by
  intro W base args ds p hval hA hlt hsz hcond
  rw [Tryz.params4] at hval hA hsz
  obtain ⟨v0, vs0, d0, ds0, p0, q0, hargs, rfl, rfl, h0, r0⟩ := trodAll_cons hA
  obtain ⟨rfl, rfl, rfl⟩ := trodAll_nil r0
  obtain rfl : args = #[v0] := by cases args; simp_all
  have hsum : Rows.uptoBulk d0 ≤ 1048576 := by
    have := hcond
    simp only [Rows.uptoBulkAll] at this
    omega
  obtain ⟨A, n, c, xs, rfl, hxs, hn⟩ := open_batch hsum (hval 0 23 v0 rfl rfl) h0 (arg_fits (b := Rows.uptoBulkAll [d0]) (j := 0) rfl rfl (fun x hx => hlt x (by simp [hx])) hsz (Nat.le_refl _))
  exact headNone_any A n c xs W hxs

namespace headNoneUpto
set_option maxRecDepth 100000 in
theorem lifted (os : Os) (started : os.Started) (H : Type) (enc : TypeId × Value → H) (F : Stop.Interp) :
    ReturnsInHanded {} Tryz.checked os 4 .any ((Rows.OpenSpec.upto Rows.headNoneSpec).pre6 enc Tryz.prog Tryz.f4 Rows.headNoneUptoRow.domain false) (((Rows.OpenSpec.upto Rows.headNoneSpec).at F).post enc Tryz.prog Tryz.f4 false true false false) :=
  law_upto (C := Tryz.checked) (s := Rows.headNoneSpec) (tb := 4) own_prog started (by kernel_rfl) Tryz.func4
    (OpenSpec.witness (enc := enc) (C := Tryz.checked) (s := Rows.OpenSpec.upto Rows.headNoneSpec) (k := Rows.uptoSmall) rfl false ⟨#[], #[.slice none 0 0], []⟩ 8 (by kernel_rfl) (by kernel_rfl) (by kernel_rfl)
      (x := ([.nil], [], [])) (by kernel_rfl) rfl (by kernel_rfl))
    laidOut (by kernel_rfl) rfl Tryz.underlying4 ⟨rfl, fun H ds h => match ds, h with | [_], _ => ⟨rfl, rfl, rfl⟩⟩ (headNone_walk enc)

end headNoneUpto
end Go.Proofs.YthncochjhbmceaaGreat
