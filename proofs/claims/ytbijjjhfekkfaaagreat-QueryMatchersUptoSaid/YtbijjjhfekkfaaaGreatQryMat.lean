/- QueryMatchers, walked: what is asked for with matchers is what is told without them, but for what they don't fit. Condition: what comes in is of bulk at most 1048576. -/
import Derived.Test.YtbijjjhfekkfaaaGreatQry
import Derived.Test.YtbijjjhfekkfaaaGreatQrySame
namespace Go.Proofs.YtbijjjhfekkfaaaGreat
set_option maxRecDepth 100000
open Go.RowKit Go.Shelf Go.WideShapes Go.ChangeShapes

/-- matchers stand when a case's block turns -/
theorem fitB_case {w w' : World} (hs : ∀ g t cs, t ≠ 42 → Whole1 w g t cs → Whole1 w' g t cs) {fv : Value} {F : ByteArray → Bool} (h : FitB w fv F) : FitB w' fv F := by
  rcases h with ⟨bx, value, e, h1, h2⟩ | ⟨nb, p, t, e, h1, h2, h3⟩
  · exact .inl ⟨bx, value, e, hs _ _ _ (by decide) h1, h2⟩
  · exact .inr ⟨nb, p, t, e, hs _ _ _ (by decide) h1, isTr_nodes (fun g u cs hu h => hs _ _ _ (by rcases hu with rfl | rfl <;> decide) h) t p h2, h3⟩
theorem matAt_case {w w' : World} (hs : ∀ g t cs, t ≠ 42 → Whole1 w g t cs → Whole1 w' g t cs) {M : Nat} {kind : Int} {name value : ByteArray} {F : ByteArray → Bool} (h : MatAt w M kind name value F) : MatAt w' M kind name value F := by
  obtain ⟨fv, h1, h2⟩ := h
  refine ⟨fv, hs _ _ _ (by decide) h1, ?_⟩
  rcases h2 with h2 | ⟨tb, fv0, F0, e, k1, k2, k3⟩
  · exact .inl (fitB_case hs h2)
  · exact .inr ⟨tb, fv0, F0, e, hs _ _ _ (by decide) k1, fitB_case hs k2, k3⟩
theorem case_put {w : World} {g : Nat} {cs : Array Value} (h : Whole1 w g 42 cs) (i : Nat) (u : Value) : ∀ k t ds, t ≠ 42 → Whole1 w k t ds → Whole1 (w.setCell ⟨g, i, none⟩ u) k t ds := fun k t ds ht hk => by
  refine ((gb_put (gb_refl w (some g)) i u).block k hk.lt fun e => ?_).trans hk
  have e : k = g := Option.some.inj e
  subst e
  exact kinds_apart h hk (Ne.symm ht) rfl
set_option maxHeartbeats 3200000 in
theorem matqry_any (x : CaseV) (w : World) (h : x.Ok w) :
    Calls Tryz.prog 5 #[x.val] w fun e w' => e = .returned (.bool true) ∧ Below w.heap.size w w' := by
  obtain ⟨i0, hi, hz0, hz1, hz2⟩ := info_parts info_ser
  have hw0 := Whole1.new w 42 #[.int .i64 x.r, .int .i64 x.fr, .int .i64 x.tt, .slice x.ask.A x.ask.n x.ask.c, .int .i64 x.lo0, .int .i64 x.lo1, .int .i64 x.lo2, .int .i64 x.rd0, .int .i64 x.rd1, .int .i64 x.rd2, .slice x.gon.A x.gon.n x.gon.c, .slice x.src.A x.src.n x.src.c]
  have hb0 : Below w.heap.size w (w.alloc (.cells #[.int .i64 x.r, .int .i64 x.fr, .int .i64 x.tt, .slice x.ask.A x.ask.n x.ask.c, .int .i64 x.lo0, .int .i64 x.lo1, .int .i64 x.lo2, .int .i64 x.rd0, .int .i64 x.rd1, .int .i64 x.rd2, .slice x.gon.A x.gon.n x.gon.c, .slice x.src.A x.src.n x.src.c] 42)) := (Below.refl _ _).alloc (Nat.le_refl _) _
  have H := hidden h
  clear h
  have hv : x.val = .agg #[.int .i64 x.r, .int .i64 x.fr, .int .i64 x.tt, .slice x.ask.A x.ask.n x.ask.c, .int .i64 x.lo0, .int .i64 x.lo1, .int .i64 x.lo2, .int .i64 x.rd0, .int .i64 x.rd1, .int .i64 x.rd2, .slice x.gon.A x.gon.n x.gon.c, .slice x.src.A x.src.n x.src.c] := rfl
  rw [hv]
  clear hv
  go_enter Tryz.func5, Tryz.ntmps5
  go_upto_region 1 with (fail)
  generalize w.alloc (.cells #[.int .i64 x.r, .int .i64 x.fr, .int .i64 x.tt, .slice x.ask.A x.ask.n x.ask.c, .int .i64 x.lo0, .int .i64 x.lo1, .int .i64 x.lo2, .int .i64 x.rd0, .int .i64 x.rd1, .int .i64 x.rd2, .slice x.gon.A x.gon.n x.gon.c, .slice x.src.A x.src.n x.src.c] 42) = w1 at hw0 hb0 ⊢
  obtain ⟨g, hg⟩ : ∃ g, w.heap.size = g := ⟨_, rfl⟩
  have HB := hidden hb0
  rw [hg] at hw0 ⊢
  have HG := hidden hg
  have HW := hidden hw0
  have S1 := hidden (wakes26_any w1)
  clear hw0 hb0 hg
  go_wp2_with fail
  refine S1.out.mono ?_
  rintro e w2 ⟨rfl, b2⟩
  have HB2 := hidden (HB.out.trans (b2.mono HB.out.size))
  have HW2 := hidden (HW.out.below b2 HW.out.lt)
  clear b2 S1 HW HB
  have c3 := HW2.out.cell 3
  have S2 := hidden (matchers26_any x.ask.A x.ask.n x.ask.c x.ask.l w2 (H.out.on HB2.out).ask)
  go_wp2_with fail
  refine S2.out.mono ?_
  rintro e w3 ⟨vm, vw, ms, rfl, hP, hfit, hlen⟩
  have b3 := hP.below
  have HB3 := hidden (HB2.out.trans (b3.mono HB2.out.size))
  have HW3 := hidden (HW2.out.below b3 HW2.out.lt)
  obtain ⟨Am, cm, e1, hcm, hrow⟩ := own_shape hP.one
  subst e1
  obtain ⟨Aw, cw, e2, _, _⟩ := own_shape hP.two
  subst e2
  have HM3 := hidden (And.intro hP.one hP.m1)
  have HFT := hidden (And.intro hfit (show ms.length ≤ 1048576 from Nat.le_trans hlen H.out.askn))
  have HW2L := hidden HW2.out.lt
  clear hP b3 hrow hfit hlen S2 c3 HW2 HB2 hcm
  have p0 := HW3.out.cell 0
  have p1 := HW3.out.cell 1
  have p2 := HW3.out.cell 2
  have p3 := HW3.out.cell 3
  have p4 := HW3.out.cell 4
  have p5 := HW3.out.cell 5
  have p6 := HW3.out.cell 6
  have p7 := HW3.out.cell 7
  have p8 := HW3.out.cell 8
  have p9 := HW3.out.cell 9
  have p10 := HW3.out.cell 10
  have p11 := HW3.out.cell 11
  have S3 := hidden (case_any x w3 (H.out.on HB3.out))
  go_wp2_with fail
  refine S3.out.mono ?_
  rintro e w4 ⟨na, fa, Ba, ca, La, rfl, hLa, b4, oka, k4, k5, k6⟩
  have HSL4 := hidden (And.intro hLa.small hLa.few)
  have HRa := hidden (And.intro fa (And.intro oka k4))
  have HB4 := hidden (HB3.out.trans (b4.mono HB3.out.size))
  have HW4 := hidden (HW3.out.below b4 HW3.out.lt)
  have HM4 := hidden (And.intro (own_below HM3.out.1 b4 (Nat.le_refl _)) (fun y hy => (HM3.out.2 y hy).on b4))
  obtain ⟨k6, bo, hbo, hMo⟩ := k6
  have HMO := hidden (And.intro (show g < bo by have := HW3.out.lt; omega) hMo)
  clear S3 hLa b4 oka k5 k6 fa hbo hMo HW3 HM3 HB3 p0 p1 p2 p3 p4 p5 p6 p7 p8 p9 p10 p11
  have f3 := HW4.out.free 3
  have q3 := HW4.out.cell 3
  have g1 := gb_put (gb_refl w4 (some g)) 3 (.slice none 0 0)
  have hW5 := HW4.out.put 3 (.slice none 0 0)
  have hB5 : Below w.heap.size w (w4.setCell ⟨g, 3, none⟩ (.slice none 0 0)) := HB4.out.grown g1 HB4.out.size (fun q hq => by cases hq; exact Nat.le_of_eq HG.out)
  have hW5b : Whole1 (w4.setCell ⟨g, 3, none⟩ (.slice none 0 0)) g 42 #[.int .i64 x.r, .int .i64 x.fr, .int .i64 x.tt, .slice none 0 0, .int .i64 x.lo0, .int .i64 x.lo1, .int .i64 x.lo2, .int .i64 x.rd0, .int .i64 x.rd1, .int .i64 x.rd2, .slice x.gon.A x.gon.n x.gon.c, .slice x.src.A x.src.n x.src.c] := hW5
  have hO5 := H.out.on hB5
  have hask : AskF (w4.setCell ⟨g, 3, none⟩ (.slice none 0 0)) none 0 [] := ⟨Row.nil, rfl, by omega, by simp⟩
  have S5 := hidden (case_any { x with ask := Sl.nil } (w4.setCell ⟨g, 3, none⟩ (.slice none 0 0)) ⟨H.out.fr, H.out.tt, H.out.rds, hask, by show (0 : Nat) ≤ _; omega, hO5.gon, hO5.src, H.out.few, H.out.lbl⟩)
  have HM5 := hidden (And.intro (HM4.out.1.kept g1 (by
    cases hu : (Value.slice Am ms.length cm).ownBlock with
    | none => exact .inl rfl
    | some q => exact .inr fun e => by cases e; have := (HM4.out.1.lt _ hu).1; have := HW2L.out; omega)) (fun y hy => matAt_case (case_put HW4.out 3 (.slice none 0 0)) (HM4.out.2 y hy)))
  have HMO5 := hidden (HMO.out.2.away g1 HMO.out.1)
  have HSL := hidden (show SL (w4.setCell ⟨g, 3, none⟩ (.slice none 0 0)) Ba La.length La from by
    obtain ⟨A9, c9, e9, _, h9⟩ := own_shape HMO5.out.row
    cases e9
    exact ⟨h9, rfl, fun y hy => (HMO5.out.own y hy).at_, HSL4.out.1, HSL4.out.2⟩)
  have HB5 := hidden hB5
  have p0 := hW5b.cell 0
  have p1 := hW5b.cell 1
  have p2 := hW5b.cell 2
  have p3 := hW5b.cell 3
  have p4 := hW5b.cell 4
  have p5 := hW5b.cell 5
  have p6 := hW5b.cell 6
  have p7 := hW5b.cell 7
  have p8 := hW5b.cell 8
  have p9 := hW5b.cell 9
  have p10 := hW5b.cell 10
  have p11 := hW5b.cell 11
  clear HB4 HW4 HM4 HMO HMO5 HSL4 g1 hW5 hB5 hW5b hO5 hask
  go_wp2_with fail
  obtain ⟨W5, hW5⟩ : ∃ W5, w4.setCell ⟨g, 3, none⟩ (.slice none 0 0) = W5 := ⟨_, rfl⟩
  rw [hW5] at HM5 HB5 S5 HSL ⊢
  refine S5.out.mono ?_
  rintro e w6 ⟨nb, fb, Bb, cb, Lb, rfl, hLb, b6, okb, l4, l5, l6⟩
  obtain rfl : nb = [] := List.map_eq_nil_iff.1 fb
  have HK := hidden (show La.map Ser.sk = filtK ms (Lb.map Ser.sk) from by
    rw [match_plain HRa.out.2.1 okb]
    exact filtK_fit (HRa.out.1.trans HFT.out.1.symm) _)
  have HB6 := hidden (HB5.out.trans (b6.mono HB5.out.size))
  have HM6 := hidden (And.intro (own_below HM5.out.1 b6 (Nat.le_refl _)) (fun y hy => (HM5.out.2 y hy).on b6))
  have HSL6 := hidden (HSL.out.on b6)
  have HLb := hidden (And.intro hLb l4)
  have HZ := hidden (show ∀ y ∈ Lb, ∀ z ∈ y.lab.l, z.name.size ≤ 140737488355328 ∧ z.value.size ≤ 140737488355328 from fun y hy z hz => by
    obtain ⟨c, hc, ec⟩ := runOk_key okb (List.mem_map_of_mem (f := Ser.sk) hy)
    obtain ⟨u, hu, rfl⟩ := List.mem_map.1 hc
    obtain ⟨s, hs, hu⟩ := List.mem_flatMap.1 hu
    have e1 : u.lab.l = y.lab.l := ec
    exact H.out.lbl s hs u hu z (by rw [e1]; exact hz))
  clear S5 hLb b6 okb l4 l5 l6 fb HB5 HM5 HSL hW5 p0 p1 p2 p3 p4 p5 p6 p7 p8 p9 p10 p11 f3 q3
  have HMT := hidden (show MtRow w6 Am ms.length ms from by
    obtain ⟨A9, c9, e9, _, h9⟩ := own_shape HM6.out.1
    cases e9
    exact ⟨h9, rfl, HM6.out.2⟩)
  clear HM6
  go_wp2_with fail
  go_loopw [9, 33] (fun vo vi wr => ∃ k : Nat, vi = .int .i64 k ∧ k ≤ Lb.length ∧ Hid (wr.ownsRow w6.heap.size 57 3 vo ((Lb.take k).filter fun y => allM y.lab.l ms).length (((Lb.take k).filter fun y => allM y.lab.l ms).flatMap Ser.cells)) ∧ Hid (Below w6.heap.size w6 wr)) (fun _ vi _ => Lb.length - (intOf vi).toNat)
  case atStart => exact ⟨0, rfl, Nat.zero_le _, hidden (World.ownsRow_nil _ _ _ _), hidden (Below.refl _ _)⟩
  case round =>
    obtain ⟨k, rfl, hk, ho, hb⟩ := hrel
    have k0 : (0 : Int) ≤ (k : Int) := by omega
    have hfew := HLb.out.1.few
    by_cases hlt : k < Lb.length
    · have k1 : (k : Int) < (Lb.length : Int) := by omega
      have fwk : IntKind.i64.wrap ((k : Int) + 1) = (k : Int) + 1 := Go.IntWalk.i64_in _ (by omega)
      obtain ⟨gs, o, rfl, hgs, y, hy, c0, c1, c2⟩ := ser_cells_at HLb.out.1.row HLb.out.1.len hb.out k hlt
      have hym := List.mem_of_getElem? hy
      have hT := hidden (take_snoc? hy)
      have hlab := (HLb.out.1.at_ y hym).lab
      have hfit := HLb.out.1.fit y hym
      have hzy := HZ.out y hym
      obtain ⟨⟨lA, lN, lC, ll⟩, ⟨sA, sN, sC, sl⟩, ⟨wA, wN, wC, wl⟩⟩ := y
      simp only [Sl.val] at c0 c1 c2 hlab hfit hzy
      have hb1 : Below wr.heap.size wr (wr.alloc (.cells #[.slice lA lN lC, .slice sA sN sC, .slice wA wN wC] 57)) := (Below.refl _ _).alloc (Nat.le_refl _) _
      have hw1 := Whole1.new wr 57 #[.slice lA lN lC, .slice sA sN sC, .slice wA wN wC]
      obtain ⟨w1, hww⟩ : ∃ w1, wr.alloc (.cells #[.slice lA lN lC, .slice sA sN sC, .slice wA wN wC] 57) = w1 := ⟨_, rfl⟩
      rw [hww] at hb1 hw1
      have HWW := hidden hww
      have d0 := hw1.cell 0
      rw [← hww] at d0
      have hb61 := hb.out.trans (hb1.mono hb.out.size)
      have HW1 := hidden hw1
      have HO1 := hidden (own_below ho.out hb1 (Nat.le_refl _))
      have HB1 := hidden hb61
      have S7 := hidden (mall_any lA Am lN lC ms.length cm ll ms w1 ((⟨hlab.2.2, hlab.2.1, hfit.1, hzy⟩ : LbF w6 lA lN ll).on hb61) (HMT.out.on hb61) (by have := HFT.out.2; omega))
      clear hy hym hlab hfit hzy hw1 hb1 hb61 hww
      go_wp2_with fail
      rw [HWW.out]
      refine S7.out.mono ?_
      rintro e w7 ⟨rfl, b7⟩
      have hw7 := HW1.out.below b7 HW1.out.lt
      have HO7 := hidden (own_below HO1.out b7 (Nat.le_refl _))
      have HB7 := hidden (HB1.out.trans (b7.mono HB1.out.size))
      obtain ⟨X, hX⟩ : ∃ X, wr.heap.size = X := ⟨_, rfl⟩
      rw [hX] at hw7 ⊢
      have e0 := hw7.cell 0
      have e1 := hw7.cell 1
      have e2 := hw7.cell 2
      cases hall : allM ll ms with
      | false =>
        have HF := hidden (show ((Lb.take (k + 1)).filter fun y => allM y.lab.l ms) = (Lb.take k).filter fun y => allM y.lab.l ms from by rw [hT.out, List.filter_append, List.filter_cons_of_neg (by simpa using hall)]; simp)
        clear S7 b7 hw7 HO1 HB1 HW1 c0 c1 c2 d0 hX
        go_wp2_with fail
        go_roundw
        case rel => exact ⟨k + 1, by go_num, by omega, by rw [HF.out]; exact HO7, HB7⟩
        case measure => simp [intOf]; omega
      | true =>
        have HF := hidden (show ((Lb.take (k + 1)).filter fun y => allM y.lab.l ms) = ((Lb.take k).filter fun y => allM y.lab.l ms) ++ [⟨⟨lA, lN, lC, ll⟩, ⟨sA, sN, sC, sl⟩, ⟨wA, wN, wC, wl⟩⟩] from by rw [hT.out, List.filter_append, List.filter_cons_of_pos (by simpa using hall)]; simp)
        have hlf : ((Lb.take k).filter fun y => allM y.lab.l ms).length ≤ 1099511627776 := by
          have h1 := List.length_filter_le (fun y : Ser => allM y.lab.l ms) (Lb.take k)
          rw [List.length_take] at h1
          omega
        have hfr := Row.fresh w7 57 3 1 [.slice lA lN lC, .slice sA sN sC, .slice wA wN wC] rfl
        have hbs := HB7.out.size
        clear S7 b7 hw7 HO1 HB1 HW1 c0 c1 c2 d0 hX
        go_wp2_with (at_builtin; refine wpList_app _ rfl _ _ 43 rfl w6.heap.size 57 i0 _ 3 72 Tryz.underlying43 hi hz0 hz1 hz2 rfl (by decide) _ _ _ rfl (HO7.out.alloc _) _ _ _ _ _ rfl hfr (by simp [Value.oneCell']) (by unfold maxLen; omega) (by omega) (by simp; omega) ?_; intro v9 w9 hown9 hg9 hat9)
        have HO9 := hidden hown9
        have HB9 := hidden ((HB7.out.alloc hbs _).grown hg9 (by simp; omega) (fun j hj => (HO7.out.lt j hj).1))
        clear hown9 hg9 hat9 hfr
        go_roundw
        case rel =>
          refine ⟨k + 1, by go_num, by omega, ?_, HB9⟩
          rw [HF.out, List.length_append, List.length_singleton, List.flatMap_append]
          exact HO9
        case measure => simp [intOf]; omega
    · obtain rfl : k = Lb.length := by omega
      have hfl : Lb.take Lb.length = Lb := List.take_length
      rw [hfl] at ho
      have HL := hidden hb.out
      obtain ⟨Ao, co, e9, hco, h9⟩ := own_shape ho.out
      subst e9
      have HWL := hidden (show SL wr Ao (Lb.filter fun y => allM y.lab.l ms).length (Lb.filter fun y => allM y.lab.l ms) from by
        have hon := HLb.out.1.on hb.out
        exact ⟨h9, rfl, fun y hy => hon.at_ y (List.mem_filter.1 hy).1, fun y hy => hon.small y (List.mem_filter.1 hy).1, by have := List.length_filter_le (fun y : Ser => allM y.lab.l ms) Lb; omega⟩)
      have S8 := hidden (ref_law Ba La.length ca La wr (HSL6.out.on hb.out))
      have HB8 := hidden (HB6.out.trans (hb.out.mono HB6.out.size))
      clear h9 hco hfl ho hb
      go_wp2_with fail
      refine S8.out.mono ?_
      rintro e w9 ⟨A9, c9, L9, rfl, h9, hk9, b9⟩
      have HB9 := hidden (HB8.out.trans (b9.mono HB8.out.size))
      have H9 := hidden (And.intro h9 hk9)
      have S10 := hidden (ref_law Ao _ co _ w9 (HWL.out.on b9))
      clear h9 hk9 b9 S8 HB8
      go_wp2_with fail
      refine S10.out.mono ?_
      rintro e w10 ⟨A10, c10, L10, rfl, h10, hk10, b10⟩
      have HB10 := hidden (HB9.out.trans (b10.mono HB9.out.size))
      have S11 := hidden (same19 A9 A10 _ _ c9 c10 L9 L10 w10 (H9.out.1.on b10) h10 (by
        rw [H9.out.2, hk10, HK.out]
        unfold filtK
        rw [List.filter_map]
        rfl))
      clear h10 hk10 b10 S10
      go_wp2_with fail
      refine S11.out.mono ?_
      rintro e w11 ⟨rfl, b11⟩
      have HB11 := hidden (HB10.out.trans (b11.mono HB10.out.size))
      clear b11 S11
      go_wp2_with fail
      go_ret
      exact ⟨rfl, HB11.out⟩
theorem queryMatchers_walk {H : Type} (enc : TypeId × Value → H) : LawWalk enc Tryz.prog 5 Tryz.f5 (fun ds => Rows.uptoBulkAll ds ≤ 1048576) := by
  intro W base args ds p hval hA hlt hsz hcond
  rw [Tryz.params5] at hval hA hsz
  obtain ⟨v0, vs0, d0, ds0, p0, q0, hargs, rfl, rfl, h0, r0⟩ := trodAll_cons hA
  obtain ⟨rfl, rfl, rfl⟩ := trodAll_nil r0
  obtain rfl : args = #[v0] := by cases args; simp_all
  obtain ⟨x, rfl, hx⟩ := open_case (hval 0 42 v0 rfl rfl) h0 (arg_fits (j := 0) rfl rfl (fun x hx => hlt x (by simp [hx])) hsz hcond)
  exact matqry_any x W hx

namespace queryMatchersUpto
set_option maxRecDepth 100000 in
theorem lifted (os : Os) (started : os.Started) (H : Type) (enc : TypeId × Value → H) (F : Stop.Interp) :
    ReturnsInHanded {} Tryz.checked os 5 .any ((Rows.OpenSpec.upto Rows.queryMatchersSpec).pre6 enc Tryz.prog Tryz.f5 Rows.queryMatchersUptoRow.domain false) (((Rows.OpenSpec.upto Rows.queryMatchersSpec).at F).post enc Tryz.prog Tryz.f5 false true false false) :=
  law_upto (C := Tryz.checked) (s := Rows.queryMatchersSpec) (tb := 4) own_prog started (by kernel_rfl) Tryz.func5
    (OpenSpec.witness (enc := enc) (C := Tryz.checked) (s := Rows.OpenSpec.upto Rows.queryMatchersSpec) (k := Rows.uptoSmall) rfl false ⟨#[], #[.agg #[.int .i64 0, .int .i64 0, .int .i64 0, .slice none 0 0, .int .i64 0, .int .i64 0, .int .i64 0, .int .i64 0, .int .i64 0, .int .i64 0, .slice none 0 0, .slice none 0 0]], []⟩ 8 (by kernel_rfl) (by kernel_rfl) (by kernel_rfl)
      (x := ([.agg [.lit (.int .i64 0), .lit (.int .i64 0), .lit (.int .i64 0), .nil, .agg [.agg [.lit (.int .i64 0), .lit (.int .i64 0), .lit (.int .i64 0)], .agg [.lit (.int .i64 0), .lit (.int .i64 0), .lit (.int .i64 0)]], .nil, .nil]], [], [])) (by kernel_rfl) rfl (by kernel_rfl))
    laidOut (by kernel_rfl) rfl Tryz.underlying4 ⟨rfl, fun H ds h => match ds, h with | [_], _ => ⟨rfl, rfl, rfl⟩⟩ (queryMatchers_walk enc)

end queryMatchersUpto
end Go.Proofs.YtbijjjhfekkfaaaGreat
