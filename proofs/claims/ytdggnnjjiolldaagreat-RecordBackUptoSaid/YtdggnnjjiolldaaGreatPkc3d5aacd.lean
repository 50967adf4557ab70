/- The reference's Spans and Alike, walked. Condition: the records' rows show what they say. -/
import Derived.Test.YtdggnnjjiolldaaGreatPk73c6f7c3
namespace Go.Proofs.YtdggnnjjiolldaaGreat
set_option maxRecDepth 100000
open Go.RowKit Go.Shelf

open Classical in
set_option maxHeartbeats 1600000 in
theorem rspans_any (A B : Option Addr) (n m c1 c2 : Nat) (l l2 : List Spn) (w : World) (b1 b2 : Nat) (hr : Row w b1 2 A n (l.flatMap Spn.cells)) (hr2 : Row w b2 2 B m (l2.flatMap Spn.cells)) (hl : l.length = n) (hl2 : l2.length = m) (hn : n ≤ 4611686018427387904) (hm : m ≤ 4611686018427387904) :
    Calls Tryz.prog 23 #[.slice A n c1, .slice B m c2] w fun e w' => e = .returned (.bool (decide (l = l2))) ∧ ∃ k, w' = w.drewN k := by
  have hK : ∀ x : Spn, x.cells.length = 2 := fun _ => rfl
  by_cases hnm : n = m
  · subst hnm
    have hL := hidden hl
    have hL2 := hidden hl2
    have HR := hidden hr
    have HR2 := hidden hr2
    have hnn : ((n : Int) != (n : Int)) = false := by simp
    clear hl hl2 hr hr2
    go_enter Tryz.func23, Tryz.ntmps23
    go_wp2_with fail
    go_loopw [5] (fun i wr => ∃ q : Nat, q ≤ n ∧ i = .int .i64 q ∧ Hid (l.take q = l2.take q) ∧ (∃ m, wr = w.drewN m)) (fun i _ => n - (intOf i).toNat)
    case atStart => exact ⟨0, Nat.zero_le _, rfl, hidden rfl, 0, rfl⟩
    case round =>
      obtain ⟨q, hq1, rfl, hT, m, rfl⟩ := hrel
      by_cases hlt : q < n
      · obtain ⟨gs, o, x, rfl, _, hx, hcl⟩ := row_at hK HR.out hL.out q hlt
        obtain ⟨gt, p, y, rfl, _, hy, hdl⟩ := row_at hK HR2.out hL2.out q hlt
        have c0 : w.cell? ⟨gs, o + q * 2, none⟩ = some (.int .i64 x.frm) := hcl 0 (by omega)
        have c1 : w.cell? ⟨gs, o + q * 2 + 1, none⟩ = some (.int .i64 x.til) := hcl 1 (by omega)
        have d0 : w.cell? ⟨gt, p + q * 2, none⟩ = some (.int .i64 y.frm) := hdl 0 (by omega)
        have d1 : w.cell? ⟨gt, p + q * 2 + 1, none⟩ = some (.int .i64 y.til) := hdl 1 (by omega)
        have hlt' : (q : Int) < (n : Int) := by omega
        have hq0 : (0 : Int) ≤ (q : Int) := by omega
        by_cases hxy : x = y
        · subst hxy
          have hT2 := hidden (show l.take (q + 1) = l2.take (q + 1) by rw [take_snoc? hx, take_snoc? hy, hT.out])
          clear hx hy hcl hdl
          go_wp2_with fail
          go_quiet (fail)
          go_wp2_with fail
          go_roundw
          case rel => exact ⟨q + 1, by omega, by go_num, hT2, m + nq, rfl⟩
          case measure => simp [intOf]; omega
        · have HF := hidden (decide_eq_false (fun h : l = l2 => by
            rw [h] at hx
            exact hxy (Option.some.inj (hx.symm.trans hy))))
          have hdiff : (x.frm == y.frm) = false ∨ ((x.frm == y.frm) = true ∧ (x.til == y.til) = false) := by
            by_cases h1 : x.frm = y.frm
            · exact .inr ⟨by simpa using h1, by simpa using fun h2 => hxy (spn_eq h1 h2)⟩
            · exact .inl (by simpa using h1)
          clear hx hy hcl hdl hxy
          rcases hdiff with e1 | ⟨e1, e2⟩
          all_goals
            go_wp2_with fail
            go_quiet (fail)
            go_wp2_with fail
            go_ret
            rw [HF.out]
            exact ⟨rfl, m + nq, World.drewN_drewN _ _ _⟩
      · have hlt' : ¬ (q : Int) < (n : Int) := by omega
        have hqn : q = n := by omega
        have HF := hidden (decide_eq_true (show l = l2 by
          have h := hT.out
          rw [hqn, List.take_of_length_le (by rw [hL.out]; exact Nat.le_refl _), List.take_of_length_le (by rw [hL2.out]; exact Nat.le_refl _)] at h
          exact h))
        go_wp2_with fail
        go_ret
        rw [HF.out]
        exact ⟨rfl, m, rfl⟩
  · have hne : ((n : Int) != (m : Int)) = true := by simp; omega
    have HF := hidden (decide_eq_false (fun h : l = l2 => by subst h; omega))
    go_enter Tryz.func23, Tryz.ntmps23
    go_wp2_with fail
    go_ret
    rw [HF.out]
    exact ⟨rfl, 0, rfl⟩

/-- two records tell the same -/
def sameRec (r r' : RecR) : Prop := r.news.l.map newV = r'.news.l.map newV ∧ r.pts.l = r'.pts.l ∧ r.gones.l.map gonV = r'.gones.l.map gonV
theorem pnt_eq {x y : PntR} (h1 : x.ref = y.ref) (h2 : x.t = y.t) (h3 : x.v = y.v) : x = y := by cases x; cases y; simp_all
theorem take_map_more {α β : Type} {f : α → β} {l l2 : List α} {k : Nat} {x y : α} (h : (l.take k).map f = (l2.take k).map f) (hx : l[k]? = some x) (hy : l2[k]? = some y) (e : f x = f y) : (l.take (k + 1)).map f = (l2.take (k + 1)).map f := by
  rw [take_snoc? hx, take_snoc? hy, List.map_append, List.map_append, h, List.map_cons, List.map_cons, e]
theorem map_at_ne {α β : Type} {f : α → β} {l l2 : List α} {k : Nat} {x y : α} (hx : l[k]? = some x) (hy : l2[k]? = some y) (e : f x ≠ f y) : l.map f ≠ l2.map f := fun h => by
  have := congrArg (fun z => z[k]?) h
  simp only [List.getElem?_map, hx, hy, Option.map_some, Option.some.injEq] at this
  exact e this
set_option maxHeartbeats 6400000 in
open Classical in
theorem ralike_any (r r' : RecR) (w : World) (h : r.At w) (h' : r'.At w) :
    Calls Tryz.prog 10 #[r.val, r'.val] w fun e w' => e = .returned (.bool (decide (sameRec r r'))) ∧ Below w.heap.size w w' := by
  obtain ⟨⟨nA, nn, nc, nl⟩, ⟨pA, pn, pc, pl⟩, ⟨gA, gn, gc, gl⟩⟩ := r
  obtain ⟨⟨mA, mn, mc, ml⟩, ⟨qA, qn, qc, ql⟩, ⟨kA, kn, kc, kl⟩⟩ := r'
  have hnl : nl.length = nn := h.news.2.1
  have hpl : pl.length = pn := h.pts.2.1
  have hgl : gl.length = gn := h.gones.2.1
  have hml : ml.length = mn := h'.news.2.1
  have hql : ql.length = qn := h'.pts.2.1
  have hkl : kl.length = kn := h'.gones.2.1
  obtain ⟨V, hV⟩ : ∃ V, decide (sameRec ⟨⟨nA, nn, nc, nl⟩, ⟨pA, pn, pc, pl⟩, ⟨gA, gn, gc, gl⟩⟩ ⟨⟨mA, mn, mc, ml⟩, ⟨qA, qn, qc, ql⟩, ⟨kA, kn, kc, kl⟩⟩) = V := ⟨_, rfl⟩
  have HV := hidden hV
  rw [hV]
  have HL := hidden (And.intro hnl (And.intro hpl hgl))
  have HM := hidden (And.intro hml (And.intro hql hkl))
  show Calls Tryz.prog 10 #[.agg #[.slice nA nn nc, .slice pA pn pc, .slice gA gn gc], .agg #[.slice mA mn mc, .slice qA qn qc, .slice kA kn kc]] w _
  by_cases hlen : nn = mn ∧ pn = qn ∧ gn = kn
  · obtain ⟨rfl, rfl, rfl⟩ := hlen
    obtain ⟨f1, f2, f3, f4⟩ := h.few
    simp only at f1 f2 f3
    have F4 := hidden (show (gl.map fun x => x.sp.n).sum ≤ 4294967296 from f4)
    have F4' := hidden (show (kl.map fun x => x.sp.n).sum ≤ 4294967296 from h'.few.2.2.2)
    have H0 := hidden h
    have H0' := hidden h'
    have e1 : ((nn : Int) != (nn : Int)) = false := by simp
    have e2 : ((pn : Int) != (pn : Int)) = false := by simp
    have e3 : ((gn : Int) != (gn : Int)) = false := by simp
    have hB0 := (Whole1.new w 36 #[.slice nA nn nc, .slice pA pn pc, .slice gA gn gc]).alloc (.cells #[.slice mA nn mc, .slice qA pn qc, .slice kA gn kc] 36)
    have hB1 := Whole1.new (w.alloc (.cells #[.slice nA nn nc, .slice pA pn pc, .slice gA gn gc] 36)) 36 #[.slice mA nn mc, .slice qA pn qc, .slice kA gn kc]
    have hbW : Below w.heap.size w ((w.alloc (.cells #[.slice nA nn nc, .slice pA pn pc, .slice gA gn gc] 36)).alloc (.cells #[.slice mA nn mc, .slice qA pn qc, .slice kA gn kc] 36)) := ((Below.refl _ _).alloc (Nat.le_refl _) _).alloc (by simp [World.size_alloc]) _
    obtain ⟨w1, hw1⟩ : ∃ w1, (w.alloc (.cells #[.slice nA nn nc, .slice pA pn pc, .slice gA gn gc] 36)).alloc (.cells #[.slice mA nn mc, .slice qA pn qc, .slice kA gn kc] 36) = w1 := ⟨_, rfl⟩
    obtain ⟨B, hB⟩ : ∃ B, w.heap.size = B := ⟨_, rfl⟩
    rw [World.size_alloc] at hB1
    rw [hw1] at hB0 hB1 hbW
    have H1 := hidden (H0.out.on hbW)
    have H1' := hidden (H0'.out.on hbW)
    rw [hB] at hB0 hB1
    have HB0 := hidden hB0
    have HB1 := hidden hB1
    have HW1 := hidden hw1
    have HBB := hidden hB
    have HBW := hidden hbW
    have a0 := hB0.cell 0
    have a1 := hB0.cell 1
    have a2 := hB0.cell 2
    have b0 := hB1.cell 0
    have b1 := hB1.cell 1
    have b2 := hB1.cell 2
    clear hB0 hB1 hw1 hB hbW h h' H0 H0' f4 hnl hpl hgl hml hql hkl hV
    go_enter Tryz.func10, Tryz.ntmps10
    go_upto_region 1 with (fail)
    rw [HW1.out, HBB.out]
    go_wp2_with fail
    go_loopw [5] (fun vi wr => ∃ k : Nat, k ≤ nn ∧ vi = .int .i64 k ∧ Hid ((nl.take k).map newV = (ml.take k).map newV) ∧ ∃ q, wr = w1.drewN q) (fun vi _ => nn - (intOf vi).toNat)
    case atStart => exact ⟨0, Nat.zero_le _, rfl, hidden rfl, 0, rfl⟩
    case round =>
      obtain ⟨k, hkn, rfl, hT, q, hwq⟩ := hrel
      have HQ := hidden hwq
      have HWQ := hidden (show Below w1.heap.size w1 wr by rw [hwq]; exact below_drewN (Below.refl _ _) q)
      have HX := hidden (H1.out.on HWQ.out)
      have HX' := hidden (H1'.out.on HWQ.out)
      have a0 := (HB0.out.below HWQ.out HB0.out.lt).cell 0
      have b0 := (HB1.out.below HWQ.out HB1.out.lt).cell 0
      have k0 : (0 : Int) ≤ (k : Int) := by omega
      clear hwq
      by_cases hlt : k < nn
      · have k1 : (k : Int) < (nn : Int) := by omega
        obtain ⟨gs, o, x, rfl, _, hx, hcl⟩ := row_at newK HX.out.news.2.2 HL.out.1 k hlt
        obtain ⟨gt, p, y, rfl, _, hy, hdl⟩ := row_at newK HX'.out.news.2.2 HM.out.1 k hlt
        have c0 : wr.cell? ⟨gs, o + k * 2, none⟩ = some (.int .i64 x.ref) := hcl 0 (by omega)
        have c1 : wr.cell? ⟨gs, o + k * 2 + 1, none⟩ = some (.slice x.lab.A x.lab.n x.lab.c) := hcl 1 (by omega)
        have d0 : wr.cell? ⟨gt, p + k * 2, none⟩ = some (.int .i64 y.ref) := hdl 0 (by omega)
        have d1 : wr.cell? ⟨gt, p + k * 2 + 1, none⟩ = some (.slice y.lab.A y.lab.n y.lab.c) := hdl 1 (by omega)
        obtain ⟨z1, _⟩ := HX.out.labs x (List.mem_of_getElem? hx)
        obtain ⟨z2, _⟩ := HX'.out.labs y (List.mem_of_getElem? hy)
        have S2 : ∀ t, Calls Tryz.prog 40 #[.slice x.lab.A x.lab.n x.lab.c, .slice y.lab.A y.lab.n y.lab.c] (wr.drewN t) fun e w' => e = .returned (.int .i64 (cmpLs x.lab.l y.lab.l)) ∧ ∃ r, w' = (wr.drewN t).drewN r :=
          fun t => rcompare_any x.lab.A y.lab.A x.lab.n y.lab.n x.lab.c y.lab.c x.lab.l y.lab.l (wr.drewN t) wr.heap.size wr.heap.size (z1.row.drewN t) (z2.row.drewN t) z1.len z2.len (by have := z1.fit; omega)
        have HC := hidden (cmpLs_zero x.lab.l y.lab.l)
        obtain ⟨c, hc⟩ : ∃ c, cmpLs x.lab.l y.lab.l = c := ⟨_, rfl⟩
        rw [hc] at S2 HC
        clear z1 z2 hcl hdl hc
        by_cases hxy : newV x = newV y
        · have HT2 := hidden (take_map_more hT.out hx hy hxy)
          simp only [newV, Prod.mk.injEq] at hxy
          have g1 : (x.ref != y.ref) = false := by simpa using hxy.1
          have g2 : (c != 0) = false := by simpa using HC.out.2 hxy.2
          clear hx hy hxy
          go_upto_region 6 with (fail)
          go_quiet ((go_at_call 40; refine Calls.quiet_of (S2 _)))
          clear S2
          go_wp2_with fail
          go_quiet (fail)
          go_wp2_with fail
          go_roundw
          case rel => exact ⟨k + 1, by omega, by go_num, HT2, _, by rw [HQ.out, World.drewN_drewN]⟩
          case measure => simp only [intOf]; omega
        · have HF := hidden (map_at_ne hx hy hxy)
          obtain rfl : false = V := by rw [← HV.out]; exact (decide_eq_false fun h => HF.out h.1).symm
          have hdiff : (x.ref != y.ref) = true ∨ ((x.ref != y.ref) = false ∧ (c != 0) = true) := by
            by_cases h1 : x.ref = y.ref
            · refine .inr ⟨by simpa using h1, ?_⟩
              have : c ≠ 0 := fun h2 => hxy (by simp only [newV, Prod.mk.injEq]; exact ⟨h1, HC.out.1 h2⟩)
              simpa using this
            · exact .inl (by simpa using h1)
          clear hx hy hxy
          rcases hdiff with g1 | ⟨g1, g2⟩
          all_goals
            go_upto_region 6 with (fail)
            go_quiet ((go_at_call 40; refine Calls.quiet_of (S2 _)))
            clear S2
            go_wp2_with fail
            go_quiet (fail)
            go_wp2_with fail
            go_ret
            exact ⟨rfl, below_drewN (below_drewN (HBW.out.trans (HWQ.out.mono HBW.out.size)) _) _⟩
      · obtain rfl : k = nn := by omega
        have HT1 := hidden (show nl.map newV = ml.map newV by have := hT.out; rwa [List.take_of_length_le (by rw [HL.out.1]; exact Nat.le_refl _), List.take_of_length_le (by rw [HM.out.1]; exact Nat.le_refl _)] at this)
        clear hT
        go_wp2_with fail
        go_loopw [7] (fun vi wx => ∃ j : Nat, j ≤ pn ∧ vi = .int .i64 j ∧ Hid (pl.take j = ql.take j) ∧ ∃ q, wx = w1.drewN q) (fun vi _ => pn - (intOf vi).toNat)
        case atStart => exact ⟨0, Nat.zero_le _, rfl, hidden rfl, _, HQ.out⟩
        case round =>
          obtain ⟨j, hjn, rfl, hT, q, hwq⟩ := hrel
          have HQ := hidden hwq
          have HWQ := hidden (show Below w1.heap.size w1 wr by rw [hwq]; exact below_drewN (Below.refl _ _) q)
          have HX := hidden (H1.out.on HWQ.out)
          have HX' := hidden (H1'.out.on HWQ.out)
          have a0 := (HB0.out.below HWQ.out HB0.out.lt).cell 1
          have b0 := (HB1.out.below HWQ.out HB1.out.lt).cell 1
          have j0 : (0 : Int) ≤ (j : Int) := by omega
          clear hwq
          by_cases hlt : j < pn
          · have j1 : (j : Int) < (pn : Int) := by omega
            obtain ⟨gs, o, x, rfl, _, hx, hcl⟩ := row_at pntK HX.out.pts.2.2 HL.out.2.1 j hlt
            obtain ⟨gt, p, y, rfl, _, hy, hdl⟩ := row_at pntK HX'.out.pts.2.2 HM.out.2.1 j hlt
            have c0 : wr.cell? ⟨gs, o + j * 3, none⟩ = some (.int .i64 x.ref) := hcl 0 (by omega)
            have c1 : wr.cell? ⟨gs, o + j * 3 + 1, none⟩ = some (.int .i64 x.t) := hcl 1 (by omega)
            have c2 : wr.cell? ⟨gs, o + j * 3 + 2, none⟩ = some (.int .u64 (x.v : Int)) := hcl 2 (by omega)
            have d0 : wr.cell? ⟨gt, p + j * 3, none⟩ = some (.int .i64 y.ref) := hdl 0 (by omega)
            have d1 : wr.cell? ⟨gt, p + j * 3 + 1, none⟩ = some (.int .i64 y.t) := hdl 1 (by omega)
            have d2 : wr.cell? ⟨gt, p + j * 3 + 2, none⟩ = some (.int .u64 (y.v : Int)) := hdl 2 (by omega)
            clear hcl hdl
            by_cases hxy : x = y
            · subst hxy
              have HT2 := hidden (show pl.take (j + 1) = ql.take (j + 1) by rw [take_snoc? hx, take_snoc? hy, hT.out])
              clear hx hy
              go_wp2_with fail
              go_quiet (fail)
              go_wp2_with fail
              go_roundw
              case rel => exact ⟨j + 1, by omega, by go_num, HT2, _, by rw [HQ.out, World.drewN_drewN]⟩
              case measure => simp only [intOf]; omega
            · obtain rfl : false = V := by
                rw [← HV.out]
                refine (decide_eq_false fun h => hxy ?_).symm
                have e : pl = ql := h.2.1
                rw [e] at hx
                exact Option.some.inj (hx.symm.trans hy)
              have hdiff : (x.ref == y.ref) = false ∨ ((x.ref == y.ref) = true ∧ (x.t == y.t) = false) ∨ ((x.ref == y.ref) = true ∧ (x.t == y.t) = true ∧ ((x.v : Int) == (y.v : Int)) = false) := by
                by_cases h1 : x.ref = y.ref
                · by_cases h2 : x.t = y.t
                  · refine .inr (.inr ⟨by simpa using h1, by simpa using h2, ?_⟩)
                    have : x.v ≠ y.v := fun h3 => hxy (pnt_eq h1 h2 h3)
                    simp only [beq_eq_false_iff_ne]; omega
                  · exact .inr (.inl ⟨by simpa using h1, by simpa using h2⟩)
                · exact .inl (by simpa using h1)
              clear hx hy hxy
              rcases hdiff with g1 | ⟨g1, g2⟩ | ⟨g1, g2, g3⟩
              all_goals
                go_wp2_with fail
                go_quiet (fail)
                go_wp2_with fail
                go_ret
                exact ⟨rfl, below_drewN (HBW.out.trans (HWQ.out.mono HBW.out.size)) _⟩
          · obtain rfl : j = pn := by omega
            have HT3 := hidden (show pl = ql by have := hT.out; rwa [List.take_of_length_le (by rw [HL.out.2.1]; exact Nat.le_refl _), List.take_of_length_le (by rw [HM.out.2.1]; exact Nat.le_refl _)] at this)
            clear hT
            go_wp2_with fail
            go_loopw [8] (fun vi wx => ∃ j : Nat, j ≤ gn ∧ vi = .int .i64 j ∧ Hid ((gl.take j).map gonV = (kl.take j).map gonV) ∧ ∃ q, wx = w1.drewN q) (fun vi _ => gn - (intOf vi).toNat)
            case atStart => exact ⟨0, Nat.zero_le _, rfl, hidden rfl, _, HQ.out⟩
            case round =>
              obtain ⟨j, hjn, rfl, hT, q, hwq⟩ := hrel
              have HQ := hidden hwq
              have HWQ := hidden (show Below w1.heap.size w1 wr by rw [hwq]; exact below_drewN (Below.refl _ _) q)
              have HX := hidden (H1.out.on HWQ.out)
              have HX' := hidden (H1'.out.on HWQ.out)
              have a0 := (HB0.out.below HWQ.out HB0.out.lt).cell 2
              have b0 := (HB1.out.below HWQ.out HB1.out.lt).cell 2
              have j0 : (0 : Int) ≤ (j : Int) := by omega
              clear hwq
              by_cases hlt : j < gn
              · have j1 : (j : Int) < (gn : Int) := by omega
                obtain ⟨gs, o, x, rfl, _, hx, hcl⟩ := row_at gonRK HX.out.gones.2.2 HL.out.2.2 j hlt
                obtain ⟨gt, p, y, rfl, _, hy, hdl⟩ := row_at gonRK HX'.out.gones.2.2 HM.out.2.2 j hlt
                have c0 : wr.cell? ⟨gs, o + j * 3, none⟩ = some (.int .i64 x.ref) := hcl 0 (by omega)
                have c1 : wr.cell? ⟨gs, o + j * 3 + 1, none⟩ = some (.int .i64 x.res) := hcl 1 (by omega)
                have c2 : wr.cell? ⟨gs, o + j * 3 + 2, none⟩ = some (.slice x.sp.A x.sp.n x.sp.c) := hcl 2 (by omega)
                have d0 : wr.cell? ⟨gt, p + j * 3, none⟩ = some (.int .i64 y.ref) := hdl 0 (by omega)
                have d1 : wr.cell? ⟨gt, p + j * 3 + 1, none⟩ = some (.int .i64 y.res) := hdl 1 (by omega)
                have d2 : wr.cell? ⟨gt, p + j * 3 + 2, none⟩ = some (.slice y.sp.A y.sp.n y.sp.c) := hdl 2 (by omega)
                obtain ⟨⟨_, x2, x3⟩, _⟩ := HX.out.spans x (List.mem_of_getElem? hx)
                obtain ⟨⟨_, y2, y3⟩, _⟩ := HX'.out.spans y (List.mem_of_getElem? hy)
                have x4 := few_sp F4.out (List.mem_of_getElem? hx)
                have y4 := few_sp F4'.out (List.mem_of_getElem? hy)
                have S2 : ∀ t, Calls Tryz.prog 23 #[.slice x.sp.A x.sp.n x.sp.c, .slice y.sp.A y.sp.n y.sp.c] (wr.drewN t) fun e w' => e = .returned (.bool (decide (x.sp.l = y.sp.l))) ∧ ∃ r, w' = (wr.drewN t).drewN r :=
                  fun t => rspans_any x.sp.A y.sp.A x.sp.n y.sp.n x.sp.c y.sp.c x.sp.l y.sp.l (wr.drewN t) wr.heap.size wr.heap.size (x3.drewN t) (y3.drewN t) x2 y2 (by omega) (by omega)
                clear hcl hdl x2 x3 y2 y3 x4 y4
                obtain ⟨c, hc⟩ : ∃ c, decide (x.sp.l = y.sp.l) = c := ⟨_, rfl⟩
                rw [hc] at S2
                by_cases hxy : gonV x = gonV y
                · have HT2 := hidden (take_map_more hT.out hx hy hxy)
                  simp only [gonV, Prod.mk.injEq] at hxy
                  have g1 : (x.ref != y.ref) = false := by simpa using hxy.1
                  have g2 : (x.res != y.res) = false := by simpa using hxy.2.1
                  obtain rfl : true = c := by rw [← hc]; exact (decide_eq_true hxy.2.2).symm
                  clear hx hy hxy hc
                  go_upto_region 17 with (fail)
                  go_quiet ((go_at_call 23; refine Calls.quiet_of (S2 _)))
                  clear S2
                  go_wp2_with fail
                  go_quiet (fail)
                  go_wp2_with fail
                  go_roundw
                  case rel => exact ⟨j + 1, by omega, by go_num, HT2, _, by rw [HQ.out, World.drewN_drewN]⟩
                  case measure => simp only [intOf]; omega
                · have HF := hidden (map_at_ne hx hy hxy)
                  obtain rfl : false = V := by rw [← HV.out]; exact (decide_eq_false fun h => HF.out h.2.2).symm
                  have hdiff : c = false ∨ (c = true ∧ (x.ref != y.ref) = true) ∨ (c = true ∧ (x.ref != y.ref) = false ∧ (x.res != y.res) = true) := by
                    by_cases h1 : x.sp.l = y.sp.l
                    · have hct : c = true := by rw [← hc]; exact decide_eq_true h1
                      by_cases h2 : x.ref = y.ref
                      · refine .inr (.inr ⟨hct, by simpa using h2, ?_⟩)
                        have : x.res ≠ y.res := fun h3 => hxy (by simp only [gonV, Prod.mk.injEq]; exact ⟨h2, h3, h1⟩)
                        simpa using this
                      · exact .inr (.inl ⟨hct, by simpa using h2⟩)
                    · exact .inl (by rw [← hc]; exact decide_eq_false h1)
                  clear hx hy hxy hc
                  rcases hdiff with rfl | ⟨rfl, g1⟩ | ⟨rfl, g1, g2⟩
                  all_goals
                    go_upto_region 17 with (fail)
                    go_quiet ((go_at_call 23; refine Calls.quiet_of (S2 _)))
                    clear S2
                    go_wp2_with fail
                    go_quiet (fail)
                    go_wp2_with fail
                    go_ret
                    exact ⟨rfl, below_drewN (below_drewN (HBW.out.trans (HWQ.out.mono HBW.out.size)) _) _⟩
              · obtain rfl : j = gn := by omega
                obtain rfl : true = V := by
                  rw [← HV.out]
                  refine (decide_eq_true ⟨HT1.out, HT3.out, ?_⟩).symm
                  have := hT.out
                  rwa [List.take_of_length_le (by rw [HL.out.2.2]; exact Nat.le_refl _), List.take_of_length_le (by rw [HM.out.2.2]; exact Nat.le_refl _)] at this
                go_wp2_with fail
                go_ret
                exact ⟨rfl, HBW.out.trans (HWQ.out.mono HBW.out.size)⟩
  · obtain rfl : false = V := by
      rw [← HV.out]
      refine (decide_eq_false fun h => hlen ⟨?_, ?_, ?_⟩).symm
      · have := congrArg List.length h.1
        simp only [List.length_map] at this
        omega
      · have := congrArg List.length h.2.1
        simp only at this
        omega
      · have := congrArg List.length h.2.2
        simp only [List.length_map] at this
        omega
    have hBW := hidden (show Below w.heap.size w ((w.alloc (.cells #[.slice nA nn nc, .slice pA pn pc, .slice gA gn gc] 36)).alloc (.cells #[.slice mA mn mc, .slice qA qn qc, .slice kA kn kc] 36)) from ((Below.refl _ _).alloc (Nat.le_refl _) _).alloc (by simp [World.size_alloc]) _)
    have hdiff : ((nn : Int) != (mn : Int)) = true ∨ (((nn : Int) != (mn : Int)) = false ∧ ((pn : Int) != (qn : Int)) = true) ∨ (((nn : Int) != (mn : Int)) = false ∧ ((pn : Int) != (qn : Int)) = false ∧ ((gn : Int) != (kn : Int)) = true) := by
      by_cases h1 : nn = mn
      · by_cases h2 : pn = qn
        · refine .inr (.inr ⟨by simp [h1], by simp [h2], ?_⟩)
          have : gn ≠ kn := fun h3 => hlen ⟨h1, h2, h3⟩
          simp only [bne_iff_ne]; omega
        · exact .inr (.inl ⟨by simp [h1], by simp only [bne_iff_ne]; omega⟩)
      · exact .inl (by simp only [bne_iff_ne]; omega)
    clear h h' hlen HL HM hnl hpl hgl hml hql hkl hV HV
    rcases hdiff with g1 | ⟨g1, g2⟩ | ⟨g1, g2, g3⟩
    all_goals
      go_enter Tryz.func10, Tryz.ntmps10
      go_wp2_with fail
      go_ret
      exact ⟨rfl, hBW.out⟩
end Go.Proofs.YtdggnnjjiolldaaGreat
