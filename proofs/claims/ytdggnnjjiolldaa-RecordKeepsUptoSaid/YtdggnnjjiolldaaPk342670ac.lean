/- RecordKeeps: what is read is new memory: marks in one answer are seen in no other. Condition: the arguments are within the bulk that the statement names. -/
import Derived.Test.YtdggnnjjiolldaaPkddcfc633
namespace Go.Proofs.Ytdggnnjjiolldaa
set_option maxRecDepth 100000
open Go.RowKit Go.WideShapes Go.ChangeShapes Go.Shelf

/-- a slice of the call's own, whatever it holds, in a block between B and U -/
def WrB (w : World) (B U : Nat) (T : TypeId) (size : Nat) (v : Value) (n : Nat) : Prop :=
  (v = .slice none 0 0 ∧ n = 0) ∨ ∃ g cap cs, v = .slice (some ⟨g, 0, none⟩) n cap ∧ B ≤ g ∧ g < U ∧ Whole1 w g T cs ∧ cs.size = cap * size ∧ n ≤ cap
theorem WrB.of {w : World} {B U : Nat} {T : TypeId} {size n : Nat} {v : Value} {xs : List Value} (h : w.ownsRow B T size v n xs) (hU : w.heap.size ≤ U) : WrB w B U T size v n := by
  rcases h.2 with h | ⟨g, cap, cur, h1, h2, h3, h4, h5, h6, _⟩
  · exact .inl h
  · have hW : Whole1 w g T cur := h3
    exact .inr ⟨g, cap, cur, h1, h2, by have := hW.lt; omega, h3, h6, h4⟩
theorem WrB.on {w w' : World} {B U : Nat} {T : TypeId} {size n : Nat} {v : Value} (h : WrB w B U T size v n) (hb : Below U w w') : WrB w' B U T size v n := by
  rcases h with h | ⟨g, cap, cs, h1, h2, h3, h4, h5, h6⟩
  · exact .inl h
  · exact .inr ⟨g, cap, cs, h1, h2, h3, h4.below hb h3, h5, h6⟩
theorem WrB.put {w : World} {B U : Nat} {T : TypeId} {size n : Nat} {v : Value} (h : WrB w B U T size v n) (b i : Nat) (u : Value) : WrB (w.setCell ⟨b, i, none⟩ u) B U T size v n := by
  rcases h with h | ⟨g, cap, cs, h1, h2, h3, h4, h5, h6⟩
  · exact .inl h
  · by_cases e : g = b
    · subst e
      exact .inr ⟨g, cap, _, h1, h2, h3, h4.put i u, by simpa using h5, h6⟩
    · exact .inr ⟨g, cap, cs, h1, h2, h3, h4.off e _, h5, h6⟩
/-- a's memory, which is marked, and b's -/
structure KAt (w0 : World) (ga gb X Y : Nat) (σ : PS) (ra rb : RecR) (w : World) : Prop where
  low : Below ga w0 w
  b : DR gb σ rb w
  x : Whole1 w X 26 #[ra.news.val, ra.pts.val, ra.gones.val]
  y : Whole1 w Y 26 #[rb.news.val, rb.pts.val, rb.gones.val]
  news : w.ownsRow ga 48 2 ra.news.val ra.news.l.length (ra.news.l.flatMap NewR.cells)
  gones : w.ownsRow ga 53 3 ra.gones.val ra.gones.l.length (ra.gones.l.flatMap GonR.cells)
  pts : WrB w ga gb 42 3 ra.pts.val ra.pts.l.length
  labs : ∀ x ∈ ra.news.l, WrB w ga gb 50 2 x.lab.val x.lab.l.length
  spns : ∀ x ∈ ra.gones.l, WrB w ga gb 55 2 x.sp.val x.sp.l.length
theorem KAt.mark {w0 w : World} {ga gb X Y : Nat} {σ : PS} {ra rb : RecR} {T : TypeId} {g : Nat} {cs : Array Value} (h : KAt w0 ga gb X Y σ ra rb w) (hW : Whole1 w g T cs) (h1 : ga ≤ g) (h2 : g < gb) (t1 : 26 ≠ T) (t2 : T ≠ 48) (t3 : T ≠ 53) (i : Nat) (u : Value) : KAt w0 ga gb X Y σ ra rb (w.setCell ⟨g, i, none⟩ u) :=
  ⟨h.low.setCell (p := ⟨g, i, none⟩) h1 u,
    ⟨ownsRow_setCell_below h.b.nown (a := ⟨g, i, none⟩) h2 _, ownsRow_setCell_below h.b.pown (a := ⟨g, i, none⟩) h2 _, ownsRow_setCell_below h.b.gown (a := ⟨g, i, none⟩) h2 _, fun x hx => ownsRow_setCell_below (h.b.labs x hx) (a := ⟨g, i, none⟩) h2 _, fun x hx => ownsRow_setCell_below (h.b.spns x hx) (a := ⟨g, i, none⟩) h2 _, h.b.nv, h.b.pv, h.b.gv⟩,
    h.x.off (h.x.apart hW t1) _, h.y.off (h.y.apart hW t1) _, Go.ownsRow_setCell_other h.news (a := ⟨g, i, none⟩) (own_neT h.news hW t2) _, Go.ownsRow_setCell_other h.gones (a := ⟨g, i, none⟩) (own_neT h.gones hW t3) _,
    h.pts.put g i u, fun x hx => (h.labs x hx).put g i u, fun x hx => (h.spns x hx).put g i u⟩

set_option maxHeartbeats 6400000 in
theorem recordKeeps_any (r : RecR) (w : World) (hr : r.At w) (kr : r.few') :
    Calls Try.prog 5 #[r.val] w fun e w' => e = .returned (.bool true) ∧ Below w.heap.size w w' := by
  have HK := hidden kr
  have HR := hidden hr
  clear kr
  obtain ⟨⟨nA, nn, nc, nl⟩, ⟨pA, pn, pc, pl⟩, ⟨gA, gn, gc, gl⟩⟩ := r
  have hA0 := Whole1.new w 26 #[.slice nA nn nc, .slice pA pn pc, .slice gA gn gc]
  have hbW : Below w.heap.size w (w.alloc (.cells #[.slice nA nn nc, .slice pA pn pc, .slice gA gn gc] 26)) := (Below.refl _ _).alloc (Nat.le_refl _) _
  obtain ⟨w1, hw1⟩ : ∃ w1, w.alloc (.cells #[.slice nA nn nc, .slice pA pn pc, .slice gA gn gc] 26) = w1 := ⟨_, rfl⟩
  obtain ⟨B, hB⟩ : ∃ B, w.heap.size = B := ⟨_, rfl⟩
  rw [hw1] at hA0 hbW
  have HA1 := hidden (hr.on hbW)
  rw [hB] at hA0
  have XA := hidden hA0
  have HW1 := hidden hw1
  have HBB := hidden hB
  have HBW := hidden hbW
  have S1 := hidden (fun W (hW : Below w1.heap.size w1 W) => recEnc_any _ W (HA1.out.on hW))
  obtain ⟨sa, ea, hea⟩ : ∃ s e, encRec ⟨⟨nA, nn, nc, nl⟩, ⟨pA, pn, pc, pl⟩, ⟨gA, gn, gc, gl⟩⟩ = (s, e) := ⟨_, _, rfl⟩
  rw [hea] at S1
  have HEA := hidden hea
  clear hA0 hw1 hB hbW hr hea
  show Calls Try.prog 5 #[.agg #[.slice nA nn nc, .slice pA pn pc, .slice gA gn gc]] w _
  go_enter Try.func5, Try.ntmps5
  go_upto_region 1 with (fail)
  rw [HW1.out, HBB.out]
  go_wp2_with fail
  refine (wakes15_any _).mono ?_
  rintro e w2 ⟨rfl, c2⟩
  have HC2 := hidden c2
  have a0 := (XA.out.below c2 XA.out.lt).cell 0
  have a1 := (XA.out.below c2 XA.out.lt).cell 1
  have a2 := (XA.out.below c2 XA.out.lt).cell 2
  clear c2
  go_wp2_with fail
  refine (S1.out _ HC2.out).mono ?_
  rintro e w3 ⟨rfl, c3⟩
  have HC3 := hidden (HC2.out.trans (c3.mono HC2.out.size))
  clear c3 a0 a1 a2 S1 HC2
  by_cases hfit : fitRec ⟨⟨nA, nn, nc, nl⟩, ⟨pA, pn, pc, pl⟩, ⟨gA, gn, gc, gl⟩⟩
  · obtain ⟨σ, hσ, htl, hlen⟩ := rightP_at HR.out hfit HK.out
    obtain ⟨s, hs⟩ : ∃ s, recB ⟨⟨nA, nn, nc, nl⟩, ⟨pA, pn, pc, pl⟩, ⟨gA, gn, gc, gl⟩⟩ = s := ⟨_, rfl⟩
    have hE := HEA.out
    rw [encRec, if_pos hfit, hs] at hE
    simp only [Prod.mk.injEq] at hE
    obtain ⟨hsa, rfl⟩ := hE
    rw [hs] at hσ hlen
    have S2 := hidden (fun W => rdec_any s W hlen)
    rw [hsa] at S2
    have HSG := hidden hσ
    have hlenS := hidden hlen
    have HTL := hidden htl
    clear hσ htl hlen hs hsa hfit HEA
    go_wp2_with fail
    refine (S2.out _).mono ?_
    rintro e w4 ⟨c4, h4⟩
    rcases h4 with ⟨σ', ra, k1, k2, rfl⟩ | ⟨k1, _⟩
    rotate_left
    · rw [HSG.out] at k1; cases k1
    obtain rfl : σ = σ' := Option.some.inj (HSG.out.symm.trans k1)
    obtain ⟨⟨uA, un, uc, ul⟩, ⟨vA, vn, vc, vl⟩, ⟨tA, tn, tc, tl⟩⟩ := ra
    rw [show RecR.val ⟨⟨uA, un, uc, ul⟩, ⟨vA, vn, vc, vl⟩, ⟨tA, tn, tc, tl⟩⟩ = .agg #[.slice uA un uc, .slice vA vn vc, .slice tA tn tc] from rfl]
    have KA := hidden k2
    have HC4 := hidden c4
    have X0 := Whole1.new w4 26 #[.slice uA un uc, .slice vA vn vc, .slice tA tn tc]
    have hb5 : Below w4.heap.size w4 (w4.alloc (.cells #[.slice uA un uc, .slice vA vn vc, .slice tA tn tc] 26)) := (Below.refl _ _).alloc (Nat.le_refl _) _
    obtain ⟨w5, hw5⟩ : ∃ w5, w4.alloc (.cells #[.slice uA un uc, .slice vA vn vc, .slice tA tn tc] 26) = w5 := ⟨_, rfl⟩
    obtain ⟨X, hX⟩ : ∃ X, w4.heap.size = X := ⟨_, rfl⟩
    have hs5 : w5.heap.size = X + 1 := by rw [← hw5, World.size_alloc, hX]
    rw [hw5] at X0 hb5
    have KA5 := hidden (k2.on hb5)
    have HC5 := hidden (c4.trans (hb5.mono c4.size))
    rw [hX] at X0
    have HX5 := hidden X0
    have HW5 := hidden hw5
    have HXX := hidden hX
    have HS5 := hidden hs5
    clear k1 k2 c4 X0 hb5 hw5 hX hs5
    go_wp2_with fail
    rw [HW5.out, HXX.out]
    refine (S2.out _).mono ?_
    rintro e w6 ⟨c6, h6⟩
    rcases h6 with ⟨σ', rb, k1, k2, rfl⟩ | ⟨k1, _⟩
    rotate_left
    · rw [HSG.out] at k1; cases k1
    obtain rfl : σ = σ' := Option.some.inj (HSG.out.symm.trans k1)
    obtain ⟨⟨xA, xn, xc, xl⟩, ⟨yA, yn, yc, yl⟩, ⟨zA, zn, zc, zl⟩⟩ := rb
    rw [show RecR.val ⟨⟨xA, xn, xc, xl⟩, ⟨yA, yn, yc, yl⟩, ⟨zA, zn, zc, zl⟩⟩ = .agg #[.slice xA xn xc, .slice yA yn yc, .slice zA zn zc] from rfl]
    have Y0 := Whole1.new w6 26 #[.slice xA xn xc, .slice yA yn yc, .slice zA zn zc]
    have hb7 : Below w6.heap.size w6 (w6.alloc (.cells #[.slice xA xn xc, .slice yA yn yc, .slice zA zn zc] 26)) := (Below.refl _ _).alloc (Nat.le_refl _) _
    obtain ⟨w7, hw7⟩ : ∃ w7, w6.alloc (.cells #[.slice xA xn xc, .slice yA yn yc, .slice zA zn zc] 26) = w7 := ⟨_, rfl⟩
    obtain ⟨Y, hY⟩ : ∃ Y, w6.heap.size = Y := ⟨_, rfl⟩
    rw [hw7] at Y0 hb7
    have c7 := c6.trans (hb7.mono c6.size)
    have HK7 := hidden (show KAt w3 w3.heap.size w5.heap.size X Y σ ⟨⟨uA, un, uc, ul⟩, ⟨vA, vn, vc, vl⟩, ⟨tA, tn, tc, tl⟩⟩ ⟨⟨xA, xn, xc, xl⟩, ⟨yA, yn, yc, yl⟩, ⟨zA, zn, zc, zl⟩⟩ w7 from
      ⟨HC5.out.trans (c7.mono HC5.out.size), k2.on hb7, HX5.out.below c7 HX5.out.lt, by rw [← hY]; exact Y0, (KA5.out.on c7).nown, (KA5.out.on c7).gown, (WrB.of KA5.out.pown (Nat.le_refl _)).on c7, fun x hx => (WrB.of (KA5.out.labs x hx) (Nat.le_refl _)).on c7, fun x hx => (WrB.of (KA5.out.spns x hx) (Nat.le_refl _)).on c7⟩)
    obtain ⟨U, hU⟩ : ∃ U, w5.heap.size = U := ⟨_, rfl⟩
    rw [hU] at HK7
    have HW7 := hidden hw7
    have HYY := hidden hY
    have x0 := HK7.out.x.cell 0
    have x0' : (w6.alloc (.cells #[.slice xA xn xc, .slice yA yn yc, .slice zA zn zc] 26)).cell? ⟨X, 0, none⟩ = some (.slice uA un uc) := by rw [hw7]; exact x0
    have HUL := hidden (show ul.length = un from (sl_own HK7.out.news).2.1)
    have HTL2 := hidden (show tl.length = tn from (sl_own HK7.out.gones).2.1)
    have HVL := hidden (show vl.length = vn from (sl_own KA.out.pown).2.1)
    have hbig : un ≤ 4294967296 ∧ vn ≤ 4294967296 ∧ tn ≤ 4294967296 := by
      have e1 := congrArg List.length KA.out.nv
      have e2 := congrArg List.length KA.out.pv
      have e3 := congrArg List.length KA.out.gv
      have f1 := congrArg List.length HTL.out.nv
      have f2 := congrArg List.length HTL.out.pv
      have f3 := congrArg List.length HTL.out.gv
      simp only [List.length_map] at e1 e2 e3 f1 f2 f3
      have g1 := HR.out.few
      have g2 := HR.out.news.2.1
      have g3 := HR.out.pts.2.1
      have g4 := HR.out.gones.2.1
      simp only at g1 g2 g3 g4
      have := HUL.out
      have := HTL2.out
      have := HVL.out
      omega
    obtain ⟨n1, n2, n3⟩ := hbig
    have HOKS := decP_ok (rightP_some HSG.out).1
    have hRA := KA.out.At HOKS hlenS.out
    have HLN : Hid (∀ x ∈ ul, x.lab.n ≤ 4398046511104) := hidden fun x hx => by have := ((hRA.labs x hx).1).fit; omega
    have HTN : Hid (∀ x ∈ tl, x.sp.n ≤ 4294967296) := hidden fun x hx => few_sp hRA.few.2.2.2 hx
    clear k1 k2 c6 c7 Y0 hb7 hw7 hY hU S2 x0 KA5 KA HX5 HOKS hRA
    go_wp2_with fail
    rw [HW7.out, HYY.out]
    clear x0' HW7 HYY HW5 HXX HS5
    go_loopw [38] (fun vi wx => ∃ k : Nat, k ≤ un ∧ vi = .int .i64 k ∧ Hid (KAt w3 w3.heap.size U X Y σ ⟨⟨uA, un, uc, ul⟩, ⟨vA, vn, vc, vl⟩, ⟨tA, tn, tc, tl⟩⟩ ⟨⟨xA, xn, xc, xl⟩, ⟨yA, yn, yc, yl⟩, ⟨zA, zn, zc, zl⟩⟩ wx)) (fun vi _ => un - (intOf vi).toNat)
    case atStart => exact ⟨0, Nat.zero_le _, rfl, HK7⟩
    case round =>
      obtain ⟨k, hkn, rfl, hA⟩ := hrel
      have k0 : (0 : Int) ≤ (k : Int) := by omega
      by_cases hlt : k < un
      · have k1 : (k : Int) < (un : Int) := by omega
        obtain ⟨gs, o, x, hgs, _, hx, hcl⟩ := row_at newK (sl_own hA.out.news).2.2 HUL.out k hlt
        simp only at hgs
        subst hgs
        have c1 : wr.cell? ⟨gs, o + k * 2 + 1, none⟩ = some (.slice x.lab.A x.lab.n x.lab.c) := hcl 1 (by omega)
        have HXK := hidden hx
        have HXM := hidden (List.mem_of_getElem? hx)
        have hln := HLN.out x HXM.out
        have x0 : wr.cell? ⟨X, 0, none⟩ = some (.slice (some ⟨gs, o, none⟩) un uc) := hA.out.x.cell 0
        clear hx hcl
        go_wp2_with fail
        clear c1 x0
        go_loopw [48] (fun vj wy => ∃ j : Nat, j ≤ x.lab.n ∧ vj = .int .i64 j ∧ Hid (KAt w3 w3.heap.size U X Y σ ⟨⟨some ⟨gs, o, none⟩, un, uc, ul⟩, ⟨vA, vn, vc, vl⟩, ⟨tA, tn, tc, tl⟩⟩ ⟨⟨xA, xn, xc, xl⟩, ⟨yA, yn, yc, yl⟩, ⟨zA, zn, zc, zl⟩⟩ wy)) (fun vj _ => x.lab.n - (intOf vj).toNat)
        case atStart => exact ⟨0, Nat.zero_le _, rfl, hA⟩
        case round =>
          obtain ⟨j, hjn, rfl, hA2⟩ := hrel
          have j0 : (0 : Int) ≤ (j : Int) := by omega
          by_cases hjlt : j < x.lab.n
          · have j1 : (j : Int) < (x.lab.n : Int) := by omega
            obtain ⟨gs', o', x', hgs, _, hx, hcl⟩ := row_at newK (sl_own hA2.out.news).2.2 HUL.out k hlt
            simp only [Option.some.injEq, Addr.mk.injEq] at hgs
            obtain ⟨rfl, rfl, _⟩ := hgs
            obtain rfl : x = x' := Option.some.inj (HXK.out.symm.trans hx)
            have c1 : wr.cell? ⟨gs, o + k * 2 + 1, none⟩ = some (.slice x.lab.A x.lab.n x.lab.c) := hcl 1 (by omega)
            have x0 : wr.cell? ⟨X, 0, none⟩ = some (.slice (some ⟨gs, o, none⟩) un uc) := hA2.out.x.cell 0
            rcases hA2.out.labs x HXM.out with ⟨e1, e2⟩ | ⟨g, cap, cs, e1, e2, e3, e4, e5, e6⟩
            · simp only [Sl.val, Value.slice.injEq] at e1
              omega
            · simp only [Sl.val, Value.slice.injEq] at e1
              obtain ⟨e7, e8, _⟩ := e1
              rw [e7] at c1
              have f1 := e4.free (j * 2)
              obtain ⟨cv, hcv⟩ : ∃ cv, cs[j * 2]? = some cv := ⟨_, Array.getElem?_eq_getElem (show j * 2 < cs.size by omega)⟩
              have d1 : wr.cell? ⟨g, j * 2, none⟩ = some cv := by rw [e4.cell, hcv]
              have HM := hidden (hA2.out.mark e4 e2 e3 (by decide) (by decide) (by decide) (j * 2) (.string ⟨#[109, 97, 114, 107]⟩))
              clear hx hcl e4 e5 e6 e7 e8 e2 e3 hcv
              go_wp2_with fail
              exact ⟨⟨j + 1, by omega, rfl, HM⟩, by simp only [intOf]; omega⟩
          · obtain rfl : j = x.lab.n := by omega
            go_wp2_with fail
            exact ⟨⟨k + 1, by omega, rfl, hA2⟩, by simp only [intOf]; omega⟩
      · obtain rfl : un = k := by omega
        have x1 : wr.cell? ⟨X, 1, none⟩ = some (.slice vA vn vc) := hA.out.x.cell 1
        go_wp2_with fail
        clear x1
        go_loopw [65] (fun vi wx => ∃ q : Nat, q ≤ vn ∧ vi = .int .i64 q ∧ Hid (KAt w3 w3.heap.size U X Y σ ⟨⟨uA, un, uc, ul⟩, ⟨vA, vn, vc, vl⟩, ⟨tA, tn, tc, tl⟩⟩ ⟨⟨xA, xn, xc, xl⟩, ⟨yA, yn, yc, yl⟩, ⟨zA, zn, zc, zl⟩⟩ wx)) (fun vi _ => vn - (intOf vi).toNat)
        case atStart => exact ⟨0, Nat.zero_le _, rfl, hA⟩
        case round =>
          obtain ⟨q, hqn, rfl, hA⟩ := hrel
          have q0 : (0 : Int) ≤ (q : Int) := by omega
          have x1 : wr.cell? ⟨X, 1, none⟩ = some (.slice vA vn vc) := hA.out.x.cell 1
          by_cases hlt : q < vn
          · have q1 : (q : Int) < (vn : Int) := by omega
            rcases hA.out.pts with ⟨e1, e2⟩ | ⟨g, cap, cs, e1, e2, e3, e4, e5, e6⟩
            · have := HVL.out
              simp only at e2
              omega
            · simp only [Sl.val, Value.slice.injEq] at e1
              obtain ⟨e7, e8, _⟩ := e1
              rw [e7] at x1
              have f1 := e4.free (q * 3 + 1)
              obtain ⟨cv, hcv⟩ : ∃ cv, cs[q * 3 + 1]? = some cv := ⟨_, Array.getElem?_eq_getElem (show q * 3 + 1 < cs.size by have := HVL.out; simp only at e6; omega)⟩
              have d1 : wr.cell? ⟨g, q * 3 + 1, none⟩ = some cv := by rw [e4.cell, hcv]
              have HM := hidden (hA.out.mark e4 e2 e3 (by decide) (by decide) (by decide) (q * 3 + 1) (.int .i64 (-9)))
              clear e4 e5 e6 e8 e2 e3 hcv
              subst e7
              go_wp2_with fail
              exact ⟨⟨q + 1, by omega, rfl, HM⟩, by simp only [intOf]; omega⟩
          · obtain rfl : vn = q := by omega
            have x2 : wr.cell? ⟨X, 2, none⟩ = some (.slice tA tn tc) := hA.out.x.cell 2
            go_wp2_with fail
            clear x1 x2
            go_loopw [77] (fun vi wx => ∃ m : Nat, m ≤ tn ∧ vi = .int .i64 m ∧ Hid (KAt w3 w3.heap.size U X Y σ ⟨⟨uA, un, uc, ul⟩, ⟨vA, vn, vc, vl⟩, ⟨tA, tn, tc, tl⟩⟩ ⟨⟨xA, xn, xc, xl⟩, ⟨yA, yn, yc, yl⟩, ⟨zA, zn, zc, zl⟩⟩ wx)) (fun vi _ => tn - (intOf vi).toNat)
            case atStart => exact ⟨0, Nat.zero_le _, rfl, hA⟩
            case round =>
              obtain ⟨m, hmn, rfl, hA⟩ := hrel
              have m0 : (0 : Int) ≤ (m : Int) := by omega
              by_cases hlt : m < tn
              · have m1 : (m : Int) < (tn : Int) := by omega
                obtain ⟨gs, o, x, hgs, _, hx, hcl⟩ := row_at gonRK (sl_own hA.out.gones).2.2 HTL2.out m hlt
                simp only at hgs
                subst hgs
                have c1 : wr.cell? ⟨gs, o + m * 3 + 2, none⟩ = some (.slice x.sp.A x.sp.n x.sp.c) := hcl 2 (by omega)
                have HXK := hidden hx
                have HXM := hidden (List.mem_of_getElem? hx)
                have hln := HTN.out x HXM.out
                have x0 : wr.cell? ⟨X, 2, none⟩ = some (.slice (some ⟨gs, o, none⟩) tn tc) := hA.out.x.cell 2
                clear hx hcl
                go_wp2_with fail
                clear c1 x0
                go_loopw [87] (fun vj wy => ∃ j : Nat, j ≤ x.sp.n ∧ vj = .int .i64 j ∧ Hid (KAt w3 w3.heap.size U X Y σ ⟨⟨uA, un, uc, ul⟩, ⟨vA, vn, vc, vl⟩, ⟨some ⟨gs, o, none⟩, tn, tc, tl⟩⟩ ⟨⟨xA, xn, xc, xl⟩, ⟨yA, yn, yc, yl⟩, ⟨zA, zn, zc, zl⟩⟩ wy)) (fun vj _ => x.sp.n - (intOf vj).toNat)
                case atStart => exact ⟨0, Nat.zero_le _, rfl, hA⟩
                case round =>
                  obtain ⟨j, hjn, rfl, hA2⟩ := hrel
                  have j0 : (0 : Int) ≤ (j : Int) := by omega
                  by_cases hjlt : j < x.sp.n
                  · have j1 : (j : Int) < (x.sp.n : Int) := by omega
                    obtain ⟨gs', o', x', hgs, _, hx, hcl⟩ := row_at gonRK (sl_own hA2.out.gones).2.2 HTL2.out m hlt
                    simp only [Option.some.injEq, Addr.mk.injEq] at hgs
                    obtain ⟨rfl, rfl, _⟩ := hgs
                    obtain rfl : x = x' := Option.some.inj (HXK.out.symm.trans hx)
                    have c1 : wr.cell? ⟨gs, o + m * 3 + 2, none⟩ = some (.slice x.sp.A x.sp.n x.sp.c) := hcl 2 (by omega)
                    have x0 : wr.cell? ⟨X, 2, none⟩ = some (.slice (some ⟨gs, o, none⟩) tn tc) := hA2.out.x.cell 2
                    rcases hA2.out.spns x HXM.out with ⟨e1, e2⟩ | ⟨g, cap, cs, e1, e2, e3, e4, e5, e6⟩
                    · simp only [Sl.val, Value.slice.injEq] at e1
                      omega
                    · simp only [Sl.val, Value.slice.injEq] at e1
                      obtain ⟨e7, e8, _⟩ := e1
                      rw [e7] at c1
                      have f1 := e4.free (j * 2 + 1)
                      obtain ⟨cv, hcv⟩ : ∃ cv, cs[j * 2 + 1]? = some cv := ⟨_, Array.getElem?_eq_getElem (show j * 2 + 1 < cs.size by omega)⟩
                      have d1 : wr.cell? ⟨g, j * 2 + 1, none⟩ = some cv := by rw [e4.cell, hcv]
                      have HM := hidden (hA2.out.mark e4 e2 e3 (by decide) (by decide) (by decide) (j * 2 + 1) (.int .i64 (-9)))
                      clear hx hcl e4 e5 e6 e7 e8 e2 e3 hcv
                      go_wp2_with fail
                      exact ⟨⟨j + 1, by omega, rfl, HM⟩, by simp only [intOf]; omega⟩
                  · obtain rfl : j = x.sp.n := by omega
                    go_wp2_with fail
                    exact ⟨⟨m + 1, by omega, rfl, hA2⟩, by simp only [intOf]; omega⟩
              · obtain rfl : tn = m := by omega
                have HLOW := hidden (HC3.out.trans (hA.out.low.mono HC3.out.size))
                have HRB := hidden (hA.out.b.At (decP_ok (rightP_some HSG.out).1) hlenS.out)
                have HSR := hidden (show sameRec ⟨⟨xA, xn, xc, xl⟩, ⟨yA, yn, yc, yl⟩, ⟨zA, zn, zc, zl⟩⟩ ⟨⟨nA, nn, nc, nl⟩, ⟨pA, pn, pc, pl⟩, ⟨gA, gn, gc, gl⟩⟩ from ⟨hA.out.b.nv.trans HTL.out.nv.symm, hA.out.b.pv.trans HTL.out.pv.symm, hA.out.b.gv.trans HTL.out.gv.symm⟩)
                have HY := hidden hA.out.y
                clear hA
                have SA := hidden (fun W (hW : RecR.At W ⟨⟨xA, xn, xc, xl⟩, ⟨yA, yn, yc, yl⟩, ⟨zA, zn, zc, zl⟩⟩) => recRef_of hW)
                have SB := hidden (fun W (hW : RecR.At W ⟨⟨nA, nn, nc, nl⟩, ⟨pA, pn, pc, pl⟩, ⟨gA, gn, gc, gl⟩⟩) => recRef_of hW)
                have HA5 := hidden (HRB.out.on (Below.refl _ _).drew)
                have HB5 := hidden (HA1.out.on (HLOW.out.trans ((Below.refl _ _).drew.mono HLOW.out.size)))
                have x0 : wr.cell? ⟨Y, 0, none⟩ = some (.slice xA xn xc) := HY.out.cell 0
                have x1 : wr.cell? ⟨Y, 1, none⟩ = some (.slice yA yn yc) := HY.out.cell 1
                have x2 : wr.cell? ⟨Y, 2, none⟩ = some (.slice zA zn zc) := HY.out.cell 2
                have y0 := (XA.out.below HLOW.out XA.out.lt).cell 0
                have y1 := (XA.out.below HLOW.out XA.out.lt).cell 1
                have y2 := (XA.out.below HLOW.out XA.out.lt).cell 2
                have HSM := hidden (fun (ra rb : RecR) h1 h2 => alike_dec (ra := ra) (rb := rb) (V := true) ⟨fun _ => HSR.out, fun _ => rfl⟩ h1 h2)
                go_wp2_with fail
                go_region_law (first
                  | (go_simp; go_at_call 8; refine (ralike_any ra rb _ HRa.out HRb.out).mono ?_; rintro e w' ⟨rfl, c7⟩; rw [HSM.out ra rb HMa.out HMb.out]; have HC7 := hidden (HC6.out.trans (c7.mono HC6.out.size)); clear c7)
                  | (go_simp; go_at_call 9; refine (SB.out _ HB6.out).mono ?_; rintro e w' ⟨rb, rfl, h1, h2, c6⟩; have HRb := hidden h1; have HMb := hidden h2; have HRa := hidden (HRa5.out.on c6); have HC6 := hidden (HC5.out.trans (c6.mono HC5.out.size)); clear c6 h1 h2)
                  | (go_simp; go_at_call 9; refine (SA.out _ HA6.out).mono ?_; rintro e w' ⟨ra, rfl, h1, h2, c6⟩; have HRa := hidden h1; have HMa := hidden h2; have HRb := hidden (HRb5.out.on c6); have HC6 := hidden (HC5.out.trans (c6.mono HC5.out.size)); clear c6 h1 h2)
                  | (go_simp; go_at_call 9; refine (SA.out _ HA5.out).mono ?_; rintro e w' ⟨ra, rfl, h1, h2, c5⟩; have HRa5 := hidden h1; have HMa := hidden h2; have HB6 := hidden (HB5.out.on c5); have c5' := (Below.refl _ _).drew.trans c5; have HC5 := hidden (HLOW.out.trans (c5'.mono HLOW.out.size)); have z0 := (XA.out.below HC5.out XA.out.lt).cell 0; have z1 := (XA.out.below HC5.out XA.out.lt).cell 1; have z2 := (XA.out.below HC5.out XA.out.lt).cell 2; clear c5 c5' h1 h2)
                  | (go_simp; go_at_call 9; refine (SB.out _ HB5.out).mono ?_; rintro e w' ⟨rb, rfl, h1, h2, c5⟩; have HRb5 := hidden h1; have HMb := hidden h2; have HA6 := hidden (HA5.out.on c5); have c5' := (Below.refl _ _).drew.trans c5; have HC5 := hidden (HLOW.out.trans (c5'.mono HLOW.out.size)); have v0 : World.cell? _ ⟨Y, 0, none⟩ = some (.slice xA xn xc) := (HY.out.below c5' HY.out.lt).cell 0; have v1 : World.cell? _ ⟨Y, 1, none⟩ = some (.slice yA yn yc) := (HY.out.below c5' HY.out.lt).cell 1; have v2 : World.cell? _ ⟨Y, 2, none⟩ = some (.slice zA zn zc) := (HY.out.below c5' HY.out.lt).cell 2; clear c5 c5' h1 h2))
                all_goals
                  go_wp2_with fail
                  go_ret
                  exact ⟨rfl, HBW.out.trans (HC7.out.mono HBW.out.size)⟩
  · have hE := HEA.out
    rw [encRec, if_neg hfit] at hE
    simp only [Prod.mk.injEq] at hE
    obtain ⟨rfl, rfl⟩ := hE
    clear hfit HEA
    go_wp2_with fail
    go_ret
    exact ⟨rfl, HBW.out.trans (HC3.out.mono HBW.out.size)⟩

theorem recordKeeps_walk {H : Type} (enc : TypeId × Value → H) : LawWalk enc Try.prog 5 Try.f5 (fun ds => Rows.uptoBulkAll ds ≤ 1048576) := by
  intro W base args ds p hval hA hlt hsz hcond
  rw [Try.params5] at hval hA hsz
  obtain ⟨v0, vs0, d0, ds0, p0, q0, hargs, rfl, rfl, h0, r0⟩ := trodAll_cons hA
  obtain ⟨rfl, rfl, rfl⟩ := trodAll_nil r0
  obtain rfl : args = #[v0] := by cases args; simp_all
  obtain ⟨a, rfl, ha, ka⟩ := open_rec (hval 0 26 v0 rfl rfl) h0 (arg_fits (b := 1048576) (j := 0) rfl rfl (fun x hx => hlt x (by simp [hx])) hsz hcond)
  exact recordKeeps_any a W ha ka

namespace recordKeepsUpto
set_option maxRecDepth 100000 in
theorem lifted (os : Os) (started : os.Started) (H : Type) (enc : TypeId × Value → H) (F : Stop.Interp) :
    ReturnsInHanded {} Try.checked os 5 .any ((Rows.OpenSpec.upto Rows.recordKeepsSpec).pre6 enc Try.prog Try.f5 Rows.recordKeepsUptoRow.domain false) (((Rows.OpenSpec.upto Rows.recordKeepsSpec).at F).post enc Try.prog Try.f5 false true false false) :=
  law_upto (C := Try.checked) (s := Rows.recordKeepsSpec) (tb := 4) own_prog started (by kernel_rfl) Try.func5
    (OpenSpec.witness (enc := enc) (C := Try.checked) (s := Rows.OpenSpec.upto Rows.recordKeepsSpec) (k := Rows.uptoSmall) rfl false ⟨#[], #[.agg #[.slice none 0 0, .slice none 0 0, .slice none 0 0]], []⟩ 8 (by kernel_rfl) (by kernel_rfl) (by kernel_rfl)
      (x := ([.agg [.nil, .nil, .nil]], [], [])) (by kernel_rfl) rfl (by kernel_rfl))
    laidOut (by kernel_rfl) rfl Try.underlying4 ⟨rfl, fun H ds h => match ds, h with | [_], _ => ⟨rfl, rfl, rfl⟩⟩ (recordKeeps_walk enc)

theorem proved : Rows.RecordKeepsUptoSaid :=
  OpenClaim.holds_of_cond 5 Try.f5 rfl rfl rfl rfl rfl rfl rfl ⟨rfl, rfl, rfl, rfl, rfl⟩ rfl rfl rfl rfl rfl (by kernel_rfl) Try.func5 (by kernel_rfl)
    (of_decide_eq_true (by kernel_rfl)) (by unfold Func.isWrapper; first | (rw [if_pos (by decide +kernel)]; kernel_rfl) | (rw [if_neg (by decide +kernel)]; exact ⟨rfl, rfl⟩))
    (fun os started H enc _ F => lifted os started H enc F)
#print axioms proved
end recordKeepsUpto

end Go.Proofs.Ytdggnnjjiolldaa
