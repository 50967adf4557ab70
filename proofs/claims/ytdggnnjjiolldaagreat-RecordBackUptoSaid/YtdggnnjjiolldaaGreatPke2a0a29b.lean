/- The reference's number and Fit, walked. Condition: the record's rows show what it says. -/
import Derived.Test.YtdggnnjjiolldaaGreatPkc3d5aacd
namespace Go.Proofs.YtdggnnjjiolldaaGreat
set_option maxRecDepth 100000
open Go.RowKit Go.Shelf

open Classical in
theorem rnumber_any (n : Int) (w : World) :
    Calls Tryz.prog 20 #[.int .i64 n] w fun e w' => e = .returned (.bool (decide (fitRef n))) ∧ w = w' := by
  by_cases h0 : 0 ≤ n
  · by_cases h1 : n ≤ 1099511627776
    · have HF := hidden (decide_eq_true (show fitRef n from ⟨h0, h1⟩))
      go_enter Tryz.func20, Tryz.ntmps20
      go_wp2_with fail
      go_ret
      rw [HF.out]
      exact ⟨rfl, rfl⟩
    · have HF := hidden (decide_eq_false (show ¬ fitRef n from fun h => h1 h.2))
      go_enter Tryz.func20, Tryz.ntmps20
      go_wp2_with fail
      go_ret
      rw [HF.out]
      exact ⟨rfl, rfl⟩
  · have HF := hidden (decide_eq_false (show ¬ fitRef n from fun h => h0 h.1))
    go_enter Tryz.func20, Tryz.ntmps20
    go_wp2_with fail
    go_ret
    rw [HF.out]
    exact ⟨rfl, rfl⟩
open Classical in
set_option maxHeartbeats 6400000 in
theorem rfit_any (r : RecR) (w : World) (h : r.At w) :
    Calls Tryz.prog 7 #[r.val] w fun e w' => e = .returned (.bool (decide (fitRec r))) ∧ Below w.heap.size w w' := by
  obtain ⟨⟨nA, nn, nc, nl⟩, ⟨pA, pn, pc, pl⟩, ⟨gA, gn, gc, gl⟩⟩ := r
  obtain ⟨V, hV⟩ : ∃ V, decide (fitRec ⟨⟨nA, nn, nc, nl⟩, ⟨pA, pn, pc, pl⟩, ⟨gA, gn, gc, gl⟩⟩) = V := ⟨_, rfl⟩
  have HV := hidden hV
  rw [hV]
  obtain ⟨f1, f2, f3, f4⟩ := h.few
  have hnl : nl.length = nn := h.news.2.1
  have hpl : pl.length = pn := h.pts.2.1
  have hgl : gl.length = gn := h.gones.2.1
  have HL := hidden (And.intro hnl (And.intro hpl hgl))
  have F4 := hidden (show (gl.map fun x => x.sp.n).sum ≤ 4294967296 from f4)
  simp only at f1 f2 f3
  have hX0 := Whole1.new w 36 #[.slice nA nn nc, .slice pA pn pc, .slice gA gn gc]
  have hB0 : Below w.heap.size w (w.alloc (.cells #[.slice nA nn nc, .slice pA pn pc, .slice gA gn gc] 36)) := (Below.refl _ _).alloc (Nat.le_refl _) _
  clear hV hnl hpl hgl f4
  show Calls Tryz.prog 7 #[.agg #[.slice nA nn nc, .slice pA pn pc, .slice gA gn gc]] w _
  go_enter Tryz.func7, Tryz.ntmps7
  go_upto_region 1 with (fail)
  generalize w.alloc (.cells #[.slice nA nn nc, .slice pA pn pc, .slice gA gn gc] 36) = w1 at hX0 hB0 ⊢
  have H := hidden (h.on hB0)
  obtain ⟨g, hg⟩ : ∃ g, w.heap.size = g := ⟨_, rfl⟩
  have HB := hidden hB0
  rw [hg] at hX0 ⊢
  have HX := hidden hX0
  clear hX0 hB0 h hg
  go_wp2_with fail
  go_loopw [3] (fun vi wr => ∃ k : Nat, k ≤ nn ∧ vi = .int .i64 k ∧ Hid (∀ x ∈ nl.take k, fitNew x) ∧ Hid (Below w1.heap.size w1 wr)) (fun vi _ => nn - (intOf vi).toNat)
  case atStart => exact ⟨0, Nat.zero_le _, rfl, hidden (by simp), hidden (Below.refl _ _)⟩
  case round =>
    obtain ⟨k, hk, rfl, hfk, hb⟩ := hrel
    have k0 : (0 : Int) ≤ (k : Int) := by omega
    have H2 := hidden (H.out.on hb.out)
    have b0 := (HX.out.below hb.out HX.out.lt).cell 0
    by_cases hlt : k < nn
    · have k1 : (k : Int) < (nn : Int) := by omega
      obtain ⟨gs, o, x, rfl, _, hx, hcl⟩ := row_at newK H2.out.news.2.2 HL.out.1 k hlt
      have c0 : wr.cell? ⟨gs, o + k * 2, none⟩ = some (.int .i64 x.ref) := hcl 0 (by omega)
      have c1 : wr.cell? ⟨gs, o + k * 2 + 1, none⟩ = some (.slice x.lab.A x.lab.n x.lab.c) := hcl 1 (by omega)
      have HXM := hidden (List.mem_of_getElem? hx)
      have HXK := hidden hx
      have S2 := hidden (rvalid_any x.lab.A x.lab.n x.lab.c x.lab.l wr (H2.out.labs x HXM.out).1)
      clear hx hcl
      go_wp2_with fail
      refine (rnumber_any x.ref wr).mono ?_
      rintro e wb ⟨rfl, rfl⟩
      go_wp2_with fail
      refine S2.out.mono ?_
      rintro e wc ⟨rfl, b2⟩
      have HBC := hidden (hb.out.trans (b2.mono hb.out.size))
      clear b2 c0 c1 b0
      by_cases hfx : fitNew x
      · rw [decide_eq_true hfx.1, decide_eq_true hfx.2]
        have HF2 := hidden (fit_more hfk.out HXK.out hfx)
        clear hfx
        go_wp2_with fail
        go_roundw
        case rel => exact ⟨k + 1, by omega, by go_num, HF2, HBC⟩
        case measure => simp only [intOf]; omega
      · have HVF : Hid (V = false) := by rw [Hid, ← HV.out]; exact decide_eq_false fun hf => hfx (hf.1 x HXM.out)
        have hdiff : decide (fitRef x.ref) = false ∨ (decide (fitRef x.ref) = true ∧ decide (validP x.lab.l) = false) := by
          by_cases h1 : fitRef x.ref
          · exact .inr ⟨decide_eq_true h1, decide_eq_false fun h2 => hfx ⟨h1, h2⟩⟩
          · exact .inl (decide_eq_false h1)
        clear hfx
        obtain ⟨va, hva⟩ : ∃ va, decide (fitRef x.ref) = va := ⟨_, rfl⟩
        obtain ⟨vb, hvb⟩ : ∃ vb, decide (validP x.lab.l) = vb := ⟨_, rfl⟩
        rw [hva, hvb]
        rw [hva, hvb] at hdiff
        clear hva hvb
        rcases hdiff with rfl | ⟨rfl, rfl⟩
        all_goals
          go_wp2_with fail
          go_ret
          rw [HVF.out]
          exact ⟨rfl, HB.out.trans (HBC.out.mono HB.out.size)⟩
    · have k2 : ¬ (k : Int) < (nn : Int) := by omega
      have HF1 := hidden (fit_all hfk.out (by have := HL.out.1; omega))
      have hb2 := hb
      clear hfk k0 hk hlt
      go_wp2_with fail
      clear b0
      go_loopw [6] (fun vi wr => ∃ k : Nat, k ≤ pn ∧ vi = .int .i64 k ∧ Hid (∀ x ∈ pl.take k, fitPnt x) ∧ Hid (Below w1.heap.size w1 wr)) (fun vi _ => pn - (intOf vi).toNat)
      case atStart => exact ⟨0, Nat.zero_le _, rfl, hidden (by simp), hb2⟩
      case round =>
        obtain ⟨k, hk, rfl, hfk, hb⟩ := hrel
        have k0 : (0 : Int) ≤ (k : Int) := by omega
        have H3 := hidden (H.out.on hb.out)
        have b1 := (HX.out.below hb.out HX.out.lt).cell 1
        by_cases hlt : k < pn
        · have k1 : (k : Int) < (pn : Int) := by omega
          obtain ⟨gs, o, x, rfl, _, hx, hcl⟩ := row_at pntK H3.out.pts.2.2 HL.out.2.1 k hlt
          have c0 : wr.cell? ⟨gs, o + k * 3, none⟩ = some (.int .i64 x.ref) := hcl 0 (by omega)
          have c1 : wr.cell? ⟨gs, o + k * 3 + 1, none⟩ = some (.int .i64 x.t) := hcl 1 (by omega)
          have HXM := hidden (List.mem_of_getElem? hx)
          have HXK := hidden hx
          clear hx hcl
          go_wp2_with fail
          refine (rnumber_any x.ref wr).mono ?_
          rintro e wb ⟨rfl, rfl⟩
          by_cases hfx : fitPnt x
          · rw [decide_eq_true hfx.1]
            have HF2 := hidden (fit_more hfk.out HXK.out hfx)
            have h1 : decide (x.t < 0) = false := decide_eq_false (by have := hfx.2.1; omega)
            have h2 : decide (1125899906842624 < x.t) = false := decide_eq_false (by have := hfx.2.2; omega)
            clear hfx
            go_wp2_with fail
            go_roundw
            case rel => exact ⟨k + 1, by omega, by go_num, HF2, hb⟩
            case measure => simp only [intOf]; omega
          · have HVF : Hid (V = false) := by rw [Hid, ← HV.out]; exact decide_eq_false fun hf => hfx (hf.2.1 x HXM.out)
            have hdiff : decide (fitRef x.ref) = false ∨ (decide (fitRef x.ref) = true ∧ decide (x.t < 0) = true) ∨ (decide (fitRef x.ref) = true ∧ decide (x.t < 0) = false ∧ decide (1125899906842624 < x.t) = true) := by
              by_cases h1 : fitRef x.ref
              · by_cases h2 : x.t < 0
                · exact .inr (.inl ⟨decide_eq_true h1, decide_eq_true h2⟩)
                · refine .inr (.inr ⟨decide_eq_true h1, decide_eq_false h2, decide_eq_true ?_⟩)
                  by_cases h3 : 1125899906842624 < x.t
                  · exact h3
                  · exact absurd ⟨h1, by omega, by omega⟩ hfx
              · exact .inl (decide_eq_false h1)
            clear hfx
            obtain ⟨va, hva⟩ : ∃ va, decide (fitRef x.ref) = va := ⟨_, rfl⟩
            rw [hva]
            rw [hva] at hdiff
            clear hva
            rcases hdiff with rfl | ⟨rfl, g2⟩ | ⟨rfl, g2, g3⟩
            all_goals
              go_wp2_with fail
              go_ret
              rw [HVF.out]
              exact ⟨rfl, HB.out.trans (hb.out.mono HB.out.size)⟩
        · have k2 : ¬ (k : Int) < (pn : Int) := by omega
          have HF2 := hidden (fit_all hfk.out (by have := HL.out.2.1; omega))
          have hb3 := hb
          clear hfk k0 hk hlt
          go_wp2_with fail
          clear b1
          go_loopw [8] (fun vi wr => ∃ k : Nat, k ≤ gn ∧ vi = .int .i64 k ∧ Hid (∀ x ∈ gl.take k, fitGon x) ∧ Hid (Below w1.heap.size w1 wr)) (fun vi _ => gn - (intOf vi).toNat)
          case atStart => exact ⟨0, Nat.zero_le _, rfl, hidden (by simp), hb3⟩
          case round =>
            obtain ⟨k, hk, rfl, hfk, hb⟩ := hrel
            have k0 : (0 : Int) ≤ (k : Int) := by omega
            have H4 := hidden (H.out.on hb.out)
            have b2 := (HX.out.below hb.out HX.out.lt).cell 2
            by_cases hlt : k < gn
            · have k1 : (k : Int) < (gn : Int) := by omega
              obtain ⟨gs, o, x, rfl, hgs, hx, hcl⟩ := row_at gonRK H4.out.gones.2.2 HL.out.2.2 k hlt
              have c0 : wr.cell? ⟨gs, o + k * 3, none⟩ = some (.int .i64 x.ref) := hcl 0 (by omega)
              have c1 : wr.cell? ⟨gs, o + k * 3 + 1, none⟩ = some (.int .i64 x.res) := hcl 1 (by omega)
              have c2 : wr.cell? ⟨gs, o + k * 3 + 2, none⟩ = some (.slice x.sp.A x.sp.n x.sp.c) := hcl 2 (by omega)
              have HXM := hidden (List.mem_of_getElem? hx)
              have HXK := hidden hx
              have HS := hidden (fun W (hW : Below wr.heap.size wr W) => (⟨(HX.out.below (hb.out.trans (hW.mono hb.out.size)) HX.out.lt).cell 2, by rw [hW.cell (p := ⟨gs, o + k * 3 + 1, none⟩) hgs]; exact c1, by rw [hW.cell (p := ⟨gs, o + k * 3 + 2, none⟩) hgs]; exact c2⟩ : W.cell? ⟨g, 2, none⟩ = some (.slice (some ⟨gs, o, none⟩) gn gc) ∧ W.cell? ⟨gs, o + k * 3 + 1, none⟩ = some (.int .i64 x.res) ∧ W.cell? ⟨gs, o + k * 3 + 2, none⟩ = some (.slice x.sp.A x.sp.n x.sp.c)))
              obtain ⟨⟨_, y2, y3⟩, y4⟩ := H4.out.spans x HXM.out
              have hsn := few_sp F4.out HXM.out
              have SO := hidden (rOf_any x.sp.A x.sp.n x.sp.c x.sp.l wr y3 y2 (by omega) y4)
              have HY := hidden (H4.out.spans x HXM.out)
              clear hx hcl hgs y2 y3 y4
              go_wp2_with fail
              refine (rnumber_any x.ref wr).mono ?_
              rintro e wb ⟨rfl, rfl⟩
              go_wp2_with fail
              refine SO.out.mono ?_
              rintro e wc ⟨v9, R, rfl, ho9, hof9, hRn, bc⟩
              obtain ⟨A9, c9, rfl, _, hr9⟩ := own_shape ho9
              have HBC := hidden (hb.out.trans (bc.mono hb.out.size))
              have HOF := hidden hof9
              have HRR := hidden hr9
              have HYC := hidden ((HY.out.1.below bc).more bc.size)
              have S3 := hidden (rspans_any A9 x.sp.A R.length x.sp.n c9 x.sp.c R x.sp.l wc _ _ hr9 HYC.out.2.2 rfl HYC.out.2.1 (by omega) (by omega))
              have d0 := (HS.out _ bc).1
              have d1 := (HS.out _ bc).2.1
              have d2 := (HS.out _ bc).2.2
              clear bc ho9 hr9 hof9 c0 c1 c2 b2 SO
              go_wp2_with fail
              refine S3.out.mono ?_
              rintro e wd ⟨rfl, q, rfl⟩
              clear S3
              have hxl := HY.out.1.2.1
              by_cases hfx : fitGon x
              · have hRl : R = x.sp.l := HOF.out.uniq (OfRes.self hfx.2.2.2.2) fun _ => rfl
                have h0 : ((R.length : Int) == 0) = false := by
                  have := hfx.2.2.2.1
                  have h1 : R.length ≠ 0 := fun h => this (by rw [← hRl]; exact List.eq_nil_of_length_eq_zero h)
                  simp only [beq_eq_false_iff_ne]; omega
                rw [decide_eq_true hfx.1, decide_eq_true hRl]
                have HF3 := hidden (fit_more hfk.out HXK.out hfx)
                have h1 : decide (x.res < 0) = false := decide_eq_false (by have := hfx.2.1; omega)
                have h2 : decide (2 < x.res) = false := decide_eq_false (by have := hfx.2.2.1; omega)
                clear hfx hRl hxl
                go_wp2_with fail
                exact ⟨⟨k + 1, by omega, rfl, HF3, hidden (below_drewN HBC.out q)⟩, by simp only [intOf]; omega⟩
              · have HVF : Hid (V = false) := by rw [Hid, ← HV.out]; exact decide_eq_false fun hf => hfx (hf.2.2.1 x HXM.out)
                have hdiff : decide (fitRef x.ref) = false ∨ (decide (fitRef x.ref) = true ∧ decide (R = x.sp.l) = false) ∨ (decide (fitRef x.ref) = true ∧ decide (R = x.sp.l) = true ∧ ((R.length : Int) == 0) = true) ∨ (decide (fitRef x.ref) = true ∧ decide (R = x.sp.l) = true ∧ ((R.length : Int) == 0) = false ∧ decide (x.res < 0) = true) ∨ (decide (fitRef x.ref) = true ∧ decide (R = x.sp.l) = true ∧ ((R.length : Int) == 0) = false ∧ decide (x.res < 0) = false ∧ decide (2 < x.res) = true) := by
                  by_cases h1 : fitRef x.ref
                  · by_cases h2 : R = x.sp.l
                    · by_cases h3 : R.length = 0
                      · exact .inr (.inr (.inl ⟨decide_eq_true h1, decide_eq_true h2, by simp [h3]⟩))
                      · have h3' : ((R.length : Int) == 0) = false := by simp only [beq_eq_false_iff_ne]; omega
                        by_cases h4 : x.res < 0
                        · exact .inr (.inr (.inr (.inl ⟨decide_eq_true h1, decide_eq_true h2, h3', decide_eq_true h4⟩)))
                        · by_cases h5 : 2 < x.res
                          · exact .inr (.inr (.inr (.inr ⟨decide_eq_true h1, decide_eq_true h2, h3', decide_eq_false h4, decide_eq_true h5⟩)))
                          · exact absurd ⟨h1, by omega, by omega, fun h => h3 (by rw [h2, h]; rfl), by rw [← h2]; exact HOF.out.one⟩ hfx
                    · exact .inr (.inl ⟨decide_eq_true h1, decide_eq_false h2⟩)
                  · exact .inl (decide_eq_false h1)
                clear hfx hxl
                obtain ⟨va, hva⟩ : ∃ va, decide (fitRef x.ref) = va := ⟨_, rfl⟩
                obtain ⟨vb, hvb⟩ : ∃ vb, decide (R = x.sp.l) = vb := ⟨_, rfl⟩
                rw [hva, hvb]
                rw [hva, hvb] at hdiff
                clear hva hvb
                rcases hdiff with rfl | ⟨rfl, rfl⟩ | ⟨rfl, rfl, g3⟩ | ⟨rfl, rfl, g3, g4⟩ | ⟨rfl, rfl, g3, g4, g5⟩
                all_goals
                  go_wp2_with fail
                  go_ret
                  rw [HVF.out]
                  exact ⟨rfl, HB.out.trans ((below_drewN HBC.out q).mono HB.out.size)⟩
            · have k2 : ¬ (k : Int) < (gn : Int) := by omega
              have HF3 := hidden (fit_all hfk.out (by have := HL.out.2.2; omega))
              have b0 := (HX.out.below hb.out HX.out.lt).cell 0
              have b1 := (HX.out.below hb.out HX.out.lt).cell 1
              have s1 : IntKind.i64.wrap ((nn : Int) + (pn : Int)) = (nn : Int) + (pn : Int) := Go.IntWalk.i64_in _ (by omega)
              have s2 : IntKind.i64.wrap ((nn : Int) + (pn : Int) + (gn : Int)) = (nn : Int) + (pn : Int) + (gn : Int) := Go.IntWalk.i64_in _ (by omega)
              by_cases h0 : 0 < nn + pn + gn
              · obtain rfl : true = V := by rw [← HV.out]; exact (decide_eq_true ⟨HF1.out, HF2.out, HF3.out, h0⟩).symm
                have h0' : decide (0 < (nn : Int) + (pn : Int) + (gn : Int)) = true := decide_eq_true (by omega)
                clear h0
                go_wp2_with fail
                go_ret
                exact ⟨rfl, HB.out.trans (hb.out.mono HB.out.size)⟩
              · obtain rfl : false = V := by rw [← HV.out]; exact (decide_eq_false fun hf => h0 hf.2.2.2).symm
                have h0' : decide (0 < (nn : Int) + (pn : Int) + (gn : Int)) = false := decide_eq_false (by omega)
                clear h0
                go_wp2_with fail
                go_ret
                exact ⟨rfl, HB.out.trans (hb.out.mono HB.out.size)⟩
end Go.Proofs.YtdggnnjjiolldaaGreat
