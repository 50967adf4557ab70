/- The law's helper listRef (chapter 18), walked. Condition: the list is a head's, of which nothing was taken away. -/
import Derived.Test.YthncochjhbmceaaGreatHedList
import Derived.Test.YthncochjhbmceaaGreatPk78afa221
namespace Go.Proofs.YthncochjhbmceaaGreat
set_option maxRecDepth 100000
open Go.RowKit

theorem infoSr17 : (Tryz.prog.info? 153).map (fun i => (i.zero, i.size, i.bytes)) = some (some (.agg #[.slice none 0 0, .int .i64 0, .slice none 0 0, .slice none 0 0, .slice none 0 0, .slice none 0 0]), 6, 128) := by kernel_rfl
theorem spansRef_nil (w : World) : Calls Tryz.prog 56 #[.slice none 0 0] w fun e w' => e = .returned (.slice none 0 0) ∧ w' = w := by
  go_enter Tryz.func56, Tryz.ntmps56
  go_wp2_with fail
  refine wp_loop_rounds 1 ?_
  rw [rounds_succ]
  go_wp2_with fail
  go_ret
  exact ⟨rfl, rfl⟩
/-- what listRef answers -/
abbrev CkQ := CkO 153 167 155
set_option maxHeartbeats 12800000 in
theorem listRef_any (A : Option Addr) (n c : Nat) (L : List CkR) (w : World) {base : Nat} (h : CkL w base (.slice A n c) L) (hn : L.length = n) (hl : ∀ x ∈ L, x.lab.n ≤ 8) (hs : ∀ x ∈ L, x.smp.n ≤ 1048576) (hN : n ≤ 1048576) :
    Calls Tryz.prog 20 #[.slice A n c] w fun e w' => ∃ v L', e = .returned v ∧ CkQ w' w.heap.size v L' ∧ L'.map CkR.q = L.map CkR.q ∧ Below w.heap.size w w' := by
  obtain ⟨iC, iC0, iC1, iC2, iC3⟩ := info_parts infoSr17
  have H := hidden h
  have HLN := hidden hn
  have HL := hidden hl
  have HS := hidden hs
  clear h hn hl hs
  go_enter Tryz.func20, Tryz.ntmps20
  go_wp2_with fail
  go_loopw [3, 11] (fun vo vi wr => ∃ (k : Nat) (L' : List CkR), vi = .int .i64 (k : Int) ∧ k ≤ n ∧ Hid (CkQ wr w.heap.size vo L') ∧ Hid (L'.map CkR.q = (L.take k).map CkR.q) ∧ L'.length ≤ k ∧ Hid (Below w.heap.size w wr)) (fun _ vi _ => n - (intOf vi).toNat)
  case atStart => exact ⟨0, [], rfl, Nat.zero_le _, hidden CkO.nil, hidden rfl, Nat.le_refl _, hidden (Below.refl _ _)⟩
  case round =>
    obtain ⟨k, L', rfl, hk, ho, hq, hLk, hb⟩ := hrel
    have k0 : (0 : Int) ≤ (k : Int) := by omega
    by_cases hlt : k < n
    · have k1 : (k : Int) < (n : Int) := by omega
      have fwk : IntKind.i64.wrap ((k : Int) + 1) = (k : Int) + 1 := Go.IntWalk.i64_in _ (by omega)
      have HLT := hidden (show k + 1 ≤ n from hlt)
      have hr := H.out.below hb.out
      obtain ⟨A', c', e1, _, hrow⟩ := own_shape hr.row
      injection e1 with e1 e5 e2
      subst e1 e2
      obtain ⟨g, o, x, rfl, _, hx, hc⟩ := row_at (enc := CkR.cells) (k := 6) (fun _ => rfl) hrow rfl k (by rw [HLN.out]; exact hlt)
      have hxm := List.mem_of_getElem? hx
      obtain ⟨hlo, hll⟩ := hr.lab x hxm
      obtain ⟨hso, hsl⟩ := hr.smp x hxm
      have h8 := HL.out x hxm
      have hs20 := HS.out x hxm
      have HQ := hidden (show L'.map CkR.q ++ [x.q] = (L.take (k + 1)).map CkR.q by rw [take_snoc? hx, List.map_append, hq.out]; rfl)
      have c0 := hc 0 (by omega)
      have c1 := hc 1 (by omega)
      have c2 := hc 2 (by omega)
      have c3 := hc 3 (by omega)
      have c4 := hc 4 (by omega)
      have c5 := hc 5 (by omega)
      obtain ⟨⟨lA, lN, lC, ll⟩, mx, ⟨sA, sN, sC, sl⟩⟩ := x
      simp only [CkR.cells, Sl.val, List.getElem?_cons_zero, List.getElem?_cons_succ, Nat.add_zero] at c0 c1 c2 c3 c4 c5 hlo hll hso hsl h8 hs20
      obtain ⟨Av, cv, rfl, _, _⟩ := own_shape ho.out.row
      have hb4 : Below wr.heap.size wr (wr.alloc (.cells #[.slice lA lN lC, .int .i64 mx, .slice none 0 0, .slice none 0 0, .slice none 0 0, .slice sA sN sC] 65)) := (Below.refl _ _).alloc (Nat.le_refl _) _
      have hY4 := Whole1.new wr 65 #[.slice lA lN lC, .int .i64 mx, .slice none 0 0, .slice none 0 0, .slice none 0 0, .slice sA sN sC]
      obtain ⟨w4, hw4⟩ : ∃ w4, wr.alloc (.cells #[.slice lA lN lC, .int .i64 mx, .slice none 0 0, .slice none 0 0, .slice none 0 0, .slice sA sN sC] 65) = w4 := ⟨_, rfl⟩
      obtain ⟨Y, hY⟩ : ∃ Y, wr.heap.size = Y := ⟨_, rfl⟩
      rw [hw4] at hb4 hY4
      rw [hY] at hY4
      have hlo4 := own_below hlo hb4 (Nat.le_refl _)
      obtain ⟨lA', lC', e3, _, hlr⟩ := own_shape hlo4
      injection e3 with e3 e6 e4
      subst e3 e4
      have hsr : Row w4 w4.heap.size 2 sA sN (sl.flatMap Smp.cells) := by
        rcases Nat.eq_zero_or_pos sN with h0 | h0
        · subst h0
          have : sl = [] := List.eq_nil_of_length_eq_zero hsl
          subst this
          exact Row.nil
        · obtain ⟨sA', sC', e7, _, hr7⟩ := own_shape (own_below (hso h0) hb4 (Nat.le_refl _))
          injection e7 with e7 _ _
          subst e7
          exact hr7
      have SL := hidden (fun W (hW : Below w4.heap.size w4 W) => labelsRef18_any lA lN lC ll W ((hlr.below hW).more hW.size) hll (by omega))
      have SS := hidden (fun W (hW : Below w4.heap.size w4 W) => samplesRef18_any sA sN sC sl W ((hsr.below hW).more hW.size) hsl (by omega))
      have HO4 := hidden (ho.out.below hb4)
      have HB4 := hidden (hb.out.trans (hb4.mono hb.out.size))
      have HY4 := hidden hY4
      have HW4 := hidden hw4
      have HYY := hidden hY
      have HLL := hidden hll
      have HSL := hidden hsl
      have HBZ := hidden (show Below w4.heap.size w4 (w4.alloc (.cells #[.slice none 0 0, .int .i64 0, .slice none 0 0, .slice none 0 0, .slice none 0 0, .slice none 0 0] 153)) from (Below.refl _ _).alloc (Nat.le_refl _) _)
      have HZN := hidden (Whole1.new w4 153 #[.slice none 0 0, .int .i64 0, .slice none 0 0, .slice none 0 0, .slice none 0 0, .slice none 0 0])
      have HYF := hidden (fun W (hW : Below w4.heap.size w4 W) => (⟨(HY4.out.below hW HY4.out.lt).cell 0, (HY4.out.below hW HY4.out.lt).cell 1, (HY4.out.below hW HY4.out.lt).cell 5⟩ : W.cell? ⟨Y, 0, none⟩ = some (.slice lA lN lC) ∧ W.cell? ⟨Y, 1, none⟩ = some (.int .i64 mx) ∧ W.cell? ⟨Y, 5, none⟩ = some (.slice sA sN sC)))
      clear hr hrow hx hxm hc hlo hll hso hsl hb4 hY4 hw4 hY hlo4 hlr hsr e5 e6 h8 hs20 ho hb hq
      go_upto_region 5 with (fail)
      rw [HW4.out, HYY.out]
      clear c0 c1 c2 c3 c4 c5
      obtain ⟨y0, y1, y5⟩ := HYF.out _ (Below.refl _ _)
      obtain ⟨y0z, y1z, y5z⟩ := HYF.out _ HBZ.out
      go_cut [6] (fun v6 wx => ∃ V LA lc SA sc, v6 = .pointer (some ⟨V, 0, none⟩) ∧ Hid (Whole1 wx V 153 #[.slice LA lN lc, .int .i64 mx, .slice none 0 0, .slice none 0 0, .slice none 0 0, .slice SA sN sc]) ∧ Hid (w4.heap.size ≤ V) ∧ Hid (wx.ownsRow w4.heap.size 167 2 (.slice LA lN lc) lN (ll.flatMap Lbl.cells)) ∧ Hid (wx.ownsRow w4.heap.size 155 2 (.slice SA sN sc) sN (sl.flatMap Smp.cells)) ∧ Hid (Below w4.heap.size w4 wx))
      case first =>
        go_region_law (first
          | (go_simp; go_at_call 25; have := O1B; refine (SS.out _ HK5.out).mono ?_; rintro e w6 ⟨v6, rfl, hk6, b6⟩; obtain ⟨SA, sc, rfl, _, _⟩ := own_shape hk6; have hz := HZ5.out.below b6 HZ5.out.lt; have zc0 := hz.cell 0; have pf0 := (hz).free 0; have zc1 := hz.cell 1; have pf1 := ((hz).put 0 (.slice LA lN lc)).free 1; have pc1 := ((hz).put 0 (.slice LA lN lc)).cell 1; have zc2 := hz.cell 2; have pf2 := (((hz).put 0 (.slice LA lN lc)).put 1 (.int .i64 mx)).free 2; have pc2 := (((hz).put 0 (.slice LA lN lc)).put 1 (.int .i64 mx)).cell 2; have zc3 := hz.cell 3; have pf3 := ((((hz).put 0 (.slice LA lN lc)).put 1 (.int .i64 mx)).put 2 (.slice none 0 0)).free 3; have pc3 := ((((hz).put 0 (.slice LA lN lc)).put 1 (.int .i64 mx)).put 2 (.slice none 0 0)).cell 3; have zc4 := hz.cell 4; have pf4 := (((((hz).put 0 (.slice LA lN lc)).put 1 (.int .i64 mx)).put 2 (.slice none 0 0)).put 3 (.slice none 0 0)).free 4; have pc4 := (((((hz).put 0 (.slice LA lN lc)).put 1 (.int .i64 mx)).put 2 (.slice none 0 0)).put 3 (.slice none 0 0)).cell 4; have zc5 := hz.cell 5; have pf5 := ((((((hz).put 0 (.slice LA lN lc)).put 1 (.int .i64 mx)).put 2 (.slice none 0 0)).put 3 (.slice none 0 0)).put 4 (.slice none 0 0)).free 5; have pc5 := ((((((hz).put 0 (.slice LA lN lc)).put 1 (.int .i64 mx)).put 2 (.slice none 0 0)).put 3 (.slice none 0 0)).put 4 (.slice none 0 0)).cell 5; have HZ9 := hidden (((((((hz).put 0 (.slice LA lN lc)).put 1 (.int .i64 mx)).put 2 (.slice none 0 0)).put 3 (.slice none 0 0)).put 4 (.slice none 0 0)).put 5 (.slice SA sN sc)); have k6 := HK5.out.trans (b6.mono HK5.out.size); obtain ⟨_, y61, _⟩ := HYF.out _ k6; have O2C := trivial; have HZ6 := hidden hz; have HK6 := hidden k6; have HL6 := hidden (own_below HL5.out b6 (Nat.le_refl _)); have HS6 := hidden (own_more hk6 HK5.out.size); clear b6 hk6 k6 hz)
          | (go_simp; go_at_call 25; have := O1A; refine (SS.out _ (HK5.out.alloc HK5.out.size (.cells #[.slice none 0 0, .int .i64 0, .slice none 0 0, .slice none 0 0, .slice none 0 0, .slice none 0 0] 153))).mono ?_; rintro e w6 ⟨v6, rfl, hk6, b6⟩; obtain ⟨SA, sc, rfl, _, _⟩ := own_shape hk6; have ka := HK5.out.alloc HK5.out.size (.cells #[.slice none 0 0, .int .i64 0, .slice none 0 0, .slice none 0 0, .slice none 0 0, .slice none 0 0] 153); have hz := (Whole1.new w5 153 #[.slice none 0 0, .int .i64 0, .slice none 0 0, .slice none 0 0, .slice none 0 0, .slice none 0 0]).below b6 (by rw [World.size_alloc]; exact Nat.lt_succ_self _); have zc0 := hz.cell 0; have pf0 := (hz).free 0; have zc1 := hz.cell 1; have pf1 := ((hz).put 0 (.slice LA lN lc)).free 1; have pc1 := ((hz).put 0 (.slice LA lN lc)).cell 1; have zc2 := hz.cell 2; have pf2 := (((hz).put 0 (.slice LA lN lc)).put 1 (.int .i64 mx)).free 2; have pc2 := (((hz).put 0 (.slice LA lN lc)).put 1 (.int .i64 mx)).cell 2; have zc3 := hz.cell 3; have pf3 := ((((hz).put 0 (.slice LA lN lc)).put 1 (.int .i64 mx)).put 2 (.slice none 0 0)).free 3; have pc3 := ((((hz).put 0 (.slice LA lN lc)).put 1 (.int .i64 mx)).put 2 (.slice none 0 0)).cell 3; have zc4 := hz.cell 4; have pf4 := (((((hz).put 0 (.slice LA lN lc)).put 1 (.int .i64 mx)).put 2 (.slice none 0 0)).put 3 (.slice none 0 0)).free 4; have pc4 := (((((hz).put 0 (.slice LA lN lc)).put 1 (.int .i64 mx)).put 2 (.slice none 0 0)).put 3 (.slice none 0 0)).cell 4; have zc5 := hz.cell 5; have pf5 := ((((((hz).put 0 (.slice LA lN lc)).put 1 (.int .i64 mx)).put 2 (.slice none 0 0)).put 3 (.slice none 0 0)).put 4 (.slice none 0 0)).free 5; have pc5 := ((((((hz).put 0 (.slice LA lN lc)).put 1 (.int .i64 mx)).put 2 (.slice none 0 0)).put 3 (.slice none 0 0)).put 4 (.slice none 0 0)).cell 5; have HZ9 := hidden (((((((hz).put 0 (.slice LA lN lc)).put 1 (.int .i64 mx)).put 2 (.slice none 0 0)).put 3 (.slice none 0 0)).put 4 (.slice none 0 0)).put 5 (.slice SA sN sc)); have k6 := ka.trans (b6.mono ka.size); obtain ⟨_, y61, _⟩ := HYF.out _ k6; have O2B := trivial; have HZ6 := hidden hz; have HK6 := hidden k6; have HL6 := hidden (own_below (HL5.out.alloc (.cells #[.slice none 0 0, .int .i64 0, .slice none 0 0, .slice none 0 0, .slice none 0 0, .slice none 0 0] 153)) b6 (Nat.le_refl _)); have HS6 := hidden (own_more hk6 ka.size); clear b6 hk6 k6 hz ka)
          | (go_simp; go_at_call 25; have := O1A; refine (SS.out _ HK5.out).mono ?_; rintro e w6 ⟨v6, rfl, hk6, b6⟩; obtain ⟨SA, sc, rfl, _, _⟩ := own_shape hk6; have k6 := HK5.out.trans (b6.mono HK5.out.size); obtain ⟨_, y61, _⟩ := HYF.out _ k6; obtain ⟨_, y61z, _⟩ := HYF.out _ (k6.alloc k6.size (.cells #[.slice none 0 0, .int .i64 0, .slice none 0 0, .slice none 0 0, .slice none 0 0, .slice none 0 0] 153)); have O2A := trivial; have HK6 := hidden k6; have HL6 := hidden (own_below HL5.out b6 (Nat.le_refl _)); have HS6 := hidden (own_more hk6 HK5.out.size); clear b6 hk6 k6)
          | (go_simp; go_at_call 24; refine (SL.out _ (Below.refl _ _).drew).mono ?_; rintro e w5 ⟨v5, rfl, hk5, b5⟩; obtain ⟨LA, lc, rfl, _, _⟩ := own_shape hk5; have k5 : Below w4.heap.size w4 w5 := (Below.refl _ _).drew.trans b5; obtain ⟨_, y51, y55⟩ := HYF.out _ k5; obtain ⟨_, y51z, y55z⟩ := HYF.out _ (k5.alloc k5.size (.cells #[.slice none 0 0, .int .i64 0, .slice none 0 0, .slice none 0 0, .slice none 0 0, .slice none 0 0] 153)); have O1A := trivial; have HK5 := hidden k5; have HL5 := hidden (own_more hk5 (show w4.heap.size ≤ w4.drew.heap.size from Nat.le_refl _)); clear b5 hk5 k5)
          | (go_simp; go_at_call 24; refine (SL.out _ HBZ.out.drew).mono ?_; rintro e w5 ⟨v5, rfl, hk5, b5⟩; obtain ⟨LA, lc, rfl, _, _⟩ := own_shape hk5; have kd : Below (w4.alloc (.cells #[.slice none 0 0, .int .i64 0, .slice none 0 0, .slice none 0 0, .slice none 0 0, .slice none 0 0] 153)).heap.size (w4.alloc (.cells #[.slice none 0 0, .int .i64 0, .slice none 0 0, .slice none 0 0, .slice none 0 0, .slice none 0 0] 153)) w5 := (Below.refl _ _).drew.trans b5; have k5 : Below w4.heap.size w4 w5 := HBZ.out.trans (kd.mono HBZ.out.size); obtain ⟨_, y51, y55⟩ := HYF.out _ k5; have O1B := trivial; have HZ5 := hidden (HZN.out.below kd HZN.out.lt); have HK5 := hidden k5; have HL5 := hidden (own_more hk5 (show w4.heap.size ≤ _ from HBZ.out.size)); clear b5 hk5 k5 kd))
        all_goals
          go_wp2_with fail
          go_meet
          first
            | have := O2A; exact ⟨_, LA, lc, SA, sc, rfl, hidden (Whole1.new _ _ _), hidden HK6.out.size, hidden (HL6.out.alloc _), hidden (HS6.out.alloc _), hidden (HK6.out.alloc HK6.out.size _)⟩
            | have := O2B; exact ⟨_, LA, lc, SA, sc, rfl, HZ9, hidden HK5.out.size, hidden (put6_own HZ6.out HL6.out (by decide) _ _ _ _ _ _), hidden (put6_own HZ6.out HS6.out (by decide) _ _ _ _ _ _), hidden (below6 HK6.out HK5.out.size _ _ _ _ _ _)⟩
            | have := O2C; exact ⟨_, LA, lc, SA, sc, rfl, HZ9, hidden (Nat.le_refl _), hidden (put6_own HZ6.out HL6.out (by decide) _ _ _ _ _ _), hidden (put6_own HZ6.out HS6.out (by decide) _ _ _ _ _ _), hidden (below6 HK6.out (Nat.le_refl _) _ _ _ _ _ _)⟩
      case rest =>
        obtain ⟨V, LA, lc, SA, sc, rfl, hV, hVb, hL3, hS3, hB3⟩ := hcut
        have hyc := HY4.out.below hB3.out HY4.out.lt
        have y2 := hyc.cell 2
        have y3 := hyc.cell 3
        have y4 := hyc.cell 4
        clear y0 y1 y5 y0z y1z y5z hyc SL SS HBZ HZN HYF
        have ix0 : ∀ w, (Instr.index 62 (.agg #[.slice none 0 0, .slice none 0 0, .slice none 0 0]) (.int .i64 0)).run Tryz.prog w = .ok (.slice none 0 0) w := fun _ => by kernel_rfl
        have ix1 : ∀ w, (Instr.index 62 (.agg #[.slice none 0 0, .slice none 0 0, .slice none 0 0]) (.int .i64 1)).run Tryz.prog w = .ok (.slice none 0 0) w := fun _ => by kernel_rfl
        have ix2 : ∀ w, (Instr.index 62 (.agg #[.slice none 0 0, .slice none 0 0, .slice none 0 0]) (.int .i64 2)).run Tryz.prog w = .ok (.slice none 0 0) w := fun _ => by kernel_rfl
        have HB4' := hidden hB3.out
        have HV4 := hidden hV.out
        have HL4 := hidden hL3.out
        have HS4 := hidden hS3.out
        clear hV hL3 hS3 hB3
        go_wp2_with fail
        refine wp_loop_rounds 4 ?_
        rw [rounds_succ]
        have ff0 := HV4.out.free 2
        have fc0 := HV4.out.cell 2
        go_wp2_with fail
        refine (spansRef_nil _).mono ?_
        rintro e w5 ⟨rfl, rfl⟩
        go_wp2_with fail
        have HT0 : Turn 0 [153] false _ _ := Turn.put HV4.out (Nat.zero_le _) (by simp) 2 (.slice none 0 0)
        have HL5 := hidden (HT0.own HL4.out (.inl (by decide)))
        have HS5 := hidden (HT0.own HS4.out (.inl (by decide)))
        have HV5 := hidden (HV4.out.put 2 (.slice none 0 0))
        have HB5' := hidden (HB4'.out.setCell (p := ⟨V, 2, none⟩) hVb.out (.slice none 0 0))
        clear ff0 fc0 HT0
        rw [rounds_succ]
        have ff1 := HV5.out.free 3
        have fc1 := HV5.out.cell 3
        go_wp2_with fail
        refine (spansRef_nil _).mono ?_
        rintro e w5 ⟨rfl, rfl⟩
        go_wp2_with fail
        have HT1 : Turn 0 [153] false _ _ := Turn.put HV5.out (Nat.zero_le _) (by simp) 3 (.slice none 0 0)
        have HL6 := hidden (HT1.own HL5.out (.inl (by decide)))
        have HS6 := hidden (HT1.own HS5.out (.inl (by decide)))
        have HV6 := hidden (HV5.out.put 3 (.slice none 0 0))
        have HB6' := hidden (HB5'.out.setCell (p := ⟨V, 3, none⟩) hVb.out (.slice none 0 0))
        clear ff1 fc1 HT1
        rw [rounds_succ]
        have ff2 := HV6.out.free 4
        have fc2 := HV6.out.cell 4
        go_wp2_with fail
        refine (spansRef_nil _).mono ?_
        rintro e w5 ⟨rfl, rfl⟩
        go_wp2_with fail
        have HT2 : Turn 0 [153] false _ _ := Turn.put HV6.out (Nat.zero_le _) (by simp) 4 (.slice none 0 0)
        have HL7 := hidden (HT2.own HL6.out (.inl (by decide)))
        have HS7 := hidden (HT2.own HS6.out (.inl (by decide)))
        have HV7 := hidden (HV6.out.put 4 (.slice none 0 0))
        have HB7' := hidden (HB6'.out.setCell (p := ⟨V, 4, none⟩) hVb.out (.slice none 0 0))
        clear ff2 fc2 HT2
        obtain ⟨w9, hw9⟩ : ∃ w9, ((w5.setCell ⟨V, 2, none⟩ (.slice none 0 0)).setCell ⟨V, 3, none⟩ (.slice none 0 0)).setCell ⟨V, 4, none⟩ (.slice none 0 0) = w9 := ⟨_, rfl⟩
        rw [hw9] at HV7 HL7 HS7 HB7' ⊢
        have d0 := HV7.out.cell 0
        have d1 := HV7.out.cell 1
        have d2 := HV7.out.cell 2
        have d3 := HV7.out.cell 3
        have d4 := HV7.out.cell 4
        have d5 := HV7.out.cell 5
        have HO9 := hidden (HO4.out.below HB7'.out)
        have hr9 := HO9.out.row
        have HB9 := hidden (HB4.out.trans (HB7'.out.mono HB4.out.size))
        have hsz := HB9.out.size
        have HL9 := hidden (own_more HL7.out HB4.out.size)
        have HS9 := hidden (own_more HS7.out HB4.out.size)
        have hfr := Row.fresh w9 153 6 1 [.slice LA lN lc, .int .i64 mx, .slice none 0 0, .slice none 0 0, .slice none 0 0, .slice SA sN sc] rfl
        clear hw9 HV4 HV5 HV6 HL4 HL5 HL6 HL7 HS4 HS5 HS6 HS7 HB4' HB5' HB6' ix0 ix1 ix2 y2 y3 y4
        rw [rounds_succ]
        go_wp2_with (at_builtin; refine wpList_app _ rfl _ _ 48 rfl w.heap.size 153 iC _ 6 128 Tryz.underlying48 iC0 iC1 iC2 iC3 rfl (by decide) _ _ _ rfl (hr9.alloc _) _ _ _ _ _ rfl hfr (by simp [Value.oneCell']) (by unfold maxLen; omega) (by omega) (by rw [World.size_alloc]; omega) ?_; intro v10 w10 hown10 hg10 hat10)
        have hba : Below w9.heap.size w9 (w9.alloc (.cells #[.slice LA lN lc, .int .i64 mx, .slice none 0 0, .slice none 0 0, .slice none 0 0, .slice SA sN sc] 153)) := (Below.refl _ _).alloc (Nat.le_refl _) _
        have hen := (HO9.out.below hba).snoc (x := ⟨⟨LA, lN, lc, ll⟩, mx, ⟨SA, sN, sc, sl⟩⟩) ⟨HL9.out.alloc _, HLL.out⟩ ⟨fun _ => HS9.out.alloc _, HSL.out⟩ hown10 hg10 (by decide) (by decide)
        have HEN := hidden hen
        have HB10 := hidden ((HB9.out.trans (hba.mono HB9.out.size)).grown hg10 (by rw [World.size_alloc]; omega) (fun q e => (HO9.out.row.lt q e).1))
        clear hba hen
        go_roundw
        case rel => exact ⟨k + 1, _, by go_num, HLT.out, HEN, hidden (by rw [List.map_append, ← HQ.out]; rfl), by rw [List.length_append, List.length_singleton]; omega, HB10⟩
        case measure => have := HLT.out; simp [intOf]; omega
    · obtain rfl : n = k := by omega
      have HQ := hidden hq.out
      go_wp2_with fail
      go_ret
      refine ⟨_, L', rfl, ho.out, ?_, hb.out⟩
      rw [HQ.out, List.take_of_length_le (by rw [HLN.out]; exact Nat.le_refl _)]
end Go.Proofs.YthncochjhbmceaaGreat
