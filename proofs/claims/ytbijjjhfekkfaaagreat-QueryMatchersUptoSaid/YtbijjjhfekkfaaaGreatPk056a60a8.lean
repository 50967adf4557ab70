/- merge.Merge: what it returns. Condition: the lists together are within the reach. -/
import Derived.Test.YtbijjjhfekkfaaaGreatPk67c722b2
import Derived.Deep.RegionLaw
namespace Go.Proofs.YtbijjjhfekkfaaaGreat
set_option maxRecDepth 100000
open Go.RowKit Go.Shelf

set_option maxHeartbeats 12800000 in
theorem mergeS_any (A : Option Addr) (n c : Nat) (LL : List (Sl Ser)) (w : World) (hr : Row w w.heap.size 1 A n (LL.map Sl.val)) (hl : LL.length = n) (hat : ∀ s ∈ LL, s.At w w.heap.size 3 Ser.cells) (hse : ∀ s ∈ LL, ∀ x ∈ s.l, x.At w w.heap.size ∧ x.lab.n ≤ 1048576) (ht : total LL ≤ 1099511627776) (hws : wsum (LL.flatMap Sl.l) ≤ 1099511627776) (hn : n ≤ 4611686018427387904) :
    Calls Tryz.prog 20 #[.slice A n c] w (MergeS (LL.flatMap Sl.l) w) := by
  obtain ⟨i0, hi, hz0, hz1, hz2⟩ := info_parts info_ser
  obtain ⟨iS, hiS, hzS0, hzS1, hzS2⟩ := info_parts info_smp
  obtain ⟨iW, hiW, hzW0, hzW1, hzW2⟩ := info_parts info_win
  have hcon := hidden (concat_any A n c LL w hr hl hat ht hn)
  obtain ⟨all, hall⟩ : ∃ all, LL.flatMap Sl.l = all := ⟨_, rfl⟩
  have hallx : ∀ x ∈ all, x.At w w.heap.size ∧ x.lab.n ≤ 1048576 := by
    intro x hx
    rw [← hall, List.mem_flatMap] at hx
    obtain ⟨s, hs, hx⟩ := hx
    exact hse s hs x hx
  have hlen : all.length = total LL := by rw [← hall]; exact total_len LL fun s hs => (hat s hs).2.1
  obtain ⟨N, hN⟩ : ∃ N, total LL = N := ⟨_, rfl⟩
  rw [hall, hN] at hcon
  rw [hall] at hws ⊢
  rw [hN] at hlen ht
  have HAX := hidden hallx
  have HLEN := hidden hlen
  clear hr hat hse hall hN hallx hlen hl
  go_enter Tryz.func20, Tryz.ntmps20
  go_wp2_with fail
  refine hcon.out.mono ?_
  rintro e w1 ⟨v1, rfl, ho1, hb1⟩
  have HO1 := hidden ho1
  have hs1 := hb1.size
  have hlab1 : Hid (∀ x ∈ all, x.lab.At w1 w.heap.size 2 Lbl.cells) := hidden fun x hx => ((HAX.out x hx).1.below hb1).lab
  clear ho1 hcon
  go_wp2_with fail
  refine (sortAll_any v1 N w.heap.size all w1 HO1.out HLEN.out ht hlab1.out hs1 (fun x hx => by have := (HAX.out x hx).2; omega)).mono ?_
  rintro e w2 ⟨rfl, S, hS, ⟨A3, c3, rfl, hc3, hr3⟩, hg2⟩
  have hb2 : Below w.heap.size w w2 := hb1.grown hg2 hs1 (fun q hq => (HO1.out.lt q hq).1)
  have hSl : S.length = N := by rw [hS.1.length_eq]; exact HLEN.out
  have HSX : Hid (∀ x ∈ S, x.At w2 w.heap.size ∧ x.lab.n ≤ 1048576) := hidden fun x hx => by
    have := HAX.out x (hS.1.mem_iff.1 hx)
    exact ⟨this.1.below hb2, this.2⟩
  have hwS : wsum S ≤ 1099511627776 := by
    have : wsum S = wsum all := (hS.1.map _).sum_nat
    omega
  have HS := hidden hS
  have HR3 := hidden hr3
  have HSL := hidden hSl
  have hs2 := hb2.size
  clear hS hr3 hSl HO1 hg2
  go_wp2_with fail
  obtain ⟨H2, hH2⟩ : ∃ H2, w2.heap.size = H2 := ⟨_, rfl⟩
  have HH2 := hidden hH2
  have hB2 : Below H2 w2 w2 := Below.refl _ _
  have hs2H : w.heap.size ≤ H2 := by rw [← hH2]; exact hs2
  go_loopw [4, 16] (fun v vi wr => ∃ (k : Nat) (L : List Ser) (vo : Value), vo = v ∧ vi = .int .i64 k ∧ k ≤ N ∧ Hid (MOut wr H2 v L) ∧ Hid (L.map Ser.sk = groupK (S.take k)) ∧ L.length ≤ k ∧ Hid (∀ y ∈ L, y.lab.n ≤ 1048576 ∧ y.smp.n + y.win.n ≤ wsum (S.take k)) ∧ Below H2 w2 wr) (fun _ vi _ => N - (intOf vi).toNat)
  case atStart => exact ⟨0, [], _, rfl, rfl, Nat.zero_le _, hidden (MOut.nil _ _), hidden rfl, Nat.le_refl _, hidden (by simp), hB2⟩
  case round =>
    obtain ⟨k, L, vo, rfl, rfl, hk, hM, hkeys, hLk, hsm, hb⟩ := hrel
    have hbs : H2 ≤ wr.heap.size := by have := hb.size; have := HH2.out; omega
    by_cases hlt : k < N
    · obtain ⟨gs, o, hA, hgs, x, hx, d0, d1, d2⟩ := ser_cells_at HR3.out HSL.out (by rw [HH2.out]; exact hb) k hlt
      subst hA
      obtain ⟨hxat, hxn⟩ := HSX.out x (List.mem_of_getElem? hx)
      have hkz : (k : Int) < (N : Int) := by omega
      have hk0 : (0 : Int) ≤ (k : Int) := by omega
      obtain ⟨A4, c4, rfl, hc4, hr4⟩ := own_shape hM.out.row
      simp only [Sl.val] at d0 d1 d2
      have HX := hidden hx
      clear hx
      go_upto_region 8 with (fail)
      have hX := Whole1.new wr 57 #[.slice x.lab.A x.lab.n x.lab.c, .slice x.smp.A x.smp.n x.smp.c, .slice x.win.A x.win.n x.win.c]
      have hbX : Below wr.heap.size wr (wr.alloc (.cells #[.slice x.lab.A x.lab.n x.lab.c, .slice x.smp.A x.smp.n x.smp.c, .slice x.win.A x.win.n x.win.c] 57)) := (Below.refl _ _).alloc (Nat.le_refl _) _
      have hMX := hM.out.below hbX
      have hBX := hb.trans (hbX.mono hbs)
      have hltX := mout_lt hM.out
      generalize wr.alloc (.cells #[.slice x.lab.A x.lab.n x.lab.c, .slice x.smp.A x.smp.n x.smp.c, .slice x.win.A x.win.n x.win.c] 57) = wX at hX hbX hMX hBX ⊢
      obtain ⟨X, hXe⟩ : ∃ X, wr.heap.size = X := ⟨_, rfl⟩
      rw [hXe] at hX hltX hbs ⊢
      have hXl := hX.lt
      have HMX := hidden hMX
      have HLX := hidden hltX
      have HBX := hidden hBX
      have x0 : wX.cell? ⟨X, 0, none⟩ = some (.slice x.lab.A x.lab.n x.lab.c) := hX.cell 0
      have HXX := hidden hX
      have HXA := hidden (hxat.below (hBX.mono hs2H))
      have hsX : w.heap.size ≤ wX.heap.size := by have := hBX.size; omega
      clear hX hbX hMX hBX hltX hXe d0 d1 d2 hM hr4 hb hxat
      go_cut [7, 35] (fun u v wx => u = .int .i64 ((L.length : Int) - 1) ∧ v = .bool (isNew L x) ∧ Below wX.heap.size wX wx)
      case first =>
        rcases List.eq_nil_or_concat L with rfl | ⟨M0, z, hLz⟩
        · have hz : ((((([] : List Ser).length : Nat) : Int)) - 1 : Int) = -1 := rfl
          rw [hz]
          go_quiet (fail)
          go_wp2_with fail
          go_meet
          exact ⟨rfl, rfl, below_drewN (Below.refl _ _) _⟩
        · rw [List.concat_eq_append] at hLz
          obtain ⟨i, hi⟩ : ∃ i, M0.length = i := ⟨_, rfl⟩
          have hLl : L.length = i + 1 := by rw [hLz, List.length_append, hi]; rfl
          have hzi : (L.length : Int) - 1 = (i : Int) := by omega
          have hLi : L[i]? = some z := by rw [hLz, List.getElem?_append_right (by omega), hi, Nat.sub_self]; rfl
          have hnew : isNew L x = (cmpLs z.lab.l x.lab.l != 0) := by unfold isNew; rw [hLz, List.getLast?_concat]
          obtain ⟨go_, cap, rest, hgo, hgb, hW, _, _, _, _⟩ := own_whole_g SrtSer.hk HMX.out.row (by omega)
          injection hgo with hgo1 hgo2 hgo3
          subst hgo1
          clear hgo2
          subst hgo3
          obtain ⟨z0, _, _⟩ := ser_whole hW hLi
          simp only [Sl.val] at z0
          have hzown := HMX.out.own z (List.mem_of_getElem? hLi)
          have hzn := (hsm.out z (List.mem_of_getElem? hLi)).1
          have S1 : Hid (∀ D os, Calls Tryz.prog 68 #[.slice z.lab.A z.lab.n z.lab.c, .slice x.lab.A x.lab.n x.lab.c] (Sort.grow (redrawn wX D) os) fun e w'' => e = .returned (.int .i64 (cmpLs z.lab.l x.lab.l)) ∧ ∃ p : Regrown, w'' = Sort.grow (redrawn wX p.d) p.os) := hidden fun D os =>
            Calls.regrown_of ((lcompare_any _ _ _ _ _ _ z.lab.l x.lab.l _ wX.heap.size w.heap.size ((hzown.lab.2.2).below (below_regrown wX D os)) (HXA.out.lab.2.2.keep fun g hg => (below_regrown wX D os).block g (by omega)) (below_regrown wX D os).size (Nat.le_trans hsX (below_regrown wX D os).size) hzown.lab.2.1 HXA.out.lab.2.1 (by omega) (by omega)).mono fun e w' ⟨he, hG⟩ => ⟨he, hG.below⟩)
          rw [hzi]
          have HNEW := hidden hnew
          have k0 := cell_regrown x0
          have k1 := cell_regrown z0
          have b1 : decide ((i : Int) < 0) = false := by simp
          have b2 : (i : Int) < (L.length : Int) := by omega
          have b3 : (0 : Int) ≤ (i : Int) := by omega
          have b4 : i < L.length := by omega
          have HZI := hidden hzi
          clear hzown hW z0 x0 hLi hLz hnew hLl hzi
          refine wp_region_quiet_below (by kernel_rfl) (by kernel_rfl) ?_
          repeat (first | go_big_quiet_step (exact S1.out _ _) | quiet_step (exact S1.out _ _))
          refine wpQuiet_nil ?_
          intro _ hw'
          obtain ⟨pq, hw''⟩ := hw'
          subst hw''
          have hb9 := below_regrown wX pq.d pq.os
          generalize cmpLs z.lab.l x.lab.l = c0 at HNEW ⊢
          generalize Sort.grow (redrawn wX pq.d) pq.os = w9 at hb9 ⊢
          clear k0 k1 S1
          go_wp2_with fail
          go_meet
          exact ⟨by rw [HZI.out], by rw [HNEW.out], hb9⟩
      case rest =>
        obtain ⟨rfl, rfl, hbc⟩ := hcut
        have HMC := hidden (HMX.out.below hbc)
        have HXC := hidden (HXX.out.below hbc hXl)
        have HBC := hidden (HBX.out.trans (hbc.mono (by have := HBX.out.size; have := HH2.out; omega)))
        have hXc : X < wc.heap.size := by have := hbc.size; omega
        have hHc : H2 ≤ wc.heap.size := by have := HBC.out.size; have := HH2.out; omega
        clear hbc
        go_upto_if 35 with (fail)
        go_cut [4, 7] (fun u v wx => ∃ (M : List Ser) (y : Ser), Hid (MOut wx H2 u (M ++ [y])) ∧ v = .int .i64 (M.length : Int) ∧ M.length ≤ k ∧ Hid (addK (L.map Ser.sk) x.sk = M.map Ser.sk ++ [(y.lab.l, y.smp.l ++ x.smp.l, y.win.l ++ x.win.l)]) ∧ Hid (∀ a ∈ M ++ [y], a.lab.n ≤ 1048576 ∧ a.smp.n + a.win.n ≤ wsum (S.take k)) ∧ Hid (Below H2 w2 wx) ∧ Hid (Whole1 wx X 57 #[.slice x.lab.A x.lab.n x.lab.c, .slice x.smp.A x.smp.n x.smp.c, .slice x.win.A x.win.n x.win.c]) ∧ Hid (∀ q, (u.ownBlock = some q ∨ ∃ a ∈ M ++ [y], a.blk q) → q ≠ X))
        case first =>
          cases hN : isNew L x with
          | true =>
            have x0 : wc.cell? ⟨X, 0, none⟩ = some (.slice x.lab.A x.lab.n x.lab.c) := HXC.out.cell 0
            have hrl := ((HSX.out x (List.mem_of_getElem? HX.out)).1.below (HBC.out.mono hs2H)).lab
            have hsc : w.heap.size ≤ wc.heap.size := by omega
            have hlx : x.lab.l.length = x.lab.n := hrl.2.1
            go_wp2_with fail
            refine (cloneLO_any x.lab.A x.lab.n x.lab.c x.lab.l _ (hrl.2.2.more hsc) hlx (by omega)).mono ?_
            rintro e w6 ⟨⟨A6, n6, c6, l6⟩, rfl, hl6, hn6, hsa, hso, hb6, hlo6⟩
            simp only at hl6 hn6
            subst hl6 hn6
            have hfr := Row.fresh w6 57 3 1 [.slice A6 x.lab.n c6, .slice none 0 0, .slice none 0 0] rfl
            have hov := HMC.out.below hb6
            have hs6 := hb6.size
            simp only [Sl.val]
            go_wp2_with (at_builtin; refine wpList_app _ rfl _ _ 43 rfl H2 57 i0 _ 3 72 Tryz.underlying43 hi hz0 hz1 hz2 rfl (by decide) _ _ _ rfl (hov.row.alloc _) _ _ _ _ _ rfl hfr (by simp [Value.oneCell']) (by unfold maxLen; omega) (by omega) (by simp; omega) ?_; intro v9 w9 hown9 hg9 hat9)
            go_meet
            have hbA : Below w6.heap.size w6 (w6.alloc (.cells #[.slice A6 x.lab.n c6, .slice none 0 0, .slice none 0 0] 57)) := (Below.refl _ _).alloc (Nat.le_refl _) _
            have hcl : w6.heap.size ≤ (w6.alloc (.cells #[.slice A6 x.lab.n c6, .slice none 0 0, .slice none 0 0] 57)).heap.size := hbA.size
            have hsn := (hov.below hbA).snoc (y := ⟨⟨A6, x.lab.n, c6, x.lab.l⟩, Sl.nil, Sl.nil⟩) ((hsa.below hbA).more hcl) (fun hn => own_below (own_more (hlo6 hn) hHc) hbA (Nat.le_refl _)) rfl rfl (fun z hz q hq => hso q (((HMC.out.own z hz).lt hq).2)) (fun q hq => hso q ((HMC.out.row.lt q hq).2)) hg9 (hat9.imp id fun h => ⟨_, h, Nat.le_refl _⟩) hown9
            refine ⟨L, _, hidden hsn, rfl, hLk, hidden (addK_new hN rfl), hidden ?_, hidden ?_, hidden ?_, hidden ?_⟩
            · intro a ha
              rcases List.mem_append.1 ha with ha | ha
              · exact hsm.out a ha
              · rw [List.mem_singleton.1 ha]
                exact ⟨hxn, Nat.zero_le _⟩
            · have := (HBC.out.trans (hb6.mono hHc)).trans (hbA.mono (by omega))
              exact this.grown hg9 (by have := HH2.out; omega) (fun q hq => by have := (HMC.out.row.lt q hq).1; have := HH2.out; omega)
            · refine ((HXC.out.below hb6 hXc).below hbA (by omega)).grown hg9 ?_
              intro e
              exact absurd (HLX.out X (.inl e.symm)) (by omega)
            · rintro q (hq | ⟨a, ha, hq⟩)
              · rcases hat9 with e | e
                · rw [e] at hq
                  have := HLX.out q (.inl hq)
                  omega
                · rw [e] at hq
                  injection hq with hq
                  omega
              · rcases List.mem_append.1 ha with ha | ha
                · have := HLX.out q (.inr ⟨a, ha, hq⟩)
                  omega
                · rw [List.mem_singleton.1 ha] at hq
                  rcases hq with hq | hq <;> cases hq
          | false =>
            obtain ⟨M0, z, hLz, hadd⟩ := addK_old hN
            have hlen : L.length = M0.length + 1 := by rw [hLz, List.length_append]; rfl
            have hzi : (L.length : Int) - 1 = (M0.length : Int) := by omega
            have HLZ := hidden hLz
            have HZI := hidden hzi
            clear hLz hzi hlen
            go_wp2_with fail
            go_meet
            refine ⟨M0, z, hidden (by rw [← HLZ.out]; exact HMC.out), by rw [HZI.out], by have := HZI.out; omega, hidden hadd, hidden (by rw [← HLZ.out]; exact hsm.out), hidden HBC.out, hidden HXC.out, hidden ?_⟩
            rintro q hq
            rw [← HLZ.out] at hq
            have := HLX.out q hq
            omega
        case rest =>
          obtain ⟨M, y, hMC, rfl, hMk, hK, hsz, hBD, hXD, hne⟩ := hcut
          obtain ⟨i, hi'⟩ : ∃ i, M.length = i := ⟨_, rfl⟩
          obtain ⟨n2, hn2⟩ : ∃ n2, (M ++ [y]).length = n2 := ⟨_, rfl⟩
          have hni : n2 = i + 1 := by rw [← hn2, List.length_append, hi']; rfl
          have hyi : (M ++ [y])[i]? = some y := by rw [List.getElem?_append_right (by omega), hi', Nat.sub_self]; rfl
          have hrow := hMC.out.row
          rw [hn2] at hrow
          obtain ⟨go_, cap, rest, rfl, hgb, hW, hncap, hcap, hm1, hm2⟩ := own_whole_g SrtSer.hk hrow (by omega)
          have b2 : (i : Int) < (n2 : Int) := by omega
          have b3 : (0 : Int) ≤ (i : Int) := by omega
          have b4 : i < n2 := by omega
          have HNI := hidden hni
          have HYI := hidden hyi
          have HN2 := hidden hn2
          have HI := hidden hi'
          rw [hi']
          have hyo := hMC.out.own y (List.mem_of_getElem? hyi)
          have hyn := (hsz.out y (List.mem_of_getElem? hyi)).2
          have HW := hidden hW
          have HM1 := hidden hm1
          have HM2 := hidden hm2
          have HYO := hidden hyo
          obtain ⟨_, z1, _⟩ := ser_whole hW hyi
          have x1 : wc.cell? ⟨X, 1, none⟩ = some (.slice x.smp.A x.smp.n x.smp.c) := hXD.out.cell 1
          clear hni hyi hn2 hi' hrow hW hm1 hm2 hyo
          have HXW := hidden ((HSX.out x (List.mem_of_getElem? HX.out)).1.below (hBD.out.mono hs2H))
          have htk : S.take (k + 1) = S.take k ++ [x] := by rw [List.take_add_one, HX.out]; rfl
          have hwk : wsum (S.take k) + (x.smp.n + x.win.n) ≤ wsum S := by
            have h1 := wsum_snoc (S.take k) x
            rw [← htk] at h1
            have h2 := wsum_take S (k + 1)
            omega
          have HTK := hidden htk
          clear htk
          go_upto_region 11 with (fail)
          go_cut [] (fun wx => ∃ y' : Ser, y'.lab = y.lab ∧ y'.win = y.win ∧ y'.smp.l = y.smp.l ++ x.smp.l ∧ y'.smp.n = y.smp.n + x.smp.n ∧ Hid (MOut wx H2 (.slice (some ⟨go_, 0, none⟩) n2 cap) ((M ++ [y]).set i y')) ∧ Hid (Below H2 w2 wx) ∧ Hid (Whole1 wx X 57 #[.slice x.lab.A x.lab.n x.lab.c, .slice x.smp.A x.smp.n x.smp.c, .slice x.win.A x.win.n x.win.c]) ∧ Hid (∀ q, ((Value.slice (some ⟨go_, 0, none⟩) n2 cap).ownBlock = some q ∨ ∃ a ∈ (M ++ [y]).set i y', a.blk q) → q ≠ X))
          case first =>
            have f1 := HW.out.free (i * 3 + 1)
            have hbd : Below w.heap.size wc wc.drew := by have h := Below.refl w.heap.size wc; exact ⟨h.os, h.tape, h.output, h.size, h.block⟩
            have hxs := HXW.out.smp.2.2.below hbd
            have T := fun (ops : Array Oper) (o : Oper) (a : Act) (K : Act → World → Prop) (Q : Exit → Act → World → Prop) (E : Prop) (hg : o.guard = none) (s1 s2 : Operand) (ho : o.op = .call { callee := .builtin .append, args := #[s1, s2], argTypes := #[54, 54] }) (hs : a.eval s1 = y.smp.val) (hx : a.eval s2 = .slice x.smp.A x.smp.n x.smp.c) h =>
              step_app (P := Tryz.prog) (ops := ops) (o := o) (a := a) (K := K) (Q := Q) (E := E) wc.drew hg s1 s2 54 ho H2 112 iS _ 2 16 Tryz.underlying54 hiS hzS0 hzS1 hzS2 rfl (by decide) _ _ _ hs HYO.out.smp _ _ _ _ _ hx hxs (smpCells_one _) (by unfold maxLen; omega) (by omega) (by show _ ≤ wc.heap.size; have := hBD.out.size; have := HH2.out; omega) h
            have hgy : some go_ ≠ y.smp.val.ownBlock := fun e => (hMC.out.out y (List.mem_of_getElem? HYI.out) go_ rfl).1 (.inl e.symm)
            have HGY := hidden hgy
            clear hgy
            go_region_law (refine T _ _ _ _ _ _ rfl _ _ rfl rfl rfl ?_; intro v9 w9 hown9 hg9 hat9; obtain ⟨A9, c9, rfl, hc9, hr9⟩ := own_shape hown9; have hW9 := HW.out.drew.grown hg9 HGY.out; have p1 := (ser_whole hW9 HYI.out).2.1; have f9 := hW9.free (i * 3 + 1))
            all_goals
              go_wp2_with fail
              go_meet
              have hg0 := gb_trans (gb_drew (gb_refl wc _)) hg9
              obtain ⟨hyn9, hbn9⟩ := HYO.out.app_smp (l9 := y.smp.l ++ x.smp.l) hg0 hat9 (by rw [List.flatMap_append]; exact hown9) (by rw [List.length_append, HYO.out.lens.1, HXW.out.smp.2.1])
              have hMP := hMC.out.put HN2.out HYI.out HW.out hgb hncap hcap HM2.out hg0 (fun q hq => .inl hq) hyn9 rfl hbn9 (q := 1) (by decide) rfl
              refine ⟨⟨y.lab, ⟨A9, y.smp.n + x.smp.n, c9, y.smp.l ++ x.smp.l⟩, y.win⟩, rfl, rfl, rfl, rfl, hidden hMP, hidden ?_, hidden ?_, hidden ?_⟩
              · exact (hBD.out.grown hg0 (by have := HH2.out; have := hBD.out.size; omega) (fun q hq => by have := (HYO.out.smp.lt q hq).1; have := HH2.out; omega)).grown (gb_put (gb_refl w9 _) _ _) (by have := HH2.out; have := hg0.size; have := hBD.out.size; omega) (fun q hq => by injection hq with hq; have := HH2.out; omega)
              · refine (hXD.out.grown hg0 fun e => hne.out X (.inr ⟨y, List.mem_of_getElem? HYI.out, .inl e.symm⟩) rfl).off ?_ _
                exact fun e => hne.out X (.inl (by rw [e]; rfl)) rfl
              · rintro q (hq | ⟨a, ha, hq⟩)
                · exact hne.out q (.inl hq)
                · rcases List.mem_or_eq_of_mem_set ha with ha | rfl
                  · exact hne.out q (.inr ⟨a, ha, hq⟩)
                  · rcases hbn9 q hq with hq | hq
                    · exact hne.out q (.inr ⟨y, List.mem_of_getElem? HYI.out, hq⟩)
                    · have := hXD.out.lt; omega
          case rest =>
            obtain ⟨y2, hl2, hw2, hs2l, hs2n, hMC2, hBD2, hXD2, hne2⟩ := hcut
            have hset : (M ++ [y]).set i y2 = M ++ [y2] := by rw [List.set_append_right _ _ (by have := HI.out; omega), HI.out, Nat.sub_self]; rfl
            rw [hset] at hMC2 hne2
            have hyi2 : (M ++ [y2])[i]? = some y2 := by rw [List.getElem?_append_right (by have := HI.out; omega), HI.out, Nat.sub_self]; rfl
            have hn22 : (M ++ [y2]).length = n2 := by rw [← HN2.out, List.length_append, List.length_append]; rfl
            have hrow2 := hMC2.out.row
            rw [hn22] at hrow2
            obtain ⟨go2, cap2, rest2, hv2, hgb2, hW2, hncap2, hcap2, hm12, hm22⟩ := own_whole_g SrtSer.hk hrow2 (by omega)
            injection hv2 with hv21 hv22 hv23
            injection hv21 with hv21
            injection hv21 with hv21
            subst hv21
            subst hv23
            clear hv22
            have hyo2 := hMC2.out.own y2 (List.mem_of_getElem? hyi2)
            have HYI2 := hidden hyi2
            have HN22 := hidden hn22
            have HW2 := hidden hW2
            have HM22 := hidden hm22
            have HYO2 := hidden hyo2
            have HS2L := hidden hs2l
            have HL2 := hidden hl2
            have HW2E := hidden hw2
            obtain ⟨_, _, z2⟩ := ser_whole hW2 hyi2
            have x2 : wc.cell? ⟨X, 2, none⟩ = some (.slice x.win.A x.win.n x.win.c) := hXD2.out.cell 2
            have HXW2 := hidden ((HSX.out x (List.mem_of_getElem? HX.out)).1.below (hBD2.out.mono hs2H))
            have hyn2 : y2.win.n + x.win.n ≤ 1099511627776 := by rw [hw2]; omega
            have hs2c : H2 ≤ wc.heap.size := by have := hBD2.out.size; have := HH2.out; omega
            have f2 := HW2.out.free (i * 3 + 2)
            have hbd2 : Below w.heap.size wc wc.drew := by have h := Below.refl w.heap.size wc; exact ⟨h.os, h.tape, h.output, h.size, h.block⟩
            have hxs := HXW2.out.win.2.2.below hbd2
            have T := fun (ops : Array Oper) (o : Oper) (a : Act) (K : Act → World → Prop) (Q : Exit → Act → World → Prop) (E : Prop) (hg : o.guard = none) (s1 s2 : Operand) (ho : o.op = .call { callee := .builtin .append, args := #[s1, s2], argTypes := #[55, 55] }) (hs : a.eval s1 = y2.win.val) (hx : a.eval s2 = .slice x.win.A x.win.n x.win.c) h =>
              step_app (P := Tryz.prog) (ops := ops) (o := o) (a := a) (K := K) (Q := Q) (E := E) wc.drew hg s1 s2 55 ho H2 159 iW _ 6 48 Tryz.underlying55 hiW hzW0 hzW1 hzW2 rfl (by decide) _ _ _ hs HYO2.out.win _ _ _ _ _ hx hxs (winCells_one _) (by unfold maxLen; omega) (by omega) (by show _ ≤ wc.heap.size; omega) h
            have HGY2 := hidden (fun e => (hMC2.out.out y2 (List.mem_of_getElem? HYI2.out) go_ rfl).1 (.inr e.symm) : some go_ ≠ y2.win.val.ownBlock)
            clear hxs hyi2 hn22 hW2 hm22 hyo2 hs2l hl2 hw2 hm12 hset
            go_wp2_with fail
            go_region_law (refine T _ _ _ _ _ _ rfl _ _ rfl rfl rfl ?_; intro v9 w9 hown9 hg9 hat9; obtain ⟨A9, c9, rfl, hc9, hr9⟩ := own_shape hown9; have hW9 := HW2.out.drew.grown hg9 HGY2.out; have p2 := (ser_whole hW9 HYI2.out).2.2; have f9 := hW9.free (i * 3 + 2))
            all_goals
              go_wp2_with fail
              go_roundw
              case rel =>
                have hg0 := gb_trans (gb_drew (gb_refl wc _)) hg9
                obtain ⟨hyn9, hbn9⟩ := HYO2.out.app_win (l9 := y2.win.l ++ x.win.l) hg0 hat9 (by rw [List.flatMap_append]; exact hown9) (by rw [List.length_append, HYO2.out.lens.2, HXW2.out.win.2.1])
                have hMP := hMC2.out.put HN22.out HYI2.out HW2.out hgb hncap2 hcap HM22.out hg0 (fun q hq => .inr hq) hyn9 rfl hbn9 (q := 2) (by decide) rfl
                have hset3 : (M ++ [y2]).set i ⟨y2.lab, y2.smp, ⟨A9, y2.win.n + x.win.n, c9, y2.win.l ++ x.win.l⟩⟩ = M ++ [⟨y2.lab, y2.smp, ⟨A9, y2.win.n + x.win.n, c9, y2.win.l ++ x.win.l⟩⟩] := by rw [List.set_append_right _ _ (by have := HI.out; omega), HI.out, Nat.sub_self]; rfl
                rw [hset3] at hMP
                have hws1 := wsum_snoc (S.take k) x
                have htk1 : wsum (S.take (k + 1)) = wsum (S.take k) + (x.smp.n + x.win.n) := by rw [HTK.out]; exact hws1
                refine ⟨k + 1, _, _, rfl, by go_num, by omega, hidden hMP, hidden ?_, ?_, hidden ?_, ?_⟩
                · rw [HTK.out, groupK_snoc, ← hkeys.out, hK.out, List.map_append]
                  show _ ++ [((⟨y2.lab, y2.smp, ⟨A9, y2.win.n + x.win.n, c9, y2.win.l ++ x.win.l⟩⟩ : Ser)).sk] = _
                  unfold Ser.sk
                  rw [HS2L.out, HL2.out, HW2E.out]
                · rw [List.length_append, List.length_singleton]; have := HI.out; omega
                · intro a ha
                  rw [htk1]
                  rcases List.mem_append.1 ha with ha | ha
                  · have := hsz.out a (List.mem_append_left _ ha)
                    omega
                  · rw [List.mem_singleton.1 ha]
                    have h1 := (hsz.out y (List.mem_append_right _ (List.mem_singleton.2 rfl)))
                    show y2.lab.n ≤ _ ∧ y2.smp.n + (y2.win.n + x.win.n) ≤ _
                    rw [HL2.out, HW2E.out]
                    omega
                · exact (hBD2.out.grown hg0 hs2c (fun q hq => by have := (HYO2.out.win.lt q hq).1; omega)).grown (gb_put (gb_refl w9 _) _ _) (by have := hg0.size; omega) (fun q hq => by injection hq with hq; omega)
              case measure => simp [intOf]; omega
    · obtain rfl : k = N := by omega
      have htk : S.take k = S := List.take_of_length_le (by rw [HSL.out]; exact Nat.le_refl _)
      have hkey : L.map Ser.sk = groupK S := by rw [hkeys.out, htk]
      have hsm2 : ∀ y ∈ L, y.lab.n ≤ 1048576 ∧ y.smp.n + y.win.n ≤ 1099511627776 := fun y hy => by
        have := hsm.out y hy
        rw [htk] at this
        omega
      have HKEY := hidden hkey
      have HSM2 := hidden hsm2
      have HLEN2 := hidden (fun y hy => (hM.out.own y hy).lens : ∀ y ∈ L, y.smp.l.length = y.smp.n ∧ y.win.l.length = y.win.n)
      clear htk hkey hsm2 hsm hkeys
      obtain ⟨A4, c4, rfl, hc4, hr4⟩ := own_shape hM.out.row
      obtain ⟨ll, hll⟩ : ∃ ll, L.length = ll := ⟨_, rfl⟩
      rw [hll] at hc4 hr4 hLk
      have hM4 : Hid (MOut wr H2 (.slice A4 ll c4) L) := hidden (by rw [← hll]; exact hM.out)
      rw [hll]
      have HLL := hidden hll
      clear hll hM hr4
      have hb4 := hb
      go_wp2_with fail
      go_loopw [72] (fun vi wq => ∃ (j : Nat) (R : List Ser), vi = .int .i64 j ∧ j ≤ ll ∧ R.length = ll ∧ Hid (MOut wq H2 (.slice A4 ll c4) R) ∧ Hid (∀ i y, L[i]? = some y → if i < j then ∃ y', R[i]? = some y' ∧ y'.lab = y.lab ∧ OncSmp.Once y.smp.l y'.smp.l ∧ OncWin.Once y.win.l y'.win.l else R[i]? = some y) ∧ Below H2 w2 wq) (fun vi _ => ll - (intOf vi).toNat)
      case atStart => exact ⟨0, L, rfl, Nat.zero_le _, HLL.out, hM4, hidden (fun i y h => by rw [if_neg (by omega)]; exact h), hb4⟩
      case round =>
        obtain ⟨j, R, rfl, hj, hRl, hMR, hRel, hbR⟩ := hrel
        by_cases hlt2 : j < ll
        · obtain ⟨y, hy⟩ : ∃ y, L[j]? = some y := ⟨_, List.getElem?_eq_getElem (by have := HLL.out; omega)⟩
          have hyR : R[j]? = some y := by have := hRel.out j y hy; rwa [if_neg (by omega)] at this
          have hyn := (HSM2.out y (List.mem_of_getElem? hy)).2
          have HYL := hidden hy
          have HYR := hidden hyR
          have hrow := hMR.out.row
          rw [hRl] at hrow
          obtain ⟨go_, cap, rest, hv, hgb, hW, hncap, hcap, hm1, hm2⟩ := own_whole_g SrtSer.hk hrow (by omega)
          injection hv with hv1 hv2 hv3
          subst hv1
          subst hv3
          clear hv2
          have HRL := hidden hRl
          have HM2 := hidden hm2
          obtain ⟨z0, z1, z2⟩ := ser_whole hW hyR
          simp only [Sl.val] at z0 z1 z2
          have hsr : H2 ≤ wr.heap.size := by have := hbR.size; have := HH2.out; omega
          have b1 : (0 : Int) ≤ (j : Int) := by omega
          have b2 : (j : Int) < (ll : Int) := by omega
          have HWR := hidden hW
          clear hy hyR hrow hW hm1 hm2 hRl
          go_upto_region 17 with (fail)
          have hX := Whole1.new wr 57 #[.slice y.lab.A y.lab.n y.lab.c, .slice y.smp.A y.smp.n y.smp.c, .slice y.win.A y.win.n y.win.c]
          have hbX : Below wr.heap.size wr (wr.alloc (.cells #[.slice y.lab.A y.lab.n y.lab.c, .slice y.smp.A y.smp.n y.smp.c, .slice y.win.A y.win.n y.win.c] 57)) := (Below.refl _ _).alloc (Nat.le_refl _) _
          have hMX := hMR.out.below hbX
          have hBX := hbR.trans (hbX.mono hsr)
          have hltX := mout_lt hMR.out
          have hWX := HWR.out.below hbX HWR.out.lt
          generalize wr.alloc (.cells #[.slice y.lab.A y.lab.n y.lab.c, .slice y.smp.A y.smp.n y.smp.c, .slice y.win.A y.win.n y.win.c] 57) = wX at hX hbX hMX hBX hWX ⊢
          obtain ⟨X, hXe⟩ : ∃ X, wr.heap.size = X := ⟨_, rfl⟩
          rw [hXe] at hX hltX hsr ⊢
          have HMX := hidden hMX
          have HBX := hidden hBX
          have HWX := hidden hWX
          have HXX := hidden hX
          have HLX := hidden hltX
          have hyo := hMX.own y (List.mem_of_getElem? HYR.out)
          have HYO := hidden hyo
          have hXl := hX.lt
          have x1 : wX.cell? ⟨X, 1, none⟩ = some (.slice y.smp.A y.smp.n y.smp.c) := hX.cell 1
          have x2 : wX.cell? ⟨X, 2, none⟩ = some (.slice y.win.A y.win.n y.win.c) := hX.cell 2
          obtain ⟨_, z1, z2⟩ := ser_whole hWX HYR.out
          have f1 := hWX.free (j * 3 + 1)
          have f2 := hWX.free (j * 3 + 2)
          have HNS := hidden (fun e => (HMX.out.out y (List.mem_of_getElem? HYR.out) go_ rfl).1 (.inl e.symm) : some go_ ≠ y.smp.val.ownBlock)
          have HNW := hidden (fun e => (HMX.out.out y (List.mem_of_getElem? HYR.out) go_ rfl).1 (.inr e.symm) : some go_ ≠ y.win.val.ownBlock)
          have HXS := hidden (fun e => absurd (HLX.out X (.inr ⟨y, List.mem_of_getElem? HYR.out, .inl e.symm⟩)) (by omega) : some X ≠ y.smp.val.ownBlock)
          clear hX hbX hMX hBX hltX hWX hyo hXe
          have S1 := fun (W : World) h => OncSmp.once_any H2 y.smp.n y.smp.val y.smp.l W h HYO.out.lens.1 (by omega)
          have S2 := fun (W : World) h => OncWin.once_any H2 y.win.n y.win.val y.win.l W h HYO.out.lens.2 (by omega)
          simp only [Sl.val] at S1 S2
          go_wp2_with fail
          go_region_law (first
            | (go_simp; go_at_call 70; refine (S1 wX.drew HYO.out.smp).mono ?_; rintro e w8 ⟨v8, R8, rfl, hO8, hw8, hg8, hv8⟩; obtain ⟨A8, c8, rfl, hc8, hr8⟩ := own_shape hw8; have hX8 := HXX.out.drew.grown hg8 HXS.out; have p2 := hX8.cell 2; have hW8 := HWX.out.drew.grown hg8 HNS.out; have q1 := (ser_whole hW8 HYR.out).2.1; have q2 := (ser_whole hW8 HYR.out).2.2; have hwin8 : w8.ownsRow H2 winT 6 y.win.val y.win.n (y.win.l.flatMap Win.cells) := HYO.out.win.kept (gb_trans (gb_drew (gb_refl wX _)) hg8) (by cases hv : y.win.val.ownBlock with | none => exact .inl rfl | some q => exact .inr fun e => HYO.out.inner q e.symm hv))
            | (go_simp; go_at_call 72; refine (S2 w8 hwin8).mono ?_; rintro e w9 ⟨v9, R9, rfl, hO9, hw9, hg9, hv9⟩; obtain ⟨A9, c9, rfl, hc9, hr9⟩ := own_shape hw9; have hW9 := hW8.grown hg9 HNW.out; have q3 := (ser_whole hW9 HYR.out).2.1; have q4 := (ser_whole hW9 HYR.out).2.2; have f3 := hW9.free (j * 3 + 1); have f4 := hW9.free (j * 3 + 2)))
          all_goals
            go_wp2_with fail
            go_roundw
            case rel =>
              have hg0 := gb_trans (gb_drew (gb_refl wX _)) hg8
              have hMP := HMX.out.put2 HRL.out HYR.out HWX.out hgb hncap hcap HM2.out hg0 hg9 hv8 hv9 hw8 hw9 rfl rfl
              refine ⟨j + 1, _, by go_num, by omega, by rw [List.length_set]; exact HRL.out, hidden hMP, hidden ?_, ?_⟩
              · intro i z hz
                by_cases hij : i = j
                · subst hij
                  obtain rfl : z = y := Option.some.inj (hz.symm.trans HYL.out)
                  rw [if_pos (by omega)]
                  exact ⟨_, List.getElem?_set_self (List.getElem?_eq_some_iff.1 HYR.out).1, rfl, hO8, hO9⟩
                · have h1 := hRel.out i z hz
                  rw [List.getElem?_set_ne (fun e => hij e.symm)]
                  by_cases h2 : i < j
                  · rw [if_pos h2] at h1
                    rw [if_pos (by omega)]
                    exact h1
                  · rw [if_neg h2] at h1
                    rw [if_neg (by omega)]
                    exact h1
              · have e1 := HBX.out.size
                have e2 := hg0.size
                have e3 := hg9.size
                have e4 := HH2.out
                exact ((HBX.out.grown hg0 (by omega) (fun q hq => (HYO.out.smp.lt q hq).1)).grown hg9 (by omega) (fun q hq => (HYO.out.win.lt q hq).1)).grown (gb_put (gb_put (gb_refl w9 _) _ _) _ _) (by omega) (fun q hq => by injection hq with hq; omega)
            case measure => simp [intOf]; omega
        · obtain rfl : ll = j := by omega
          have HFIN := hidden (fun i y h => by have := hRel.out i y h; rwa [if_pos (by have := (List.getElem?_eq_some_iff.1 h).1; have := HLL.out; omega)] at this : ∀ (i : Nat) (y : Ser), L[i]? = some y → ∃ y' : Ser, R[i]? = some y' ∧ y'.lab = y.lab ∧ OncSmp.Once y.smp.l y'.smp.l ∧ OncWin.Once y.win.l y'.win.l)
          have hRL := hidden hRl
          clear hRel hRl
          go_wp2_with fail
          have HFIN2 := hidden (onced_of HKEY.out HLL.out hRL.out HFIN.out)
          have HSZ := hidden (once_sizes hMR.out HLL.out hRL.out HLEN2.out HSM2.out HFIN.out)
          have hbE : Below w.heap.size w wr := hb2.trans (hbR.mono hs2H)
          clear HKEY HSM2 HLL HFIN HLEN2
          rcases Nat.eq_zero_or_pos ll with h0 | h0
          · subst h0
            obtain rfl : R = [] := List.eq_nil_of_length_eq_zero hRL.out
            refine (DelSer.delete0_any A4 c4 _ wr).mono ?_
            rintro e w9 ⟨rfl, rfl⟩
            go_wp2_with fail
            go_ret
            exact mergeS_mk HS.out HFIN2.out hs2H hMR.out HSZ.out (fun y hy => (hMR.out.own y hy).lens) hbE
          · have hrow := hMR.out.row
            rw [hRL.out] at hrow
            obtain ⟨go_, cap, rest, hv, hgb, hW, hncap, hcap, hm1, hm2⟩ := own_whole_g SrtSer.hk hrow h0
            injection hv with hv1 hv2 hv3
            subst hv1
            subst hv3
            clear hv2 hrow
            have eg : ∀ args w, (callFunc 75 args).run Tryz.prog w = .ok (.enter 75 args) w := enters_of Tryz.func75 (by kernel_rfl) rfl
            refine (DelSer.delete_any go_ ll c4 R rest _ _ _ (fun x => !full x) wr eg (fun x hx W _ => gone_any x W (HSZ.out x hx).2) hW hRL.out hm2 hncap (by omega)).mono ?_
            rintro e w9 ⟨v9, rfl, rest9, rfl, hc9, hW9, hm9, hg9⟩
            have hlf : DelSer.left (fun x => !full x) R = R.filter full := by unfold DelSer.left; simp
            rw [hlf] at hc9 hW9 hm9 ⊢
            have HLR := hidden (fun y hy => (hMR.out.own y hy).lens : ∀ y ∈ R, y.smp.l.length = y.smp.n ∧ y.win.l.length = y.win.n)
            have HFL := hidden (hMR.out.filter full hgb hW9 hc9 hcap hm9 hg9)
            have hbE9 := hbE.grown hg9 hbE.size (fun q hq => by injection hq with hq; omega)
            clear hW hW9 hm9 hlf eg
            go_wp2_with fail
            go_ret
            exact mergeS_mk HS.out HFIN2.out hs2H HFL.out HSZ.out HLR.out hbE9
end Go.Proofs.YtbijjjhfekkfaaaGreat
