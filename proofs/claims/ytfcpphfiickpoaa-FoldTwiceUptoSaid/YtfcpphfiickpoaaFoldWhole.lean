/- FoldWhole: each sample lies in just one window; the Counts add up; windows lie apart. Condition: what comes in is of bulk at most 1048576 (the '..Upto' form). -/
import Derived.Test.YtfcpphfiickpoaaFoldWindows
import Derived.Test.YtfcpphfiickpoaaFoldWholeP
namespace Go.Proofs.Ytfcpphfiickpoaa
open Go.RowKit Go.WideShapes Go.ChangeShapes

/-- a window of samples, by what the law asks of it -/
theorem smpWin_of {g : Int × List Smp} (h : g.2 ≠ []) : smpWin g = ⟨g.1, g.2.length, csum (vals g.2), (leastOf (vals g.2)).2, (greatOf (vals g.2)).2, lastV g.2⟩ := by
  unfold smpWin refWin
  rw [if_neg (by simpa [vals] using h)]

theorem lastV_at {l : List Smp} {m : Nat} (h : l.length = m + 1) : ∃ s, l[m]? = some s ∧ s.v = lastV l := by
  refine ⟨l[m], List.getElem?_eq_getElem (by omega), ?_⟩
  unfold lastV
  rw [List.getLast?_eq_getElem?, show l.length - 1 = m from by omega, List.getElem?_eq_getElem (by omega)]

theorem rising_of {d : Int} {l : List Smp} (hd : ¬(d < 1 ∨ 1099511627776 < d)) (h : ∀ j, j < l.length → stepErr Smp.t (fun _ => 0) d l j = 0) : Rising Smp.t l :=
  fun _ j _ y hij hx hy => times_rise Smp.t (fun _ => 0) d hd h hx j y hij hy

theorem noErr {d : Int} {l : List Smp} (h : errOf Smp.t (fun _ => 0) d l = 0) : ¬(d < 1 ∨ 1099511627776 < d) ∧ ∀ j, j < l.length → stepErr Smp.t (fun _ => 0) d l j = 0 := by
  have hd : ¬(d < 1 ∨ 1099511627776 < d) := fun hd => by rw [errOf_width _ _ _ _ hd] at h; cases h
  refine ⟨hd, fun j hj => ?_⟩
  have H : ∀ n, (∀ i, i < n → stepErr Smp.t (fun _ => 0) d l i = 0) ∨ ∃ i, i < n ∧ (∀ j, j < i → stepErr Smp.t (fun _ => 0) d l j = 0) ∧ stepErr Smp.t (fun _ => 0) d l i ≠ 0 := by
    intro n
    induction n with
    | zero => exact .inl (fun i hi => absurd hi (by omega))
    | succ n ih =>
      rcases ih with ih | ⟨i, hi, h1, h2⟩
      · by_cases hz : stepErr Smp.t (fun _ => 0) d l n = 0
        · refine .inl (fun i hi => ?_)
          rcases Nat.lt_or_ge i n with h | h
          · exact ih i h
          · have : i = n := by omega
            subst this; exact hz
        · exact .inr ⟨n, by omega, ih, hz⟩
      · exact .inr ⟨i, by omega, h1, h2⟩
  rcases H l.length with H | ⟨i, hi, h1, h2⟩
  · exact H j hj
  · rw [errOf_at _ _ _ hd hi h1 h2] at h
    exact absurd h h2

theorem grp_start {d : Int} (hd : 1 ≤ d) {G : List (Int × List Smp)} {l : List Smp} (good : GoodGrps Smp.t d G) (flat : G.flatMap (·.2) = l) (hv : ∀ x ∈ l, 0 ≤ x.t ∧ x.t ≤ 1125899906842624) {g : Int × List Smp} (hg : g ∈ G) :
    0 ≤ g.1 ∧ g.1 ≤ 1125899906842624 := by
  obtain ⟨gne, gin⟩ := good.full g hg
  obtain ⟨y, hy⟩ := List.exists_mem_of_ne_nil _ gne
  have h1 := hv y (by rw [← flat]; exact List.mem_flatMap.2 ⟨g, hg, hy⟩)
  rw [← gin y hy]
  exact ⟨Int.mul_nonneg (Int.ediv_nonneg h1.1 (by omega)) (by omega), by have := Int.ediv_mul_le y.t (show d ≠ 0 by omega); omega⟩

set_option maxRecDepth 100000 in
set_option maxHeartbeats 3200000 in
theorem foldWhole_any (d : Int) (A : Option Addr) (n c : Nat) (l : List Smp) (w : World) (hr : Row w w.heap.size 2 A n (smpCells l)) (hl : l.length = n) (hnc : n ≤ c) (hn : n * 48 ≤ 140737488351232) (hok : ∀ s ∈ l, s.ok) :
    Calls Try.prog 8 #[.int .i64 d, .slice A n c] w fun e w' => e = .returned (.bool true) ∧ Below w.heap.size w w' := by
  have hL := hidden hl
  clear hl
  go_enter Try.func8, Try.ntmps8
  go_wp2_with fail
  refine (wakes_any _).mono ?_
  rintro e w0 ⟨rfl, hb0⟩
  go_wp2_with fail
  refine (samples_any A n c _ w0 ((hr.below hb0).more hb0.size) (smpCells_one _) (by omega)).mono ?_
  rintro e w1 ⟨v, rfl, hown1, hb1⟩
  obtain ⟨A1, c1, rfl, hc1, hr1⟩ := own_shape hown1
  have hb1' := hb0.trans (hb1.mono hb0.size)
  clear hown1
  go_wp2_with fail
  refine (windows_calls d A1 n c1 l w1 hr1 hL.out hc1 hn hok).mono ?_
  rintro e w2 ⟨v1, rfl, hG, hb2⟩
  have hb2' := hb1'.trans (hb2.mono hb1'.size)
  clear hb0 hb1 hb2 hb1' hr1
  unfold GrpResS at hG
  by_cases hee : errOf Smp.t (fun _ => 0) d l = 0
  · rw [if_pos hee] at hG
    obtain ⟨hd, herr⟩ := noErr hee
    rw [hee]
    obtain ⟨B1, k1, rfl, hk1, r1⟩ := own_shape hG
    have good := hidden (good_groups Smp.t d (by omega) (rising_of hd herr))
    have hflat := hidden (groups_flat Smp.t d l)
    have hcnt := hidden (grp_count Smp.t d l)
    have hvalid : Hid (∀ x ∈ l, 0 ≤ x.t ∧ x.t ≤ 1125899906842624) := by
      intro x hx
      obtain ⟨i, hi, hx⟩ := List.mem_iff_getElem.1 hx
      have := valid_at Smp.t (fun _ => 0) d (herr i hi) (by rw [List.getElem?_eq_getElem hi, hx]) hd
      exact ⟨this.1, this.2.1⟩
    have d1 : 1 ≤ d := by omega
    have d2 : d ≤ 1099511627776 := by omega
    have HB := hidden hb2'
    clear hee herr hd hG hb2'
    generalize groupsOf Smp.t d l = G at *
    have hrl : (G.map smpWin).length = G.length := List.length_map _
    have hGn : G.length ≤ n := by have := hcnt.out; rw [hL.out] at this; exact this
    have HRL := hidden hrl
    clear hrl
    go_wp2
    go_loopw [7, 28] (fun at_ i wr => ∃ k : Nat, k ≤ G.length ∧ i = .int .i64 k ∧ at_ = .int .i64 (ahead G k : Nat) ∧ Below w2.heap.size w2 wr) (fun _ i _ => G.length - (intOf i).toNat)
    case atStart => exact ⟨0, Nat.zero_le _, rfl, rfl, Below.refl _ _⟩
    case round =>
      obtain ⟨k, hk, rfl, rfl, hbr⟩ := hrel
      by_cases hlt : k < G.length
      · obtain ⟨gw, ow, rfl, hgw, xw, hxw, e0, e1, e2, e3, e4, e5⟩ := win_cells_at r1 HRL.out hbr k hlt
        have hgk : G[k]? = some G[k] := List.getElem?_eq_getElem hlt
        rw [List.getElem?_map, hgk] at hxw
        simp only [Option.map_some, Option.some.injEq] at hxw
        obtain ⟨gne, gin⟩ := good.out.full G[k] (List.getElem_mem hlt)
        rw [smpWin_of gne] at hxw
        subst hxw
        simp only at e0 e1 e2 e3 e4 e5
        have has := ahead_succ hgk
        have hale := ahead_le G (k + 1)
        rw [hflat.out, hL.out] at hale
        have hat := hidden (fun j hj => ahead_at hgk j hj)
        obtain ⟨m, hm⟩ : ∃ m, G[k].2.length = m + 1 := ⟨G[k].2.length - 1, by
          have : G[k].2.length ≠ 0 := fun h => gne (List.eq_nil_of_length_eq_zero h)
          omega⟩
        obtain ⟨z, hz, hzv⟩ := lastV_at hm
        have hmem : ∀ y ∈ G[k].2, y ∈ l := fun y hy => by
          rw [← hflat.out]
          exact List.mem_flatMap.2 ⟨G[k], List.getElem_mem hlt, hy⟩
        obtain ⟨y0, hy0⟩ := List.exists_mem_of_ne_nil _ gne
        have hv0 := hvalid.out y0 (hmem y0 hy0)
        have hs0 := gin y0 hy0
        have s1 : 0 ≤ G[k].1 := by rw [← hs0]; exact Int.mul_nonneg (Int.ediv_nonneg hv0.1 (by omega)) (by omega)
        have s2 : G[k].1 ≤ 1125899906842624 := by have := Int.ediv_mul_le y0.t (show d ≠ 0 by omega); omega
        have s3 : G[k].1 % d = 0 := by rw [← hs0]; exact Int.mul_emod_left _ _
        have s4 : G[k].1.tmod d = 0 := by rw [Int.tmod_eq_emod_of_nonneg s1]; exact s3
        have hprev := hidden (fun j h (hj : G[j]? = some h) (hjk : j + 1 = k) => good.out.apart j h G[k] hj (by rw [hjk]; exact hgk))
        have hin : Hid (∀ (j : Nat) (y : Smp), G[k].2[j]? = some y → G[k].1 ≤ y.t ∧ y.t < G[k].1 + d ∧ y.t ≤ 1125899906842624) := by
          intro j y hy
          have hy1 := List.mem_of_getElem? hy
          have h1 := gin y hy1
          have h2 := hvalid.out y (hmem y hy1)
          have h3 := Int.ediv_mul_le y.t (show d ≠ 0 by omega)
          have h4 := Int.lt_ediv_add_one_mul_self y.t (show 0 < d by omega)
          rw [Int.add_mul, Int.one_mul] at h4
          omega
        have hlen := hidden hm
        rw [hm] at e1 has
        have HZ := hidden hz
        have HZV := hidden hzv
        have HAS := hidden has
        have HGK := hidden hgk
        rw [← HZV.out] at e5
        clear hz hzv gne gin hmem hy0 hv0 hs0 hgk hm
        generalize hsd : G[k].1 = S at *
        have HSD := hidden hsd
        clear hsd
        generalize csum (vals G[k].2) = q2 at *
        generalize (leastOf (vals G[k].2)).2 = q3 at *
        generalize (greatOf (vals G[k].2)).2 = q4 at *
        obtain ⟨a, ha⟩ : ∃ a, ahead G k = a := ⟨_, rfl⟩
        rw [ha] at hat HAS ⊢
        rw [ha] at has
        have han : a + (m + 1) ≤ n := by omega
        have HA := hidden ha
        clear ha has hale
        obtain ⟨gs, o, rfl, hgs, _⟩ := hr.at_ (by omega)
        have hxb : Whole1 (wr.alloc (Obj.cells #[.int .i64 S, .int .i64 ((m + 1 : Nat) : Int), .int .u64 (q2 : Nat), .int .u64 (q3 : Nat), .int .u64 (q4 : Nat), .int .u64 ((z.v : Nat) : Int)] 33)) wr.heap.size 33 #[.int .i64 S, .int .i64 ((m + 1 : Nat) : Int), .int .u64 (q2 : Nat), .int .u64 (q3 : Nat), .int .u64 (q4 : Nat), .int .u64 ((z.v : Nat) : Int)] := Whole1.new _ _ _
        have hbx := hbr.alloc hbr.size (Obj.cells #[.int .i64 S, .int .i64 ((m + 1 : Nat) : Int), .int .u64 (q2 : Nat), .int .u64 (q3 : Nat), .int .u64 (q4 : Nat), .int .u64 ((z.v : Nat) : Int)] 33)
        have HX := hidden hxb
        have HBX := hidden hbx
        clear hxb hbx
        go_upto_region 10 with (fail)
        generalize hw5 : wr.alloc _ = w5
        have hX5 : Whole1 w5 wr.heap.size 33 #[.int .i64 S, .int .i64 ((m + 1 : Nat) : Int), .int .u64 (q2 : Nat), .int .u64 (q3 : Nat), .int .u64 (q4 : Nat), .int .u64 ((z.v : Nat) : Int)] := by rw [← hw5]; exact HX.out
        have hB5 : Below w2.heap.size w2 w5 := by rw [← hw5]; exact HBX.out
        clear hw5 HX HBX e0 e1 e2 e3 e4 e5 hbr
        generalize wr.heap.size = bx at *
        clear wr
        have x0 : w5.cell? ⟨bx, 0, none⟩ = some (.int .i64 S) := hX5.cell 0
        have x1 : w5.cell? ⟨bx, 1, none⟩ = some (.int .i64 ((m + 1 : Nat) : Int)) := hX5.cell 1
        have x5 : w5.cell? ⟨bx, 5, none⟩ = some (.int .u64 ((z.v : Nat) : Int)) := hX5.cell 5
        have X5 := hidden hX5
        have B5 := hidden hB5
        clear hX5 hB5
        have t1 : (S.tmod d != 0) = false := by rw [s4]; rfl
        have t2 : (S % d != 0) = false := by rw [s3]; rfl
        have t4 : IntKind.i64.wrap ((n : Int) - (a : Int)) = ((n - a : Nat) : Int) := by rw [IntKind.wrap_i64]; omega
        have t5 : decide (n - a < m + 1) = false := by rw [decide_eq_false_iff_not]; omega
        have t7 : decide ((m : Int) + 1 < 1) = false := by rw [decide_eq_false_iff_not]; omega
        have t8 : decide ((m : Int) < 0) = false := by rw [decide_eq_false_iff_not]; omega
        have t9 : decide (((n - a : Nat) : Int) < (m : Int) + 1) = false := by rw [decide_eq_false_iff_not]; omega
        have t10 : decide (n - a ≤ m) = false := by rw [decide_eq_false_iff_not]; omega
        have t11 : decide (((n - a : Nat) : Int) ≤ (m : Int)) = false := by rw [decide_eq_false_iff_not]; omega
        clear s3 s4
        go_cut [68] (fun v wx => v = .bool false ∧ ∃ q, wx = w5.drewN q)
        case first =>
          by_cases hk0 : k = 0
          · have t6 : decide (0 < k) = false := by rw [decide_eq_false_iff_not]; omega
            have HK := hidden hk0
            clear hk0
            go_quiet (fail)
            go_wp2_with fail
            go_meet
            exact ⟨rfl, _, rfl⟩
          · obtain ⟨j, hj⟩ : ∃ j, k = j + 1 := ⟨k - 1, by omega⟩
            have hjl : j < G.length := by omega
            obtain ⟨gw', ow', hA, _, xp, hxp, p0, _, _, _, _, _⟩ := win_cells_at r1 HRL.out B5.out j hjl
            injection hA with hA
            injection hA with hA1 hA2
            subst hA1 hA2
            have hgj : G[j]? = some G[j] := List.getElem?_eq_getElem hjl
            rw [List.getElem?_map, hgj] at hxp
            simp only [Option.map_some, Option.some.injEq] at hxp
            have hps := grp_start d1 good.out hflat.out hvalid.out (List.getElem_mem hjl)
            have hpd := hprev.out j _ hgj hj.symm
            have hxp1 : xp.start = G[j].1 := by rw [← hxp, smpWin_of (good.out.full _ (List.getElem_mem hjl)).1]
            rw [hxp1] at p0
            clear hxp hxp1 hgj
            generalize G[j].1 = P at p0 hps hpd
            have u1 : IntKind.i64.wrap ((k : Int) - 1) = (j : Int) := by rw [IntKind.wrap_i64]; omega
            have u2 : (j : Int) < (G.length : Int) := by omega
            have u3 : (0 : Int) ≤ (j : Int) := by omega
            have u4 : IntKind.i64.wrap (S - P) = S - P := by rw [IntKind.wrap_i64]; omega
            have u5 : decide (S - P < d) = false := by rw [decide_eq_false_iff_not]; omega
            have t6 : decide (0 < k) = true := by rw [decide_eq_true_eq]; omega
            have HJ := hidden hj
            clear hj hk0
            go_quiet (fail)
            go_wp2_with fail
            go_meet
            exact ⟨rfl, _, rfl⟩
        case rest =>
          obtain ⟨rfl, q, hq⟩ := hcut
          have hXc : Whole1 wc bx 33 #[.int .i64 S, .int .i64 ((m + 1 : Nat) : Int), .int .u64 (q2 : Nat), .int .u64 (q3 : Nat), .int .u64 (q4 : Nat), .int .u64 ((z.v : Nat) : Int)] := by rw [hq]; exact X5.out
          have hBc : Below w2.heap.size w2 wc := by rw [hq]; exact below_drewN B5.out q
          clear hq x0 x1 x5 X5 B5 t1 t2 t4 t5 t7 t8 t9 t10 t11
          have y0 : wc.cell? ⟨bx, 0, none⟩ = some (.int .i64 S) := hXc.cell 0
          have y1 : wc.cell? ⟨bx, 1, none⟩ = some (.int .i64 ((m : Int) + 1)) := hXc.cell 1
          have y5 : wc.cell? ⟨bx, 5, none⟩ = some (.int .u64 ((z.v : Nat) : Int)) := hXc.cell 5
          have XC := hidden hXc
          have BC := hidden hBc
          clear hXc hBc
          obtain ⟨wo, rfl⟩ : ∃ wo : World, wo = wc := ⟨_, rfl⟩
          have hk48 : m + 1 ≤ n := by omega
          go_wp2_with fail
          go_loopw [77] (fun jj wx => ∃ j : Nat, j ≤ m + 1 ∧ jj = .int .i64 j ∧ Whole1 wx bx 33 #[.int .i64 S, .int .i64 ((m + 1 : Nat) : Int), .int .u64 (q2 : Nat), .int .u64 (q3 : Nat), .int .u64 (q4 : Nat), .int .u64 ((z.v : Nat) : Int)] ∧ Below w2.heap.size w2 wx) (fun jj _ => m + 1 - (intOf jj).toNat)
          case atStart => exact ⟨0, Nat.zero_le _, rfl, XC.out, BC.out⟩
          case round =>
            obtain ⟨j, hj, rfl, hXx, hBx⟩ := hrel
            by_cases hjm : j < m + 1
            · have hbw : Below w.heap.size w wo := HB.out.trans (BC.out.mono HB.out.size)
              obtain ⟨gs', o', hA, y, hy, f0, f1⟩ := smp_cells_at hr hL.out (HB.out.trans (hBx.mono HB.out.size)) (a + j) (by omega)
              injection hA with hA
              injection hA with hA1 hA2
              subst hA1 hA2
              have hyG : G[k].2[j]? = some y := by
                rw [← hat.out j (by rw [hlen.out]; exact hjm), hflat.out]; exact hy
              obtain ⟨i1, i2, i3⟩ := hin.out j y hyG
              clear hy hyG hbw
              obtain ⟨yt, yv⟩ := y
              simp only at f0 f1 i1 i2 i3
              rw [show o + (a + j) * 2 = o + a * 2 + j * 2 from by omega] at f0
              rw [show o + (a + j) * 2 + 1 = o + a * 2 + j * 2 + 1 from by omega] at f1
              have hxl := hXx.lt
              have hXn := hXx.alloc (Obj.cells #[.int .i64 yt, .int .u64 ((yv : Nat) : Int)] 44)
              have hBn := hBx.alloc hBx.size (Obj.cells #[.int .i64 yt, .int .u64 ((yv : Nat) : Int)] 44)
              have g0 : wr.cell? ⟨bx, 0, none⟩ = some (.int .i64 S) := hXx.cell 0
              have XN := hidden hXn
              have BN := hidden hBn
              clear hXn hBn hXx hBx
              go_wp2
              exact ⟨⟨_, _, _, ⟨j + 1, by omega, by go_num, XN.out, BN.out⟩, rfl, rfl, rfl⟩, by simp [intOf]; omega⟩
            · obtain rfl : j = m + 1 := by omega
              have hap : (a : Int) + ((m : Int) + 1) - 1 = ((a + m : Nat) : Int) := by omega
              have v1 : wr.cell? ⟨bx, 1, none⟩ = some (.int .i64 ((m : Int) + 1)) := hXx.cell 1
              have v5 : wr.cell? ⟨bx, 5, none⟩ = some (.int .u64 ((z.v : Nat) : Int)) := hXx.cell 5
              obtain ⟨gs', o', hA, y, hy, f0, f1⟩ := smp_cells_at hr hL.out (HB.out.trans (hBx.mono HB.out.size)) (a + m) (by omega)
              injection hA with hA
              injection hA with hA1 hA2
              subst hA1 hA2
              have hyz : y = z := by
                have := hat.out m (by rw [hlen.out]; omega)
                rw [hflat.out, hy, HZ.out] at this
                injection this
              rw [hyz] at f1
              clear hy hyz f0
              have q1 : IntKind.i64.wrap ((a : Int) + ((m : Int) + 1) - 1) = ((a + m : Nat) : Int) := by rw [IntKind.wrap_i64]; omega
              have q2' : ((a + m : Nat) : Int) < (n : Int) := by omega
              have q3' : (0 : Int) ≤ ((a + m : Nat) : Int) := by omega
              have q4' : ((z.v : Int) != (z.v : Int)) = false := by simp
              have hBf := hidden hBx
              clear hXx hBx hap
              go_upto_region 19 with (fail)
              go_quiet (fail)
              go_wp2
              go_roundw
              case rel => exact ⟨k + 1, by omega, by go_num, by rw [HAS.out]; go_num, below_drewN hBf.out _⟩
              case measure => simp [intOf]; omega
      · obtain rfl : k = G.length := by omega
        have hal := ahead_all G
        rw [hflat.out, hL.out] at hal
        rw [hal]
        have t1 : ((n : Int) == (n : Int)) = true := by simp
        go_wp2
        go_ret
        exact ⟨rfl, HB.out.trans (hbr.mono HB.out.size)⟩
  · rw [if_neg hee] at hG
    subst hG
    have t1 : (errOf Smp.t (fun _ => 0) d l != 0) = true := by simp [hee]
    clear hee
    go_wp2
    go_ret
    exact ⟨rfl, hb2'⟩

theorem foldWhole_walk {H : Type} (enc : TypeId × Value → H) : LawWalk enc Try.prog 8 Try.f8 (fun ds => Rows.uptoBulkAll ds ≤ 1048576) := by
  intro W base args ds p hval hA hlt hsz hbulk
  rw [Try.params8] at hval hA hsz
  obtain ⟨v0, vs0, d0, ds0, p0, q0, hargs, rfl, rfl, h0, r0⟩ := trodAll_cons hA
  obtain ⟨v1, vs1, d1, ds1, p1, q1, rfl, rfl, rfl, h1, r1⟩ := trodAll_cons r0
  obtain ⟨rfl, rfl, rfl⟩ := trodAll_nil r1
  obtain rfl : args = #[v0, v1] := by cases args; simp_all
  obtain ⟨a0, rfl, rfl, rfl, w0⟩ := open_int Try.underlying2 (hval 0 2 v0 rfl rfl) h0
  obtain ⟨A, n, c, l, rfl, hnc, hl, hr, hok, hd⟩ := open_smps (hval 1 29 v1 rfl rfl) h1 (fun x hx => hlt x (by simp [hx]))
  have hn := bulk_of hbulk (by simp) hd
  exact foldWhole_any a0 A n c l W hr hl hnc (by omega) (fun s hs => (hok s hs).1)

namespace foldWholeUpto
set_option maxRecDepth 100000 in
theorem lifted (os : Os) (started : os.Started) (H : Type) (enc : TypeId × Value → H) (F : Stop.Interp) :
    ReturnsInHanded {} Try.checked os 8 .any ((Rows.OpenSpec.upto Rows.foldWholeSpec).pre6 enc Try.prog Try.f8 Rows.foldWholeUptoRow.domain false) (((Rows.OpenSpec.upto Rows.foldWholeSpec).at F).post enc Try.prog Try.f8 false true false false) :=
  law_upto (C := Try.checked) (s := Rows.foldWholeSpec) (tb := 4) own_prog started (by kernel_rfl) Try.func8
    (OpenSpec.witness (enc := enc) (C := Try.checked) (s := Rows.OpenSpec.upto Rows.foldWholeSpec) (k := Rows.uptoSmall) rfl false ⟨#[], #[.int .i64 0, .slice none 0 0], []⟩ 8 (by kernel_rfl) (by kernel_rfl) (by kernel_rfl)
      (x := ([.lit (.int .i64 0), .nil], [], [])) (by kernel_rfl) rfl (by kernel_rfl))
    laidOut (by kernel_rfl) rfl Try.underlying4 ⟨rfl, fun H ds h => match ds, h with | [_, _], _ => ⟨rfl, rfl, rfl⟩⟩ (foldWhole_walk enc)

theorem proved : Rows.FoldWholeUptoSaid :=
  OpenClaim.holds_of_cond 8 Try.f8 rfl rfl rfl rfl rfl rfl rfl ⟨rfl, rfl, rfl, rfl, rfl⟩ rfl rfl rfl rfl rfl (by kernel_rfl) Try.func8 (by kernel_rfl)
    (of_decide_eq_true (by kernel_rfl)) (by unfold Func.isWrapper; first | (rw [if_pos (by decide +kernel)]; kernel_rfl) | (rw [if_neg (by decide +kernel)]; exact ⟨rfl, rfl⟩))
    (fun os started H enc _ F => lifted os started H enc F)
#print axioms proved
end foldWholeUpto
end Go.Proofs.Ytfcpphfiickpoaa
