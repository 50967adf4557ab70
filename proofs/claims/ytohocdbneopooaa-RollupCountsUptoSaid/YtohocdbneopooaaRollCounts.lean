/- RollupCounts: the Counts of all windows, fine or coarse, add up to the samples. Condition: what comes in is of bulk at most 1048576 (the '..Upto' form). -/
import Derived.Test.YtohocdbneopooaaRollPieces
namespace Go.Proofs.Ytohocdbneopooaa
set_option maxRecDepth 100000
open Go.RowKit Go.WideShapes Go.ChangeShapes

theorem ccnt_take_snoc {K : List SK} {k : Nat} {s : SK} (h : K[k]? = some s) : ccnt (K.take (k + 1)) = ccnt (K.take k) + wcnt s.2.2 := by
  rw [take_snoc? h]
  unfold ccnt
  rw [List.map_append, List.sum_append]
  simp
theorem wcnt_take_snoc {l : List Win} {k : Nat} {x : Win} (h : l[k]? = some x) : wcnt (l.take (k + 1)) = wcnt (l.take k) + x.count := by
  rw [take_snoc? h]
  unfold wcnt
  rw [List.map_append, List.sum_append]
  simp
theorem wcnt_pos {l : List Win} (h : ∀ x ∈ l, 0 ≤ x.count) : 0 ≤ wcnt l := by
  induction l with
  | nil => exact Int.le_refl _
  | cons x l ih =>
    have ih := ih fun y hy => h y (List.mem_cons_of_mem _ hy)
    have := h x (List.mem_cons_self ..)
    have e : wcnt (x :: l) = x.count + wcnt l := by simp [wcnt]
    omega
theorem wcnt_part {l : List Win} (h : ∀ x ∈ l, 0 ≤ x.count) (k : Nat) : 0 ≤ wcnt (l.take k) ∧ wcnt (l.take k) ≤ wcnt l := by
  have h1 := wcnt_pos (l := l.take k) fun x hx => h x (List.mem_of_mem_take hx)
  have h2 := wcnt_pos (l := l.drop k) fun x hx => h x (List.mem_of_mem_drop hx)
  have e : wcnt l = wcnt (l.take k) + wcnt (l.drop k) := by
    unfold wcnt
    rw [← List.sum_append, ← List.map_append, List.take_append_drop]
  omega
theorem ccnt_part {K : List SK} (h : ∀ s ∈ K, ∀ x ∈ s.2.2, 0 ≤ x.count) (k : Nat) : 0 ≤ ccnt (K.take k) ∧ ccnt (K.take k) ≤ ccnt K := by
  have pos : ∀ K : List SK, (∀ s ∈ K, ∀ x ∈ s.2.2, 0 ≤ x.count) → 0 ≤ ccnt K := by
    intro K
    induction K with
    | nil => intro _; exact Int.le_refl _
    | cons s K ih =>
      intro h
      have ih := ih fun y hy => h y (List.mem_cons_of_mem _ hy)
      have := wcnt_pos (h s (List.mem_cons_self ..))
      rw [ccnt_cons]; omega
  have h1 := pos (K.take k) fun x hx => h x (List.mem_of_mem_take hx)
  have h2 := pos (K.drop k) fun x hx => h x (List.mem_of_mem_drop hx)
  have e : ccnt K = ccnt (K.take k) + ccnt (K.drop k) := by
    unfold ccnt
    rw [← List.sum_append, ← List.map_append, List.take_append_drop]
  omega
def kcnt (K : List SK) (k j : Nat) : Int := ccnt (K.take k) + wcnt (((K.drop k).head?.map fun s => s.2.2.take j).getD [])

set_option maxHeartbeats 3200000 in
theorem count_any (s : Sl Ser) (w : World) (h : SS w s) (hp : ∀ e ∈ s.l.map Ser.sk, ∀ x ∈ e.2.2, 0 ≤ x.count) (hc : ccnt (s.l.map Ser.sk) ≤ 4611686018427387904) :
    Calls Try.prog 25 #[.slice s.A s.n s.c] w fun e w' => e = .returned (.int .i64 (ccnt (s.l.map Ser.sk))) ∧ Below w.heap.size w w' := by
  have HS := hidden h
  have HP := hidden hp
  have hL := hidden h.1.len
  have hfew := h.1.few
  obtain ⟨A, n, c, ss⟩ := s
  simp only at *
  have HC := hidden hc
  clear h hp hc
  go_enter Try.func25, Try.ntmps25
  go_wp2_with fail
  go_loopw [3, 10] (fun a i wr => ∃ k : Nat, k ≤ n ∧ i = .int .i64 k ∧ a = .int .i64 (ccnt ((ss.map Ser.sk).take k)) ∧ Below w.heap.size w wr) (fun _ i _ => n - (intOf i).toNat)
  case atStart => exact ⟨0, Nat.zero_le _, rfl, rfl, Below.refl _ _⟩
  case round =>
    obtain ⟨k, hk, rfl, rfl, hb⟩ := hrel
    by_cases hlt : k < n
    · obtain ⟨wo, rfl⟩ : ∃ wo : World, wo = wr := ⟨_, rfl⟩
      obtain ⟨gs, o, rfl, hgs, x, hx, c0, c1, c2⟩ := ser_cells_at HS.out.1.row hL.out hb k hlt
      have hxm := List.mem_of_getElem? hx
      have hxk : (ss.map Ser.sk)[k]? = some x.sk := by rw [List.getElem?_map, hx]; rfl
      have hstep := hidden (ccnt_take_snoc hxk)
      have hxp := HP.out x.sk (List.mem_of_getElem? hxk)
      have hpart := ccnt_part HP.out k
      have hpart2 := ccnt_part HP.out (k + 1)
      have hxa := (HS.out.1.at_ x hxm).win
      have hxs := HS.out.1.small x hxm
      obtain ⟨lab, smp, ⟨Aw, nw, cw, lw⟩⟩ := x
      have hkk : (Ser.mk lab smp ⟨Aw, nw, cw, lw⟩).sk = (lab.l, smp.l, lw) := rfl
      rw [hkk] at hxp hstep
      simp only [Sl.val] at c0 c1 c2 hxp hxs hxa
      obtain ⟨hwc, hwl, hwr⟩ := hxa
      simp only at hwc hwl hwr
      have hcc := HC.out
      have hst := hstep.out
      simp only at hst
      have HX := hidden hxp
      have HWR := hidden hwr
      have HWL := hidden hwl
      have hkn : (k : Int) < (n : Int) := by omega
      have hk64 : n ≤ 1099511627776 := hfew
      have hnw : nw ≤ 1099511627776 := by omega
      clear hfew HS hxs hkk hxk hx
      generalize hT : ccnt ((ss.map Ser.sk).take k) = T at *
      generalize hT2 : ccnt ((ss.map Ser.sk).take (k + 1)) = T2 at *
      generalize hT3 : ccnt (ss.map Ser.sk) = T3 at *
      have HT := hidden hT
      have HT2 := hidden hT2
      clear hT hT2 hT3 hstep hxp hwr hwl HC
      go_wp2_with fail
      go_loopw [3, 17] (fun a i wx => ∃ j : Nat, j ≤ nw ∧ i = .int .i64 j ∧ a = .int .i64 (T + wcnt (lw.take j)) ∧ Below w.heap.size w wx) (fun _ i _ => nw - (intOf i).toNat)
      case atStart => exact ⟨0, Nat.zero_le _, rfl, by simp [wcnt], hb.alloc hb.size _⟩
      case round =>
        obtain ⟨j, hj, rfl, rfl, hbx⟩ := hrel
        have hq := wcnt_part HX.out j
        have hq2 := wcnt_part HX.out (j + 1)
        by_cases hjn : j < nw
        · obtain ⟨g7, o7, rfl, _, y, hy, d0, d1, d2, d3, d4, d5⟩ := win_cells_at HWR.out HWL.out hbx j hjn
          have hW := wcnt_take_snoc hy
          have hyc := HX.out y (List.mem_of_getElem? hy)
          generalize hA : wcnt (lw.take j) = a at *
          generalize hA2 : wcnt (lw.take (j + 1)) = a2 at *
          have hjz : (j : Int) < (nw : Int) := by omega
          have HA2 := hidden hA2
          obtain ⟨y0, y1, y2, y3, y4, y5⟩ := y
          simp only at *
          have HW := hidden hW
          have hsum : T + a + y1 ≤ 4611686018427387904 := by omega
          clear hA hA2 hW hy
          go_wp2_with fail
          go_roundw
          case rel => exact ⟨j + 1, by omega, by go_num, by rw [HA2.out, HW.out, Int.add_assoc], hbx.alloc hbx.size _⟩
          case measure => simp [intOf]; omega
        · obtain rfl : nw = j := by omega
          have hE := hidden (show lw.take nw = lw from List.take_of_length_le (by rw [HWL.out]; exact Nat.le_refl _))
          go_wp2_with fail
          go_roundw
          case rel => exact ⟨k + 1, by omega, by go_num, by rw [HT2.out, hst, hE.out], hbx⟩
          case measure => simp [intOf]; omega
    · obtain rfl : n = k := by omega
      have hE := hidden (show (ss.map Ser.sk).take n = ss.map Ser.sk from List.take_of_length_le (by rw [List.length_map, hL.out]; exact Nat.le_refl _))
      go_wp2_with fail
      go_ret
      exact ⟨ret_int (by rw [hE.out]), hb⟩

theorem slen_take {K : List SK} {k : Nat} {s : SK} (h : K[k]? = some s) : slen (K.take (k + 1)) = slen (K.take k) + s.2.1.length := by
  rw [take_snoc? h]
  unfold slen
  rw [List.map_append, List.sum_append]
  simp
theorem slen_part (K : List SK) (k : Nat) : slen (K.take k) ≤ slen K := by
  have e : slen K = slen (K.take k) + slen (K.drop k) := by
    unfold slen
    rw [← List.sum_append, ← List.map_append, List.take_append_drop]
  omega
theorem smp_len {K : List SK} {e : SK} (h : e ∈ K) : e.2.1.length ≤ slen K := by
  induction K with
  | nil => simp at h
  | cons x l ih =>
    have e2 : slen (x :: l) = x.2.1.length + slen l := by simp [slen]
    rcases List.mem_cons.1 h with rfl | h
    · omega
    · have := ih h; omega
theorem oks_roll {d T : Int} {K : List SK} (hd : 1 ≤ d) (ht : Times 1073741824 K) (hT : 1073741824 < T) (h : OkS K) (hn : slen K ≤ 1048576) : OkS (rollSK d 0 T K) ∧ ∀ e ∈ rollSK d 0 T K, ∀ x ∈ e.2.2, 0 ≤ x.count := by
  have H : ∀ e ∈ rollSK d 0 T K, e.2.1 = [] ∧ ∀ x ∈ e.2.2, x.ok2 ∧ 0 ≤ x.count := fun e he => by
    obtain ⟨s, hs, rfl⟩ := List.mem_map.1 (List.mem_filter.1 he).1
    refine ⟨rfl, fun x hx => ?_⟩
    have hln := smp_len hs
    have e1 : inRange Smp.t 0 T s.2.1 = s.2.1 := inRange_all _ fun x hx => by have := ht s hs x hx; omega
    have hx : x ∈ (groupsOf Smp.t d s.2.1).map smpWin := by
      unfold roll1 at hx
      rw [e1] at hx
      exact hx
    have h1 := smps_ok (d := d) (l := s.2.1) (fun y hy => ((h s hs).1 y hy).1) (by omega) x hx
    have h2 := win_times hd (ht s hs) x hx
    refine ⟨⟨h1, by omega, by omega⟩, ?_⟩
    obtain ⟨g, hg, rfl⟩ := List.mem_map.1 hx
    rw [smpWin_of (groups_ne _ _ _ g hg)]
    simp only; omega
  exact ⟨fun e he => ⟨fun x hx => by rw [(H e he).1] at hx; simp at hx, fun x hx => ((H e he).2 x hx).1⟩, fun e he x hx => ((H e he).2 x hx).2⟩
theorem cnt_coarse {d m T : Int} {K : List SK} (hd : 1 ≤ d) (ht : Times 1073741824 K) (hT : 1073741824 < T) (hn : slen K ≤ 1048576) : ∀ e ∈ rollWSK (d * m) 0 T (rollSK d 0 T K), ∀ x ∈ e.2.2, 0 ≤ x.count := by
  intro e he x hx
  obtain ⟨r, hr, rfl⟩ := List.mem_map.1 (List.mem_filter.1 he).1
  obtain ⟨s, hs, rfl⟩ := List.mem_map.1 (List.mem_filter.1 hr).1
  have hln := smp_len hs
  have e1 : inRange Smp.t 0 T s.2.1 = s.2.1 := inRange_all _ fun x hx => by have := ht s hs x hx; omega
  have e2 : inRange Win.start 0 T ((groupsOf Smp.t d s.2.1).map smpWin) = (groupsOf Smp.t d s.2.1).map smpWin := inRange_all _ fun x hx => by have := win_times hd (ht s hs) x hx; omega
  unfold rollW1 roll1 at hx
  simp only at hx
  rw [e1, e2] at hx
  obtain ⟨got, want, h1, h2, h3, h4⟩ := twice_law (m := m) hd s.2.1 (by omega)
  rw [h1] at hx
  obtain ⟨k, hk⟩ := List.getElem?_of_mem hx
  have hk' : k < want.length := by rw [← h3]; exact (List.getElem?_eq_some_iff.1 hk).1
  have h5 := (h4 k x want[k] hk (List.getElem?_eq_getElem hk')).2.1
  rw [h5]
  have hw : want[k] ∈ (groupsOf Smp.t (d * m) s.2.1).map smpWin := by rw [h2]; exact List.getElem_mem hk'
  obtain ⟨g, hg, hge⟩ := List.mem_map.1 hw
  generalize want[k] = y at *
  rw [← hge, smpWin_of (groups_ne _ _ _ g hg)]
  simp only; omega
theorem err_coarse {d D T : Int} {K : List SK} {L : List Ser} (hk : L.map Ser.sk = rollSK d 0 T K) (hd : ¬(d < 1 ∨ 1099511627776 < d)) (hD : ¬(D < 1 ∨ 1099511627776 < D)) (hc : Canon K) (ht : Times 1073741824 K) (hT : 1073741824 < T) : ∀ x ∈ L, errOf Win.start badWin D (inRange Win.start 0 T x.win.l) = 0 := by
  intro x hx
  have hm : x.sk ∈ rollSK d 0 T K := by rw [← hk]; exact List.mem_map_of_mem hx
  obtain ⟨s, hs, he⟩ := List.mem_map.1 (List.mem_filter.1 hm).1
  have e1 : inRange Smp.t 0 T s.2.1 = s.2.1 := inRange_all _ fun x hx => by have := ht s hs x hx; omega
  have e2 : inRange Win.start 0 T ((groupsOf Smp.t d s.2.1).map smpWin) = (groupsOf Smp.t d s.2.1).map smpWin := inRange_all _ fun x hx => by have := win_times (show 1 ≤ d by omega) (ht s hs) x hx; omega
  have e3 : x.win.l = (groupsOf Smp.t d s.2.1).map smpWin := by
    have : (roll1 d 0 T s).2.2 = x.sk.2.2 := by rw [he]
    unfold roll1 at this
    rw [e1] at this
    exact this.symm
  rw [e3, e2]
  exact err_wide hD (err_ok hd (hc.smps s hs) fun y hy => by have := ht s hs y hy; omega)

set_option maxHeartbeats 12800000 in
theorem rollupCounts_any (a : Sl Ser) (width times : Int) (w : World) (ha : SS w a) (ho : OkS (a.l.map Ser.sk)) (hna : a.n + wsum a.l ≤ 1048576) (hw1 : -9223372036854775808 ≤ width) (hw2 : width < 9223372036854775808) (hc1 : -9223372036854775808 ≤ times) (hc2 : times < 9223372036854775808) :
    Calls Try.prog 6 #[.slice a.A a.n a.c, .int .i64 width, .int .i64 times] w fun e w' => e = .returned (.bool true) ∧ Below w.heap.size w w' := by
  have HA := hidden ha
  have HO := hidden ho
  clear ha ho
  go_enter Try.func6, Try.ntmps6
  go_wp2_with fail
  refine (rollWakes_any _).mono ?_
  rintro e w1 ⟨rfl, hb1⟩
  have B1 := hidden hb1
  have S1 := hidden (clipK_law a 0 1073741824 w1 (HA.out.on hb1))
  clear hb1
  go_wp2_with fail
  refine S1.out.mono ?_
  rintro e w2 ⟨c, rfl, hc, hck, hb2, hcn, hcs⟩
  have B2 := hidden (B1.out.trans (hb2.mono B1.out.size))
  have HCK := hidden hck
  have S2 := hidden (mergeK_law w2 [c] 1 rfl (mem_one hc) (by show c.n + 0 ≤ _; omega) (by show wsum c.l + 0 ≤ _; omega) (by omega))
  clear hc hck hb2 S1 B1
  go_wp2_with fail
  refine S2.out.mono ?_
  rintro e w3 ⟨m, rfl, hm, hmc, hme, hb3, hmn, hms⟩
  have hmn' : m.n ≤ c.n := hmn
  have hms' : wsum m.l ≤ wsum c.l := hms
  have H3 := hidden (one_of hm hmc hme HCK.out HO.out (by omega) (by omega))
  have B3 := hidden (B2.out.trans (hb3.mono B2.out.size))
  clear hm hmc hme hb3 hmn hms S2 B2 HCK
  go_wp2_with fail
  have hd0 : 1 ≤ 1 + max 0 width % 5000 ∧ 1 + max 0 width % 5000 ≤ 5000 := by omega
  generalize 1 + max 0 width % 5000 = d at *
  generalize max 0 width % 5000 = d1 at *
  generalize max 0 width = d2 at *
  have hsl : slen (m.l.map Ser.sk) ≤ 1048576 := by
    have h1 := slen_le (m.l.map Ser.sk)
    have h2 := wsum_sk H3.out.ss.1
    have h3 := H3.out.sum
    omega
  have hdw : ¬(d < 1 ∨ 1099511627776 < d) := by omega
  have HDW := hidden hdw
  obtain ⟨mA, mn, mc, ms⟩ := m
  simp only at *
  have hmn2 := H3.out.few
  simp only at hmn2
  clear hdw hmn' hms'
  go_loopw [8, 27] (fun q i wr => ∃ k : Nat, k ≤ mn ∧ i = .int .i64 k ∧ q = .int .i64 (slen ((ms.map Ser.sk).take k) : Nat) ∧ Below w3.heap.size w3 wr) (fun _ i _ => mn - (intOf i).toNat)
  case atStart => exact ⟨0, Nat.zero_le _, rfl, rfl, Below.refl _ _⟩
  case round =>
    obtain ⟨k, hk, rfl, rfl, hb⟩ := hrel
    by_cases hlt : k < mn
    · obtain ⟨gs, o, rfl, hgs, x, hx, c0, c1, c2⟩ := ser_cells_at H3.out.ss.1.row H3.out.ss.1.len hb k hlt
      have hxm := List.mem_of_getElem? hx
      have hxk : (ms.map Ser.sk)[k]? = some x.sk := by rw [List.getElem?_map, hx]; rfl
      have hstep := slen_take hxk
      have hpart := slen_part (ms.map Ser.sk) (k + 1)
      have hxa := (H3.out.ss.1.at_ x hxm).smp.2.1
      have hxl : x.sk.2.1.length = x.smp.n := hxa
      rw [hxl] at hstep
      obtain ⟨⟨Al, nl, cl, ll⟩, ⟨As, ns, cs, ls⟩, ⟨Aw, nw, cw, lw⟩⟩ := x
      simp only [Sl.val] at c0 c1 c2 hstep
      generalize hE : slen ((ms.map Ser.sk).take (k + 1)) = E1 at *
      generalize slen ((ms.map Ser.sk).take k) = E at *
      have HE := hidden hE
      have HST := hidden hstep
      have hes : E + ns ≤ 1048576 := by omega
      have hkz : (k : Int) < (mn : Int) := by omega
      clear hE hstep hx hxk hxm hxa hxl
      go_wp2_with fail
      go_roundw
      case rel => exact ⟨k + 1, by omega, by go_num, by rw [HE.out, HST.out]; go_num, hb.alloc hb.size _⟩
      case measure => simp [intOf]; omega
    · obtain rfl : mn = k := by omega
      obtain ⟨wv, rfl⟩ : ∃ wv : World, wv = wr := ⟨_, rfl⟩
      have H3' := hidden (H3.out.on hb)
      have B3' := hidden (B3.out.trans (hb.mono B3.out.size))
      have hE := hidden (show (ms.map Ser.sk).take mn = ms.map Ser.sk from List.take_of_length_le (by rw [List.length_map]; exact Nat.le_of_eq H3.out.ss.1.len))
      rw [hE.out]
      have S3 := hidden (H3'.out.fine HDW.out 0 2147483648)
      simp only at S3
      clear hb H3 B3
      go_wp2_with fail
      refine S3.out.mono ?_
      rintro e w4 ⟨r0, rfl, hr0, hk0, hb4, hn0⟩
      unfold withOk
      have hk0' : r0.l.map Ser.sk = rollSK d 0 2147483648 (ms.map Ser.sk) := hk0
      have hsl' : slen (ms.map Ser.sk) ≤ 1048576 := hsl
      obtain ⟨ok1, ok2⟩ := oks_roll (d := d) (T := 2147483648) (by omega) H3'.out.times (by omega) H3'.out.oks hsl
      have B4 := hidden (B3'.out.trans (hb4.mono B3'.out.size))
      have hbulk := H3'.out.bulk hr0 hk0
      have HR0 := hidden hr0
      have HK0 := hidden hk0'
      have hr0n : r0.n ≤ 1048576 := Nat.le_trans hn0 H3'.out.few
      have hm20 : 1 ≤ 1 + max 0 times % 20 ∧ 1 + max 0 times % 20 ≤ 20 := by omega
      have hprod : d * (1 + max 0 times % 20) ≤ 100000 := by
        have := Int.mul_le_mul (show d ≤ 5000 by omega) hm20.2 (by omega) (by omega)
        omega
      have hprod1 : 1 ≤ d * (1 + max 0 times % 20) := by
        have := Int.mul_le_mul (show 1 ≤ d by omega) hm20.1 (by omega) (by omega)
        omega
      clear hk0 hk0' hb4 S3 B3' hn0 hr0
      have S4 := hidden (fun (k20 : Int) (hk1 : 1 ≤ d * k20) (hk2 : d * k20 ≤ 100000) => coarseK_law (d * k20) 0 2147483648 r0 w4 HR0.out (ok_of HR0.out (by rw [HK0.out]; exact ok1) hbulk) hr0n (by omega) (err_coarse HK0.out HDW.out (by omega) H3'.out.canon H3'.out.times (by omega)))
      have HC1 := hidden (fun (k20 : Int) => coarse_cnt (d := d) (m := k20) (T := 2147483648) (show 1 ≤ d by omega) (by omega) H3'.out.times (fun e he => by have := smp_len he; have := hsl'; simp only at *; omega))
      have HC2 := hidden (fun (k20 : Int) => cnt_coarse (d := d) (m := k20) (T := 2147483648) (show 1 ≤ d by omega) H3'.out.times (by omega) hsl')
      have HF1 := hidden (fine_cnt (d := d) (T := 2147483648) (show (1073741824 : Int) < 2147483648 by omega) H3'.out.times)
      have HF2 := hidden ok2
      clear ok1 ok2
      go_wp2_with fail
      have S4' := S4.out (1 + max 0 times % 20) hprod1 hprod
      generalize 1 + max 0 times % 20 = k20 at *
      generalize max 0 times % 20 = k21 at *
      generalize max 0 times = k22 at *
      refine S4'.mono ?_
      rintro e w5 ⟨r1, rfl, hr1, hk1, hb5, hn1⟩
      unfold withOk
      rw [HK0.out] at hk1
      have B5 := hidden (B4.out.trans (hb5.mono B4.out.size))
      have HR0' := hidden (HR0.out.on hb5)
      have HR1 := hidden hr1
      have HK1 := hidden hk1
      have hlen : r0.n = r1.n := by
        have q0 := congrArg List.length HK0.out
        have q1 := congrArg List.length hk1
        rw [List.length_map] at q0 q1
        rw [← hr1.1.len, ← HR0.out.1.len, q0, q1, (HC1.out k20).2]
      have S5 := hidden (count_any r0 w5 HR0'.out (by rw [HK0.out]; exact HF2.out) (by rw [HK0.out, HF1.out]; omega))
      have E5 := hidden (show ccnt (r0.l.map Ser.sk) = (slen (ms.map Ser.sk) : Nat) by rw [HK0.out, HF1.out])
      have E6 := hidden (show ccnt (r1.l.map Ser.sk) = (slen (ms.map Ser.sk) : Nat) by rw [hk1, (HC1.out k20).1])
      have C6 := hidden (show ∀ e ∈ r1.l.map Ser.sk, ∀ x ∈ e.2.2, 0 ≤ x.count by rw [hk1]; exact HC2.out k20)
      have HLEN := hidden hlen
      clear hr1 hk1 hb5 S4 B4 HR0 hlen S4'
      have e5 := E5.out
      have e6 := E6.out
      clear HC1 HC2 HF1 HF2 hE E5 E6
      generalize slen (ms.map Ser.sk) = sl at *
      have E5 := hidden e5
      have E6 := hidden e6
      clear e5 e6 hbulk
      go_wp2_with fail
      refine S5.out.mono ?_
      rintro e w6 ⟨rfl, hb6⟩
      rw [E5.out]
      have B6 := hidden (B5.out.trans (hb6.mono B5.out.size))
      have HR1' := hidden (HR1.out.on hb6)
      have S6 := hidden (count_any r1 w6 HR1'.out C6.out (by rw [E6.out]; omega))
      have t1 : (((sl : Int)) == (sl : Int)) = true := by simp
      clear hb6 S5
      go_wp2_with fail
      refine S6.out.mono ?_
      rintro e w7 ⟨rfl, hb7⟩
      rw [E6.out]
      have B7 := hidden (B6.out.trans (hb7.mono B6.out.size))
      have t2 : (((r0.n : Int)) == (r1.n : Int)) = true := by rw [HLEN.out]; simp
      clear hb7 S6
      go_wp2_with fail
      go_ret
      exact ⟨rfl, B7.out⟩

theorem rollupCounts_walk {H : Type} (enc : TypeId × Value → H) : LawWalk enc Try.prog 6 Try.f6 (fun ds => Rows.uptoBulkAll ds ≤ 1048576) := by
  intro W base args ds p hval hA hlt hsz hbulk
  rw [Try.params6] at hval hA hsz
  obtain ⟨v0, vs0, d0, ds0, p0, q0, hargs, rfl, rfl, h0, r0⟩ := trodAll_cons hA
  obtain ⟨v1, vs1, d1, ds1, p1, q1, rfl, rfl, rfl, h1, r1⟩ := trodAll_cons r0
  obtain ⟨v2, vs2, d2, ds2, p2, q2, rfl, rfl, rfl, h2, r2⟩ := trodAll_cons r1
  obtain ⟨rfl, rfl, rfl⟩ := trodAll_nil r2
  obtain rfl : args = #[v0, v1, v2] := by cases args; simp_all
  obtain ⟨s, rfl, ⟨hs, hok, _, hn⟩, hw⟩ := open_arg_slice_b (k := 3) (f := Ser.cells) Try.underlying24 (by kernel_rfl) (by decide) (fun _ => rfl) opens_ser_b (hval 0 24 v0 rfl rfl) h0 (arg_fits (j := 0) rfl rfl (fun x hx => hlt x (by simp [hx])) hsz hbulk)
  obtain ⟨wd, rfl, hc⟩ := open_arg_int Try.underlying2 (hval 1 2 v1 rfl rfl) h1
  obtain ⟨tm, rfl, hc2⟩ := open_arg_int Try.underlying3 (hval 2 3 v2 rfl rfl) h2
  have w1 := wf_i64 hc
  have w2 := wf_i64 hc2
  rw [← wsum_le] at hw
  exact rollupCounts_any s wd tm W (ss_of_arg hs hok (Nat.le_refl _) hn) (oks_of fun x hx => (hok x hx).2) (by have := hs.2.1; omega) w1.1 w1.2 w2.1 w2.2

namespace rollupCountsUpto
set_option maxRecDepth 100000 in
theorem lifted (os : Os) (started : os.Started) (H : Type) (enc : TypeId × Value → H) (F : Stop.Interp) :
    ReturnsInHanded {} Try.checked os 6 .any ((Rows.OpenSpec.upto Rows.rollupCountsSpec).pre6 enc Try.prog Try.f6 Rows.rollupCountsUptoRow.domain false) (((Rows.OpenSpec.upto Rows.rollupCountsSpec).at F).post enc Try.prog Try.f6 false true false false) :=
  law_upto (C := Try.checked) (s := Rows.rollupCountsSpec) (tb := 4) own_prog started (by kernel_rfl) Try.func6
    (OpenSpec.witness (enc := enc) (C := Try.checked) (s := Rows.OpenSpec.upto Rows.rollupCountsSpec) (k := Rows.uptoSmall) rfl false ⟨#[], #[.slice none 0 0, .int .i64 0, .int .i64 0], []⟩ 8 (by kernel_rfl) (by kernel_rfl) (by kernel_rfl)
      (x := ([.nil, .lit (.int .i64 0), .lit (.int .i64 0)], [], [])) (by kernel_rfl) rfl (by kernel_rfl))
    laidOut (by kernel_rfl) rfl Try.underlying4 ⟨rfl, fun H ds h => match ds, h with | [_, _, _], _ => ⟨rfl, rfl, rfl⟩⟩ (rollupCounts_walk enc)

theorem proved : Rows.RollupCountsUptoSaid :=
  OpenClaim.holds_of_cond 6 Try.f6 rfl rfl rfl rfl rfl rfl rfl ⟨rfl, rfl, rfl, rfl, rfl⟩ rfl rfl rfl rfl rfl (by kernel_rfl) Try.func6 (by kernel_rfl)
    (of_decide_eq_true (by kernel_rfl)) (by unfold Func.isWrapper; first | (rw [if_pos (by decide +kernel)]; kernel_rfl) | (rw [if_neg (by decide +kernel)]; exact ⟨rfl, rfl⟩))
    (fun os started H enc _ F => lifted os started H enc F)
#print axioms proved
end rollupCountsUpto

end Go.Proofs.Ytohocdbneopooaa
