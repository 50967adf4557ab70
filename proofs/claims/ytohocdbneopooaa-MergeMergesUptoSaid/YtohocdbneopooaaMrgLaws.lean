/- MergeLaws: putting together by pieces, or once more with itself, gives the same; clipped before is clipped behind; the halves make the whole. Condition: what comes in is of bulk at most 1048576 (the '..Upto' form). -/
import Derived.Test.YtohocdbneopooaaMrgLawP
import Derived.Test.YtohocdbneopooaaArgs
namespace Go.Proofs.Ytohocdbneopooaa
set_option maxRecDepth 100000
open Go.RowKit Go.WideShapes Go.ChangeShapes

/-- a list of series, as it lies, with its capacity -/
def SS (w : World) (s : Sl Ser) : Prop := SL w s.A s.n s.l ∧ s.n ≤ s.c
theorem SS.on {w w' : World} {s : Sl Ser} (h : SS w s) (hb : Below w.heap.size w w') : SS w' s := ⟨h.1.on hb, h.2⟩
theorem SS.nil (w : World) : SS w Sl.nil := ⟨SL.nil w, Nat.le_refl _⟩
def MResL (LL : List (Sl Ser)) (w : World) (e : Ending) (w' : World) : Prop :=
  ∃ s : Sl Ser, e = .returned (.slice s.A s.n s.c) ∧ SS w' s ∧ Canon (s.l.map Ser.sk) ∧ Eqv (s.l.map Ser.sk) (MR.allOf LL) ∧ Below w.heap.size w w' ∧ s.n ≤ total LL ∧ wsum s.l ≤ (LL.map fun s => wsum s.l).sum
theorem mergeK_law (w : World) (LL : List (Sl Ser)) (n : Nat) (hl : LL.length = n) (h : ∀ s ∈ LL, SS w s) (ht : total LL ≤ 1099511627776) (hs : (LL.map fun s => wsum s.l).sum ≤ 1099511627776) (hn : n ≤ 1099511627776) :
    Calls Try.prog 23 #[.slice (some ⟨w.heap.size, 0, none⟩) n n] (w.alloc (.cells (LL.map Sl.val).toArray 24)) (MResL LL w) := by
  have hb0 : Below w.heap.size w (w.alloc (.cells (LL.map Sl.val).toArray 24)) := (Below.refl _ _).alloc (Nat.le_refl _) _
  have hr : Row (w.alloc (.cells (LL.map Sl.val).toArray 24)) (w.alloc (.cells (LL.map Sl.val).toArray 24)).heap.size 1 (some ⟨w.heap.size, 0, none⟩) n (LL.map Sl.val) := (Row.fresh w 24 1 n (LL.map Sl.val) (by rw [List.length_map, hl, Nat.mul_one])).more (by rw [World.size_alloc]; exact Nat.le_refl _)
  have hS : SLL _ _ n LL := sll_mk hr hl (fun s hs => (h s hs).on hb0) ht hs hn
  refine (merge_law _ n n LL _ hS).mono ?_
  rintro e w' ⟨A, c, L, rfl, _, h1, h2, h3, h4, h5, h6, h7⟩
  refine ⟨⟨A, L.length, c, L⟩, rfl, ⟨h1, h7⟩, h2, h3, hb0.trans (h4.mono hb0.size), ?_, ?_⟩
  · rw [MR.allOf_len LL hS.at_] at h5; exact h5
  · have e1 := wsum_sk h1
    have e2 : MR.ssum (MR.allOf LL) = wsum (LL.flatMap Sl.l) := MR.ssum_ser _ fun u hu => by
      obtain ⟨s', hs', hu'⟩ := List.mem_flatMap.1 hu
      have := (hS.sers s' hs' u hu').1
      exact ⟨this.smp.2.1, this.win.2.1⟩
    rw [e2, wsum_flat] at h6
    show wsum L ≤ _
    omega
theorem clipK_law (s : Sl Ser) (a b : Int) (w : World) (h : SS w s) : Calls Try.prog 24 #[.slice s.A s.n s.c, .int .i64 a, .int .i64 b] w fun e w' =>
    ∃ s' : Sl Ser, e = .returned (.slice s'.A s'.n s'.c) ∧ SS w' s' ∧ s'.l.map Ser.sk = clipSK a b (s.l.map Ser.sk) ∧ Below w.heap.size w w' ∧ s'.n ≤ s.n ∧ wsum s'.l ≤ wsum s.l := by
  refine (clip_law s.A s.n s.c s.l a b w h.1).mono ?_
  rintro e w' ⟨A', c', L, rfl, h1, h2, h3, h4⟩
  rw [clipAll_sk] at h2
  obtain ⟨l1, l2⟩ := clip_len a b (s.l.map Ser.sk)
  refine ⟨⟨A', L.length, c', L⟩, rfl, ⟨h1, h4⟩, h2, h3, ?_, ?_⟩
  · rw [← h2, List.length_map, List.length_map, h.1.len] at l1; exact l1
  · rw [← h2, ← wsum_sk h1, ← wsum_sk h.1] at l2; exact l2
theorem refK_law (s : Sl Ser) (w : World) (h : SS w s) : Calls Try.prog 26 #[.slice s.A s.n s.c] w fun e w' =>
    ∃ (B : Option Addr) (m c : Nat) (M : List Ser), e = .returned (.slice B m c) ∧ SL w' B m M ∧ M.map Ser.sk = s.l.map Ser.sk ∧ Below w.heap.size w w' := by
  refine (ref_law s.A s.n s.c s.l w h.1).mono ?_
  rintro e w' ⟨A, c, L, rfl, h1, h2, h3⟩
  exact ⟨A, _, c, L, rfl, h1, h2, h3⟩
theorem allOf_two (a b : Sl Ser) : MR.allOf [a, b] = a.l.map Ser.sk ++ b.l.map Ser.sk := by simp [MR.allOf]
theorem allOf_one (a : Sl Ser) : MR.allOf [a] = a.l.map Ser.sk := by simp [MR.allOf]
theorem allOf_four (a b c d : Sl Ser) : MR.allOf [a, b, c, d] = a.l.map Ser.sk ++ (b.l.map Ser.sk ++ (c.l.map Ser.sk ++ d.l.map Ser.sk)) := by simp [MR.allOf]
theorem mem_two {w : World} {a b : Sl Ser} (ha : SS w a) (hb : SS w b) : ∀ s ∈ [a, b], SS w s := by
  intro s hs
  simp only [List.mem_cons, List.not_mem_nil, or_false] at hs
  rcases hs with rfl | rfl
  · exact ha
  · exact hb
theorem mem_one {w : World} {a : Sl Ser} (ha : SS w a) : ∀ s ∈ [a], SS w s := by
  intro s hs
  rw [List.mem_singleton.1 hs]; exact ha
theorem mem_four {w : World} {a b c d : Sl Ser} (ha : SS w a) (hb : SS w b) (hc : SS w c) (hd : SS w d) : ∀ s ∈ [a, b, c, d], SS w s := by
  intro s hs
  simp only [List.mem_cons, List.not_mem_nil, or_false] at hs
  rcases hs with rfl | rfl | rfl | rfl
  · exact ha
  · exact hb
  · exact hc
  · exact hd

set_option maxHeartbeats 12800000 in
theorem mergeLaws_any (a b : Sl Ser) (cut : Int) (w : World) (ha : SS w a) (hb : SS w b) (hia : InI (a.l.map Ser.sk)) (hib : InI (b.l.map Ser.sk)) (hna : a.n + wsum a.l ≤ 1048576) (hnb : b.n + wsum b.l ≤ 1048576) (hc1 : -9223372036854775808 ≤ cut) (hc2 : cut < 9223372036854775808) :
    Calls Try.prog 10 #[.slice a.A a.n a.c, .slice b.A b.n b.c, .int .i64 cut] w fun e w' => e = .returned (.bool true) ∧ Below w.heap.size w w' := by
  have HA := hidden ha
  have HB := hidden hb
  have HI := hidden (hia.app hib)
  clear ha hb hia hib
  go_enter Try.func10, Try.ntmps10
  go_wp2_with fail
  refine (mrgWakes_any _).mono ?_
  rintro e w1 ⟨rfl, hb1⟩
  have B1 := hidden hb1
  have S1 := hidden (mergeK_law w1 [a, b] 2 rfl (mem_two (HA.out.on hb1) (HB.out.on hb1)) (by show a.n + (b.n + 0) ≤ _; omega) (by show wsum a.l + (wsum b.l + 0) ≤ _; omega) (by omega))
  clear hb1
  go_wp2_with fail
  refine S1.out.mono ?_
  rintro e w2 ⟨W, rfl, hw, hcw, hew, hb2, hnw, hsw⟩
  rw [allOf_two] at hew
  have hnw' : W.n ≤ a.n + b.n := hnw
  have hsw' : wsum W.l ≤ wsum a.l + wsum b.l := hsw
  have B2 := hidden (B1.out.trans (hb2.mono B1.out.size))
  have HW2 := hidden hw
  have HCW := hidden hcw
  have HEW := hidden hew
  have S2 := hidden (refK_law W w2 hw)
  clear hw hcw hew hb2 hnw hsw S1 B1
  go_wp2_with fail
  refine S2.out.mono ?_
  rintro e w3 ⟨WB, wm, wc, WM, rfl, hwr, hwk, hb3⟩
  have B3 := hidden (B2.out.trans (hb3.mono B2.out.size))
  have HW3 := hidden (HW2.out.on hb3)
  have HR3 := hidden hwr
  have HWK := hidden hwk
  have S3 := hidden (mergeK_law w3 [a] 1 rfl (mem_one (HA.out.on B3.out)) (by show a.n + 0 ≤ _; omega) (by show wsum a.l + 0 ≤ _; omega) (by omega))
  clear hwr hwk hb3 S2 HW2 B2
  go_wp2_with fail
  refine S3.out.mono ?_
  rintro e w4 ⟨MA, rfl, hma, _, hea, hb4, hna4, hsa4⟩
  rw [allOf_one] at hea
  have hna4' : MA.n ≤ a.n := hna4
  have hsa4' : wsum MA.l ≤ wsum a.l := hsa4
  have B4 := hidden (B3.out.trans (hb4.mono B3.out.size))
  have HW4 := hidden (HW3.out.on hb4)
  have HR4 := hidden (HR3.out.on hb4)
  have HMA4 := hidden hma
  have HEA := hidden hea
  have S4 := hidden (mergeK_law w4 [b] 1 rfl (mem_one (HB.out.on B4.out)) (by show b.n + 0 ≤ _; omega) (by show wsum b.l + 0 ≤ _; omega) (by omega))
  clear hma hea hb4 hna4 hsa4 S3 HW3 HR3 B3
  go_wp2_with fail
  refine S4.out.mono ?_
  rintro e w5 ⟨MB, rfl, hmb, _, heb, hb5, hnb5, hsb5⟩
  rw [allOf_one] at heb
  have hnb5' : MB.n ≤ b.n := hnb5
  have hsb5' : wsum MB.l ≤ wsum b.l := hsb5
  have B5 := hidden (B4.out.trans (hb5.mono B4.out.size))
  have HW5 := hidden (HW4.out.on hb5)
  have HR5 := hidden (HR4.out.on hb5)
  have HEB := hidden heb
  have S5 := hidden (mergeK_law w5 [MA, MB] 2 rfl (mem_two (HMA4.out.on hb5) hmb) (by show MA.n + (MB.n + 0) ≤ _; omega) (by show wsum MA.l + (wsum MB.l + 0) ≤ _; omega) (by omega))
  clear hmb heb hb5 hnb5 hsb5 S4 HW4 HR4 B4 HMA4
  go_wp2_with fail
  refine S5.out.mono ?_
  rintro e w6 ⟨M1, rfl, hm1, hc1', he1, hb6, _, _⟩
  rw [allOf_two] at he1
  have hk1 : M1.l.map Ser.sk = WM.map Ser.sk := by
    rw [HWK.out]
    exact canon_unique hc1' HCW.out (he1.trans ((HEA.out.app HEB.out).trans HEW.out.symm))
  have B6 := hidden (B5.out.trans (hb6.mono B5.out.size))
  have HW6 := hidden (HW5.out.on hb6)
  have HR6 := hidden (HR5.out.on hb6)
  have S6 := hidden (same_law M1.A WB M1.n wm M1.c wc M1.l WM w6 hm1.1 HR6.out hk1)
  clear hm1 hc1' he1 hb6 hk1 S5 HW5 HR5 B5 HEA HEB
  go_wp2_with fail
  refine S6.out.mono ?_
  rintro e w7 ⟨rfl, hb7⟩
  have B7 := hidden (B6.out.trans (hb7.mono B6.out.size))
  have HW7 := hidden (HW6.out.on hb7)
  have HR7 := hidden (HR6.out.on hb7)
  have S7 := hidden (mergeK_law w7 [W, a, b, W] 4 rfl (mem_four HW7.out (HA.out.on B7.out) (HB.out.on B7.out) HW7.out) (by show W.n + (a.n + (b.n + (W.n + 0))) ≤ _; omega) (by show wsum W.l + (wsum a.l + (wsum b.l + (wsum W.l + 0))) ≤ _; omega) (by omega))
  clear hb7 S6 HW6 HR6 B6
  go_wp2_with fail
  refine S7.out.mono ?_
  rintro e w8 ⟨M2, rfl, hm2, hc2', he2, hb8, _, _⟩
  rw [allOf_four] at he2
  have hk2 : M2.l.map Ser.sk = WM.map Ser.sk := by
    rw [HWK.out]
    exact canon_unique hc2' HCW.out (he2.trans (eqv_again HEW.out))
  have B8 := hidden (B7.out.trans (hb8.mono B7.out.size))
  have HW8 := hidden (HW7.out.on hb8)
  have HR8 := hidden (HR7.out.on hb8)
  have S8 := hidden (same_law M2.A WB M2.n wm M2.c wc M2.l WM w8 hm2.1 HR8.out hk2)
  clear hm2 hc2' he2 hb8 hk2 S7 HW7 HR7 B7
  go_wp2_with fail
  refine S8.out.mono ?_
  rintro e w9 ⟨rfl, hb9⟩
  have B9 := hidden (B8.out.trans (hb9.mono B8.out.size))
  have HW9 := hidden (HW8.out.on hb9)
  have HR9 := hidden (HR8.out.on hb9)
  have S9 := hidden (mergeK_law w9 [W, Sl.nil] 2 rfl (mem_two HW9.out (SS.nil w9)) (by show W.n + (0 + 0) ≤ _; omega) (by show wsum W.l + (0 + 0) ≤ _; omega) (by omega))
  clear hb9 S8 HW8 HR8 B8
  go_wp2_with fail
  refine S9.out.mono ?_
  rintro e w10 ⟨M3, rfl, hm3, hc3', he3, hb10, _, _⟩
  rw [allOf_two] at he3
  have hk3 : M3.l.map Ser.sk = WM.map Ser.sk := by
    rw [HWK.out]
    refine canon_unique hc3' HCW.out (he3.trans ?_)
    rw [show (Sl.nil : Sl Ser).l.map Ser.sk = [] from rfl, List.append_nil]
    exact Eqv.refl _
  have B10 := hidden (B9.out.trans (hb10.mono B9.out.size))
  have HW10 := hidden (HW9.out.on hb10)
  have HR10 := hidden (HR9.out.on hb10)
  have S10 := hidden (same_law M3.A WB M3.n wm M3.c wc M3.l WM w10 hm3.1 HR10.out hk3)
  clear hm3 hc3' he3 hb10 hk3 S9 HW9 HR9 B9
  go_wp2_with fail
  refine S10.out.mono ?_
  rintro e w11 ⟨rfl, hb11⟩
  have B11 := hidden (B10.out.trans (hb11.mono B10.out.size))
  have HW11 := hidden (HW10.out.on hb11)
  have HR11 := hidden (HR10.out.on hb11)
  have S11 := hidden (clipK_law W (-9223372036854775808) cut w11 HW11.out)
  clear hb11 S10 HW10 HR10 B10
  go_wp2_with fail
  refine S11.out.mono ?_
  rintro e w12 ⟨LW, rfl, hlw, hlk, hb12, hln, hls⟩
  have B12 := hidden (B11.out.trans (hb12.mono B11.out.size))
  have HW12 := hidden (HW11.out.on hb12)
  have HR12 := hidden (HR11.out.on hb12)
  have HLW := hidden hlw
  have HLK := hidden hlk
  have S12 := hidden (clipK_law a (-9223372036854775808) cut w12 (HA.out.on B12.out))
  clear hlw hlk hb12 S11 HW11 HR11 B11
  go_wp2_with fail
  refine S12.out.mono ?_
  rintro e w13 ⟨CA, rfl, hca, hcak, hb13, hcan, hcas⟩
  have B13 := hidden (B12.out.trans (hb13.mono B12.out.size))
  have HW13 := hidden (HW12.out.on hb13)
  have HR13 := hidden (HR12.out.on hb13)
  have HLW13 := hidden (HLW.out.on hb13)
  have HCA := hidden hca
  have HCAK := hidden hcak
  have S13 := hidden (clipK_law b (-9223372036854775808) cut w13 (HB.out.on B13.out))
  clear hca hcak hb13 S12 HW12 HR12 B12 HLW
  go_wp2_with fail
  refine S13.out.mono ?_
  rintro e w14 ⟨CB, rfl, hcb, hcbk, hb14, hcbn, hcbs⟩
  have B14 := hidden (B13.out.trans (hb14.mono B13.out.size))
  have HW14 := hidden (HW13.out.on hb14)
  have HR14 := hidden (HR13.out.on hb14)
  have HLW14 := hidden (HLW13.out.on hb14)
  have HCBK := hidden hcbk
  have S14 := hidden (mergeK_law w14 [CA, CB] 2 rfl (mem_two (HCA.out.on hb14) hcb) (by show CA.n + (CB.n + 0) ≤ _; omega) (by show wsum CA.l + (wsum CB.l + 0) ≤ _; omega) (by omega))
  clear hcb hcbk hb14 S13 HW13 HR13 B13 HLW13 HCA
  go_wp2_with fail
  refine S14.out.mono ?_
  rintro e w15 ⟨M4, rfl, hm4, hc4', he4, hb15, _, _⟩
  rw [allOf_two, HCAK.out, HCBK.out] at he4
  have B15 := hidden (B14.out.trans (hb15.mono B14.out.size))
  have HW15 := hidden (HW14.out.on hb15)
  have HR15 := hidden (HR14.out.on hb15)
  have HLW15 := hidden (HLW14.out.on hb15)
  have HM4 := hidden hm4
  have hk4 : M4.l.map Ser.sk = LW.l.map Ser.sk := by
    rw [HLK.out]
    exact canon_unique hc4' (canon_clip _ _ HCW.out) (he4.trans (eqv_clip_app HEW.out _ _))
  have HK4 := hidden hk4
  have S15 := hidden (refK_law LW w15 HLW15.out)
  clear hm4 hc4' he4 hb15 hk4 S14 HW14 HR14 B14 HLW14 HCAK HCBK
  go_wp2_with fail
  refine S15.out.mono ?_
  rintro e w16 ⟨LB, lm, lc, LM, rfl, hlr, hlrk, hb16⟩
  have B16 := hidden (B15.out.trans (hb16.mono B15.out.size))
  have HW16 := hidden (HW15.out.on hb16)
  have HR16 := hidden (HR15.out.on hb16)
  have HLW16 := hidden (HLW15.out.on hb16)
  have S16 := hidden (same_law M4.A LB M4.n lm M4.c lc M4.l LM w16 (HM4.out.on hb16).1 hlr (HK4.out.trans hlrk.symm))
  clear hlr hlrk hb16 S15 HW15 HR15 B15 HLW15 HM4 HK4
  go_wp2_with fail
  refine S16.out.mono ?_
  rintro e w17 ⟨rfl, hb17⟩
  have B17 := hidden (B16.out.trans (hb17.mono B16.out.size))
  have HW17 := hidden (HW16.out.on hb17)
  have HR17 := hidden (HR16.out.on hb17)
  have HLW17 := hidden (HLW16.out.on hb17)
  clear hb17 S16 HW16 HR16 B16 HLW16
  by_cases hcut : cut = 9223372036854775807
  · subst hcut
    have hkl : LW.l.map Ser.sk = WM.map Ser.sk := by rw [HLK.out, HWK.out]; exact clip_whole HEW.out HI.out HCW.out
    have S17 := hidden (same_law LW.A WB LW.n wm LW.c wc LW.l WM w17 HLW17.out.1 HR17.out hkl)
    clear hkl
    go_wp2_with fail
    refine S17.out.mono ?_
    rintro e w18 ⟨rfl, hb18⟩
    have B18 := hidden (B17.out.trans (hb18.mono B17.out.size))
    clear hb18 S17
    go_wp2_with fail
    go_ret
    exact ⟨rfl, B18.out⟩
  · have hcb : (cut == 9223372036854775807) = false := by simpa using hcut
    have hlt : cut < 9223372036854775807 := by omega
    have hsum : IntKind.i64.wrap (cut + 1) = cut + 1 := by rw [IntKind.wrap_i64]; omega
    have S17 := hidden (clipK_law W (cut + 1) 9223372036854775807 w17 HW17.out)
    clear hcut
    go_wp2_with fail
    refine S17.out.mono ?_
    rintro e w18 ⟨HI2, rfl, hhi, hhk, hb18, hhn, hhs⟩
    have B18 := hidden (B17.out.trans (hb18.mono B17.out.size))
    have HR18 := hidden (HR17.out.on hb18)
    have HHK := hidden hhk
    have S18 := hidden (mergeK_law w18 [HI2, LW] 2 rfl (mem_two hhi (HLW17.out.on hb18)) (by show HI2.n + (LW.n + 0) ≤ _; omega) (by show wsum HI2.l + (wsum LW.l + 0) ≤ _; omega) (by omega))
    clear hhi hhk hb18 S17
    go_wp2_with fail
    refine S18.out.mono ?_
    rintro e w19 ⟨M5, rfl, hm5, hc5', he5, hb19, _, _⟩
    rw [allOf_two, HHK.out, HLK.out] at he5
    have hk5 : M5.l.map Ser.sk = WM.map Ser.sk := by
      rw [HWK.out]
      exact canon_unique hc5' HCW.out (he5.trans (eqv_halves HEW.out HI.out cut hc1 hlt))
    have B19 := hidden (B18.out.trans (hb19.mono B18.out.size))
    have S19 := hidden (same_law M5.A WB M5.n wm M5.c wc M5.l WM w19 hm5.1 (HR18.out.on hb19) hk5)
    clear hm5 hc5' he5 hb19 hk5 S18
    go_wp2_with fail
    refine S19.out.mono ?_
    rintro e w20 ⟨rfl, hb20⟩
    have B20 := hidden (B19.out.trans (hb20.mono B19.out.size))
    clear hb20 S19
    go_wp2_with fail
    go_ret
    exact ⟨rfl, B20.out⟩

theorem ini_of_ok {b : Nat} {l : List Ser} (h : ∀ x ∈ l, x.Ok b) : InI (l.map Ser.sk) := fun s hs => by
  obtain ⟨x, hx, rfl⟩ := List.mem_map.1 hs
  refine ⟨fun y hy => ⟨((h x hx).smps y hy).2.1, ((h x hx).smps y hy).2.2⟩, fun y hy => ?_⟩
  have := (h x hx).wins y hy
  exact ⟨this.2.1, this.2.2⟩
theorem wsum_le : ∀ (l : List Ser), wsum l + l.length = (l.map fun x => x.smp.n + x.win.n + 1).sum
  | [] => rfl
  | x :: l => by
    have ih := wsum_le l
    have e : wsum (x :: l) = x.smp.n + x.win.n + wsum l := by simp [wsum]
    rw [e, List.length_cons, List.map_cons, List.sum_cons, ← ih]
    omega
theorem ss_of_arg {b : Nat} {w : World} {s : Sl Ser} (hat : s.At w w.heap.size 3 Ser.cells) (hok : ∀ x ∈ s.l, x.At w w.heap.size ∧ x.Ok b) (hb : b ≤ 1048576) (hn : s.n ≤ b) : SS w s :=
  ⟨⟨hat.2.2, hat.2.1, fun x hx => (hok x hx).1, fun x hx => by have := (hok x hx).2.few; omega, by omega⟩, hat.1⟩
section
variable {H : Type} {enc : TypeId × Value → H} {P : Program} {W : World} {b : Nat}
theorem open_arg_slice_b {t e : TypeId} {α : Type} [Inhabited α] {f : α → List Value} {G : α → Prop} {wt : α → Nat} {k base : Nat} {v : Value} {d : DataW H} {ps : List MemPlace} (ht : P.underlying t = some (.slice e)) (hC : P.cellsOf e = k) (hk : 0 < k) (hlen : ∀ a, (f a).length = k) (he : OpensB enc P W b e f G wt)
    (hv : Value.okWide P W .any base t v) (h : DataW.Trod enc P W 0 (fun _ => true) true t v d ps) (hF : Fits P W b t (d, ps)) :
    ∃ s : Sl α, v = s.val ∧ (s.At W W.heap.size k f ∧ (∀ a ∈ s.l, G a) ∧ s.n * P.bytesOf e ≤ reachBytes ∧ s.n ≤ b) ∧ (s.l.map wt).sum ≤ b := by
  obtain ⟨A, n, c, rfl⟩ := okWide_slice ht hv
  obtain ⟨fuel, hf⟩ := h
  obtain ⟨s, hs, hG, hw⟩ := opens_slice_b ht hC hk hlen he _ _ _ hf hF
  simp only [Value.cells, List.cons.injEq, and_true] at hs
  exact ⟨s, hs, hG, Nat.le_trans hw hF.small⟩
end

theorem mergeLaws_walk {H : Type} (enc : TypeId × Value → H) : LawWalk enc Try.prog 10 Try.f10 (fun ds => Rows.uptoBulkAll ds ≤ 1048576) := by
  intro W base args ds p hval hA hlt hsz hbulk
  rw [Try.params10] at hval hA hsz
  obtain ⟨v0, vs0, d0, ds0, p0, q0, hargs, rfl, rfl, h0, r0⟩ := trodAll_cons hA
  obtain ⟨v1, vs1, d1, ds1, p1, q1, rfl, rfl, rfl, h1, r1⟩ := trodAll_cons r0
  obtain ⟨v2, vs2, d2, ds2, p2, q2, rfl, rfl, rfl, h2, r2⟩ := trodAll_cons r1
  obtain ⟨rfl, rfl, rfl⟩ := trodAll_nil r2
  obtain rfl : args = #[v0, v1, v2] := by cases args; simp_all
  obtain ⟨s, rfl, ⟨hs, hok, _, hn⟩, hw⟩ := open_arg_slice_b (k := 3) (f := Ser.cells) Try.underlying24 (by kernel_rfl) (by decide) (fun _ => rfl) opens_ser_b (hval 0 24 v0 rfl rfl) h0 (arg_fits (j := 0) rfl rfl (fun x hx => hlt x (by simp [hx])) hsz hbulk)
  obtain ⟨s2, rfl, ⟨hs2, hok2, _, hn2⟩, hw2⟩ := open_arg_slice_b (k := 3) (f := Ser.cells) Try.underlying24 (by kernel_rfl) (by decide) (fun _ => rfl) opens_ser_b (hval 1 24 v1 rfl rfl) h1 (arg_fits (j := 1) rfl rfl (fun x hx => hlt x (by simp [hx])) hsz hbulk)
  obtain ⟨cut, rfl, hc⟩ := open_arg_int Try.underlying2 (hval 2 2 v2 rfl rfl) h2
  have hcw := wf_i64 hc
  rw [← wsum_le] at hw hw2
  exact mergeLaws_any s s2 cut W (ss_of_arg hs hok (Nat.le_refl _) hn) (ss_of_arg hs2 hok2 (Nat.le_refl _) hn2) (ini_of_ok fun x hx => (hok x hx).2) (ini_of_ok fun x hx => (hok2 x hx).2) (by have := hs.2.1; omega) (by have := hs2.2.1; omega) hcw.1 hcw.2

namespace mergeLawsUpto
set_option maxRecDepth 100000 in
theorem lifted (os : Os) (started : os.Started) (H : Type) (enc : TypeId × Value → H) (F : Stop.Interp) :
    ReturnsInHanded {} Try.checked os 10 .any ((Rows.OpenSpec.upto Rows.mergeLawsSpec).pre6 enc Try.prog Try.f10 Rows.mergeLawsUptoRow.domain false) (((Rows.OpenSpec.upto Rows.mergeLawsSpec).at F).post enc Try.prog Try.f10 false true false false) :=
  law_upto (C := Try.checked) (s := Rows.mergeLawsSpec) (tb := 4) own_prog started (by kernel_rfl) Try.func10
    (OpenSpec.witness (enc := enc) (C := Try.checked) (s := Rows.OpenSpec.upto Rows.mergeLawsSpec) (k := Rows.uptoSmall) rfl false ⟨#[], #[.slice none 0 0, .slice none 0 0, .int .i64 0], []⟩ 8 (by kernel_rfl) (by kernel_rfl) (by kernel_rfl)
      (x := ([.nil, .nil, .lit (.int .i64 0)], [], [])) (by kernel_rfl) rfl (by kernel_rfl))
    laidOut (by kernel_rfl) rfl Try.underlying4 ⟨rfl, fun H ds h => match ds, h with | [_, _, _], _ => ⟨rfl, rfl, rfl⟩⟩ (mergeLaws_walk enc)

theorem proved : Rows.MergeLawsUptoSaid :=
  OpenClaim.holds_of_cond 10 Try.f10 rfl rfl rfl rfl rfl rfl rfl ⟨rfl, rfl, rfl, rfl, rfl⟩ rfl rfl rfl rfl rfl (by kernel_rfl) Try.func10 (by kernel_rfl)
    (of_decide_eq_true (by kernel_rfl)) (by unfold Func.isWrapper; first | (rw [if_pos (by decide +kernel)]; kernel_rfl) | (rw [if_neg (by decide +kernel)]; exact ⟨rfl, rfl⟩))
    (fun os started H enc _ F => lifted os started H enc F)
#print axioms proved
end mergeLawsUpto

end Go.Proofs.Ytohocdbneopooaa
