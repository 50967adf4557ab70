/- RollupCoarse: whatever series are rolled up, the windows or the error is the document's. Condition: what comes in is of bulk at most 1048576 (the '..Upto' form). -/
import Derived.Test.YtohocdbneopooaaRollWakes
import Derived.Test.YtohocdbneopooaaArgs
namespace Go.Proofs.Ytohocdbneopooaa
set_option maxRecDepth 100000
open Go.RowKit Go.WideShapes Go.ChangeShapes

set_option maxRecDepth 100000 in
set_option maxHeartbeats 6400000 in
theorem rollupCoarse_any (d f t : Int) (A : Option Addr) (n c : Nat) (ss : List Ser) (w : World) (hr : Row w w.heap.size 3 A n (serCells ss)) (hl : ss.length = n) (hn : n ≤ 1048576) (hat : ∀ x ∈ ss, x.At w w.heap.size) (hok : ∀ x ∈ ss, x.Ok 1048576) :
    Calls Try.prog 4 #[.agg #[.int .i64 d, .int .i64 f, .int .i64 t], .slice A n c] w fun e w' => e = .returned (.bool true) ∧ Below w.heap.size w w' := by
  have hL := hidden hl
  have HR := hidden hr
  have hsmall : (∀ r ∈ (rollAllW d f t ss).1, r.1.length ≤ 1048576 ∧ r.2.length ≤ 1048576) ∧ (rollAllW d f t ss).1.length ≤ ss.length :=
    rollAll_small _ _ _ _ _ _ _ 1048576 ss fun x hx => ⟨by have := (hat x hx).lab.2.1; have := (hok x hx).few; omega, by have := (hat x hx).win.2.1; have := (hok x hx).few; omega⟩
  have HS := hidden hsmall
  have hfew : ∀ x ∈ ss, x.lab.n ≤ 4611686018427387904 ∧ x.smp.n ≤ 4611686018427387904 ∧ x.win.n ≤ 4611686018427387904 := fun x hx => by have := (hok x hx).few; omega
  have hin : ∀ (B : Nat) (w1 : World), Below w.heap.size w w1 → Row (w1.alloc (.cells #[.int .i64 d, .int .i64 f, .int .i64 t] 23)) (w1.heap.size + B) 3 A n (serCells ss) := fun B w1 hb => ((HR.out.below hb).alloc hb.size _).more (by have := hb.size; omega)
  clear hl hr hsmall hin
  go_enter Try.func4, Try.ntmps4
  go_wp2_with fail
  have hb0 : Below w.heap.size w (w.alloc (.cells #[.int .i64 d, .int .i64 f, .int .i64 t] 23)) := (Below.refl _ _).alloc (Nat.le_refl _) _
  have hg0 := Whole1.new w 23 #[.int .i64 d, .int .i64 f, .int .i64 t]
  refine (seriesRef24_any A n c ss _ ((HR.out.below hb0).more hb0.size) hL.out (by omega) (fun x hx => ((hat x hx).below hb0).more hb0.size) (fun x hx => (hok x hx).fit)).mono ?_
  rintro e w1 ⟨v1, L1, rfl, ho1, hs1, hb1⟩
  obtain ⟨A1, k1, rfl, hk1, hr1⟩ := own_shape ho1
  have hB1 := hb0.trans (hb1.mono hb0.size)
  have hg1 := hg0.below hb1 (by simp)
  have e10 := hg1.cell 0
  have e11 := hg1.cell 1
  have e12 := hg1.cell 2
  clear hg0 ho1 hb1
  go_wp2_with fail
  refine (coarse_any d f t A n c ss _ ((HR.out.below hB1).more hB1.size) hL.out hn (fun x hx => ((hat x hx).below hB1).more hB1.size) hok).mono ?_
  rintro e w2 ⟨v2, L2, rfl, hA2, hb2⟩
  have hB2 := hB1.trans (hb2.mono hB1.size)
  have hg2 := hg1.below hb2 hg1.lt
  have e20 := hg2.cell 0
  have e21 := hg2.cell 1
  have e22 := hg2.cell 2
  have hr1' := (hr1.below hb2).more hb2.size
  clear e10 e11 e12 hg1 hr1
  have hlL1 : L1.length = n := by rw [hs1.len, hL.out]
  have hok1 : ∀ x ∈ L1, x.At w2 w2.heap.size ∧ x.Ok 1048576 := by
    intro x hx
    obtain ⟨i, hi, hxi⟩ := List.getElem_of_mem hx
    have hi' : i < ss.length := by rw [← hs1.len]; exact hi
    have hsm := hs1.same i _ _ (List.getElem?_eq_getElem hi') (List.getElem?_eq_getElem hi)
    rw [hxi] at hsm
    have hy := List.getElem_mem hi'
    generalize ss[i] = y at *
    have ha := hs1.at_ x hx
    have hy1 := hok y hy
    have hy2 := hat y hy
    have s1 : x.lab.n = y.lab.n := by rw [← ha.lab.2.1, ← hy2.lab.2.1, hsm.lab]
    have s2 : x.smp.n = y.smp.n := by rw [← ha.smp.2.1, ← hy2.smp.2.1, hsm.smp]
    have s3 : x.win.n = y.win.n := by rw [← ha.win.2.1, ← hy2.win.2.1, hsm.win]
    exact ⟨(ha.below hb2).more hb2.size, by rw [hsm.smp]; exact hy1.smps, by rw [hsm.win]; exact hy1.wins, by rw [s1]; exact hy1.labn, by rw [s2]; exact hy1.smpn, by rw [s3]; exact hy1.winn, by rw [s1, s2, s3]; exact hy1.few⟩
  have hEq : rollAllW d f t L1 = rollAllW d f t ss := rollAll_congr (fun q => q.2.2) Win.start badWin winWin d f t L1 ss hs1.keys
  have HK1 := hidden hs1.keys
  have HA2 := hidden hA2
  have HL1 := hidden hlL1
  clear hA2 hs1 hlL1
  go_wp2_with fail
  refine (rrollW_any d f t A1 n k1 L1 _ hr1' HL1.out hn (fun x hx => (hok1 x hx).1) (fun x hx => (hok1 x hx).2)).mono ?_
  rintro e w3 ⟨v3, L3, rfl, hA3, hb3⟩
  rw [hEq] at hA3
  rw [hEq]
  have hB3 := hB2.trans (hb3.mono hB2.size)
  have HA3 := hidden hA3
  have HA2' := hidden (HA2.out.below hb3)
  have hg3 := hg2.below hb3 hg2.lt
  have e30 := hg3.cell 0
  have e31 := hg3.cell 1
  have e32 := hg3.cell 2
  clear hA3 hEq e20 e21 e22 hg2 HA2 hg3
  have hr1'' := (hr1'.below hb3).more hb3.size
  have hat1 : ∀ x ∈ L1, x.At w3 w3.heap.size := fun x hx => ((hok1 x hx).1.below hb3).more hb3.size
  have hfew1 : ∀ x ∈ L1, x.lab.n ≤ 4611686018427387904 ∧ x.smp.n ≤ 4611686018427387904 ∧ x.win.n ≤ 4611686018427387904 := fun x hx => by have := (hok1 x hx).2.few; omega
  clear hr1' hok1 hb3 hb2
  go_wp2_with fail
  refine (until_any d t _).mono ?_
  rintro e w' ⟨rfl, rfl⟩
  go_wp2_with fail
  refine (rstart_any t d _).mono ?_
  rintro e w' ⟨rfl, rfl⟩
  clear e30 e31 e32
  have t2 : ((beginOf t d).1 == (beginOf t d).1) = true := by simp
  have t3 : ((beginOf t d).2 == (beginOf t d).2) = true := by simp
  go_wp2_with fail
  refine (rollWakes_any _).mono ?_
  rintro e w4 ⟨rfl, hb4⟩
  have hB4 := hB3.trans (hb4.mono hB3.size)
  generalize (rollAllW d f t ss).2 = ee at *
  have t1 : (ee == ee) = true := by simp
  have hA2 := HA2'.out.below hb4
  have hA3 := HA3.out.below hb4
  have hr1f := (hr1''.below hb4).more hb4.size
  have hat1f : ∀ x ∈ L1, x.At w4 w4.heap.size := fun x hx => ((hat1 x hx).below hb4).more hb4.size
  clear HA2' HA3 hb4 hr1'' hat1
  have hsm := HS.out
  rw [hL.out] at hsm
  generalize (rollAllW d f t ss).1 = R at *
  obtain ⟨A2, k2, rfl, hk2, hr2⟩ := own_shape hA2.1
  obtain ⟨A3, k3, rfl, hk3, hr3⟩ := own_shape hA3.1
  have hl2 := hA2.2.1.len
  have hl3 := hA3.2.1.len
  have hkk := hA2.2.1.keys hA3.2.1
  have hRn : R.length ≤ 1048576 := Nat.le_trans hsm.2 hn
  have hfit := fun y hy => hA2.2.1.fit hA2.2.2.1 hsm.1 y hy
  have hat2 := hA2.2.2.1
  have hat3 := hA3.2.2.1
  have HX := hidden hl2
  have HY := hidden hl3
  have HZ := hidden hkk
  clear hA2 hA3 hsm HS hl2 hl3 hkk
  go_wp2_with fail
  refine (seriesRef24_any A2 R.length k2 L2 _ hr2 HX.out (by omega) hat2 hfit).mono ?_
  rintro e w5 ⟨v4, L4, rfl, ho4, hs4, hb5⟩
  obtain ⟨A4, k4, rfl, hk4, hr4⟩ := own_shape ho4
  have hB5 := hB4.trans (hb5.mono hB4.size)
  have HK4 := hidden (hs4.keys.trans HZ.out)
  have hl4 : Hid (L4.length = R.length) := by rw [Hid, hs4.len]; exact HX.out
  have hat4 := hs4.at_
  have hfew4 : ∀ x ∈ L4, x.lab.n ≤ 4611686018427387904 ∧ x.smp.n ≤ 4611686018427387904 ∧ x.win.n ≤ 4611686018427387904 := by
    intro x hx
    obtain ⟨i, hi, hxi⟩ := List.getElem_of_mem hx
    have hi' : i < L2.length := by rw [← hs4.len]; exact hi
    have hsm := hs4.same i _ _ (List.getElem?_eq_getElem hi') (List.getElem?_eq_getElem hi)
    rw [hxi] at hsm
    have hy := List.getElem_mem hi'
    generalize L2[i] = y at *
    have ha := hat4 x hx
    have hy2 := hat2 y hy
    have hf := hfit y hy
    have s1 : x.lab.n = y.lab.n := by rw [← ha.lab.2.1, ← hy2.lab.2.1, hsm.lab]
    have s2 : x.smp.n = y.smp.n := by rw [← ha.smp.2.1, ← hy2.smp.2.1, hsm.smp]
    have s3 : x.win.n = y.win.n := by rw [← ha.win.2.1, ← hy2.win.2.1, hsm.win]
    obtain ⟨f1, f2, f3⟩ := hf
    simp only [reachBytes] at f1 f2 f3
    omega
  have hr3' := (hr3.below hb5).more hb5.size
  have hat3' : ∀ x ∈ L3, x.At w5 w5.heap.size := fun x hx => ((hat3 x hx).below hb5).more hb5.size
  have hr1g := (hr1f.below hb5).more hb5.size
  have hat1g : ∀ x ∈ L1, x.At w5 w5.heap.size := fun x hx => ((hat1f x hx).below hb5).more hb5.size
  clear hs4 ho4 hb5 hat2 hat3 hr3 hr2 hfit hr1f hat1f
  go_wp2_with fail
  refine (rseries_yes A4 A3 R.length k4 k3 L4 L3 _ _ _ hr4 hr3' hl4.out HY.out (by omega) hat4 hat3' (same_of_keys HK4.out) hfew4).mono ?_
  rintro e w6 ⟨rfl, m, hw6⟩
  have hb6 : Below w5.heap.size w5 w6 := by rw [hw6]; exact below_drewN (Below.refl _ _) m
  have hB6 := hB5.trans (hb6.mono hB5.size)
  have hr1h := (hr1g.below hb6).more hb6.size
  have hat1h : ∀ x ∈ L1, x.At w6 w6.heap.size := fun x hx => ((hat1g x hx).below hb6).more hb6.size
  clear hw6 hb6 hr1g hat1g hr3' hat3' hat4 hr4 hfew4
  go_wp2_with fail
  refine (seriesRef24_any A n c ss _ ((HR.out.below hB6).more hB6.size) hL.out (by omega) (fun x hx => ((hat x hx).below hB6).more hB6.size) (fun x hx => (hok x hx).fit)).mono ?_
  rintro e w7 ⟨v5, L5, rfl, ho5, hs5, hb7⟩
  obtain ⟨A5, k5, rfl, hk5, hr5⟩ := own_shape ho5
  have hB7 := hB6.trans (hb7.mono hB6.size)
  have HK5 := hidden (hs5.keys.trans HK1.out.symm)
  have hl5 : Hid (L5.length = n) := by rw [Hid, hs5.len]; exact hL.out
  have hat5 := hs5.at_
  have hr1i := (hr1h.below hb7).more hb7.size
  have hat1i : ∀ x ∈ L1, x.At w7 w7.heap.size := fun x hx => ((hat1h x hx).below hb7).more hb7.size
  have hfew5 : ∀ x ∈ L5, x.lab.n ≤ 4611686018427387904 ∧ x.smp.n ≤ 4611686018427387904 ∧ x.win.n ≤ 4611686018427387904 := by
    intro x hx
    obtain ⟨i, hi, hxi⟩ := List.getElem_of_mem hx
    have hi' : i < ss.length := by rw [← hs5.len]; exact hi
    have hsm := hs5.same i _ _ (List.getElem?_eq_getElem hi') (List.getElem?_eq_getElem hi)
    rw [hxi] at hsm
    have hy := List.getElem_mem hi'
    generalize ss[i] = y at *
    have ha := hat5 x hx
    have hy2 := hat y hy
    have hf := hfew y hy
    have s1 : x.lab.n = y.lab.n := by rw [← ha.lab.2.1, ← hy2.lab.2.1, hsm.lab]
    have s2 : x.smp.n = y.smp.n := by rw [← ha.smp.2.1, ← hy2.smp.2.1, hsm.smp]
    have s3 : x.win.n = y.win.n := by rw [← ha.win.2.1, ← hy2.win.2.1, hsm.win]
    omega
  clear hs5 ho5 hb7 hr1h hat1h
  go_wp2_with fail
  refine (rseries_yes A5 A1 n k5 k1 L5 L1 _ _ _ hr5 hr1i hl5.out HL1.out (by omega) hat5 hat1i (same_of_keys HK5.out) hfew5).mono ?_
  rintro e w8 ⟨rfl, m, hw8⟩
  have hB8 : Below w.heap.size w w8 := by rw [hw8]; exact below_drewN hB7 m
  clear hw8
  go_wp2_with fail
  go_ret
  exact ⟨rfl, hB8⟩

theorem rollupCoarse_walk {H : Type} (enc : TypeId × Value → H) : LawWalk enc Try.prog 4 Try.f4 (fun ds => Rows.uptoBulkAll ds ≤ 1048576) := by
  intro W base args ds p hval hA hlt hsz hbulk
  rw [Try.params4] at hval hA hsz
  obtain ⟨v0, vs0, d0, ds0, p0, q0, hargs, rfl, rfl, h0, r0⟩ := trodAll_cons hA
  obtain ⟨v1, vs1, d1, ds1, p1, q1, rfl, rfl, rfl, h1, r1⟩ := trodAll_cons r0
  obtain ⟨rfl, rfl, rfl⟩ := trodAll_nil r1
  obtain rfl : args = #[v0, v1] := by cases args; simp_all
  obtain ⟨d, f, t, rfl, _⟩ := open_arg_ints3 Try.underlying23 (by kernel_rfl) (by kernel_rfl) Try.underlying2 Try.underlying2 Try.underlying2 (hval 0 23 v0 rfl rfl) h0
  obtain ⟨s, rfl, ⟨hs1, hs2, hs3⟩, hok, _, hn⟩ := open_arg_slice (k := 3) (f := Ser.cells) Try.underlying24 (by kernel_rfl) (by decide) (fun _ => rfl) opens_ser (hval 1 24 v1 rfl rfl) h1 (arg_fits (j := 1) rfl rfl (fun x hx => hlt x (by simp [hx])) hsz hbulk)
  exact rollupCoarse_any d f t s.A s.n s.c s.l W hs3 hs2 hn (fun x hx => (hok x hx).1) (fun x hx => (hok x hx).2)

namespace rollupCoarseUpto
set_option maxRecDepth 100000 in
theorem lifted (os : Os) (started : os.Started) (H : Type) (enc : TypeId × Value → H) (F : Stop.Interp) :
    ReturnsInHanded {} Try.checked os 4 .any ((Rows.OpenSpec.upto Rows.rollupCoarseSpec).pre6 enc Try.prog Try.f4 Rows.rollupCoarseUptoRow.domain false) (((Rows.OpenSpec.upto Rows.rollupCoarseSpec).at F).post enc Try.prog Try.f4 false true false false) :=
  law_upto (C := Try.checked) (s := Rows.rollupCoarseSpec) (tb := 4) own_prog started (by kernel_rfl) Try.func4
    (OpenSpec.witness (enc := enc) (C := Try.checked) (s := Rows.OpenSpec.upto Rows.rollupCoarseSpec) (k := Rows.uptoSmall) rfl false ⟨#[], #[.agg #[.int .i64 0, .int .i64 0, .int .i64 0], .slice none 0 0], []⟩ 8 (by kernel_rfl) (by kernel_rfl) (by kernel_rfl)
      (x := ([.agg [.lit (.int .i64 0), .lit (.int .i64 0), .lit (.int .i64 0)], .nil], [], [])) (by kernel_rfl) rfl (by kernel_rfl))
    laidOut (by kernel_rfl) rfl Try.underlying4 ⟨rfl, fun H ds h => match ds, h with | [_, _], _ => ⟨rfl, rfl, rfl⟩⟩ (rollupCoarse_walk enc)

theorem proved : Rows.RollupCoarseUptoSaid :=
  OpenClaim.holds_of_cond 4 Try.f4 rfl rfl rfl rfl rfl rfl rfl ⟨rfl, rfl, rfl, rfl, rfl⟩ rfl rfl rfl rfl rfl (by kernel_rfl) Try.func4 (by kernel_rfl)
    (of_decide_eq_true (by kernel_rfl)) (by unfold Func.isWrapper; first | (rw [if_pos (by decide +kernel)]; kernel_rfl) | (rw [if_neg (by decide +kernel)]; exact ⟨rfl, rfl⟩))
    (fun os started H enc _ F => lifted os started H enc F)
#print axioms proved
end rollupCoarseUpto

end Go.Proofs.Ytohocdbneopooaa
