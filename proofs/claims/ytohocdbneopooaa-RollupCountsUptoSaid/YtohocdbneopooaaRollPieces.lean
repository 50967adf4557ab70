/- RollupPieces: rolled up in pieces that end between two windows, and put together, series have the windows that they have at once. Condition: what comes in is of bulk at most 1048576 (the '..Upto' form). -/
import Derived.Test.YtohocdbneopooaaRollK
namespace Go.Proofs.Ytohocdbneopooaa
set_option maxRecDepth 100000
open Go.RowKit Go.WideShapes Go.ChangeShapes

/-- the one list that is rolled up -/
structure One (w : World) (s : Sl Ser) : Prop where
  ss : SS w s
  canon : Canon (s.l.map Ser.sk)
  times : Times 1073741824 (s.l.map Ser.sk)
  oks : OkS (s.l.map Ser.sk)
  few : s.n ≤ 1048576
  sum : wsum s.l ≤ 1048576
theorem One.on {w w' : World} {s : Sl Ser} (h : One w s) (hb : Below w.heap.size w w') : One w' s := ⟨h.ss.on hb, h.canon, h.times, h.oks, h.few, h.sum⟩
theorem One.err {w : World} {s : Sl Ser} (h : One w s) {d : Int} (hd : ¬(d < 1 ∨ 1099511627776 < d)) (f t : Int) : ∀ x ∈ s.l, errOf Smp.t (fun _ => 0) d (inRange Smp.t f t x.smp.l) = 0 := fun x hx => by
  have hm : x.sk ∈ s.l.map Ser.sk := List.mem_map_of_mem hx
  refine err_ok hd ((h.canon.smps _ hm).sublist List.filter_sublist) fun y hy => ?_
  have := h.times _ hm y (inRange_mem _ _ _ hy)
  omega
theorem One.fine {w : World} {s : Sl Ser} (h : One w s) {d : Int} (hd : ¬(d < 1 ∨ 1099511627776 < d)) (f t : Int) :
    Calls Try.prog 15 #[.int .i64 d, .int .i64 f, .int .i64 t, .slice s.A s.n s.c] w (KRes (rollSK d f t (s.l.map Ser.sk)) s.n w withOk) :=
  fineK_law d f t s w h.ss (ok_of h.ss h.oks h.sum) h.few hd (h.err hd f t)
/-- the bulk of what was rolled up -/
theorem One.bulk {w w' : World} {s r : Sl Ser} (h : One w s) {d f t : Int} (hr : SS w' r) (hk : r.l.map Ser.sk = rollSK d f t (s.l.map Ser.sk)) : wsum r.l ≤ 1048576 := by
  have h1 := ssum_roll d f t (s.l.map Ser.sk)
  have h2 := slen_le (s.l.map Ser.sk)
  have h3 := wsum_sk hr.1
  have h4 := wsum_sk h.ss.1
  have h5 := h.sum
  rw [h3, hk]
  omega
theorem one_of {w' : World} {c m : Sl Ser} {l : List SK} (hm : SS w' m) (hc : Canon (m.l.map Ser.sk)) (he : Eqv (m.l.map Ser.sk) (MR.allOf [c])) (hk : c.l.map Ser.sk = clipSK 0 1073741824 l) (ho : OkS l) (hn : m.n ≤ 1048576) (hw : wsum m.l ≤ 1048576) : One w' m := by
  rw [allOf_one, hk] at he
  exact ⟨hm, hc, times_eqv hc he (times_clip _), oks_eqv hc he (oks_clip ho), hn, hw⟩

set_option maxHeartbeats 12800000 in
theorem rollupPieces_any (a : Sl Ser) (width cut : Int) (w : World) (ha : SS w a) (ho : OkS (a.l.map Ser.sk)) (hna : a.n + wsum a.l ≤ 1048576) (hw1 : -9223372036854775808 ≤ width) (hw2 : width < 9223372036854775808) (hc1 : -9223372036854775808 ≤ cut) (hc2 : cut < 9223372036854775808) :
    Calls Try.prog 5 #[.slice a.A a.n a.c, .int .i64 width, .int .i64 cut] w fun e w' => e = .returned (.bool true) ∧ Below w.heap.size w w' := by
  have HA := hidden ha
  have HO := hidden ho
  clear ha ho
  go_enter Try.func5, Try.ntmps5
  go_wp2_with fail
  refine (rollWakes_any _).mono ?_
  rintro e w1 ⟨rfl, hb1⟩
  have B1 := hidden hb1
  have S1 := hidden (clipK_law a 0 1073741824 w1 (HA.out.on hb1))
  clear hb1
  go_wp2_with fail
  refine S1.out.mono ?_
  rintro e w2 ⟨c, rfl, hc, hck, hb2, hcn, hcs⟩
  have B2 := hidden (B1.out.trans (hb2.mono B1.out.size))
  have HCK := hidden hck
  have S2 := hidden (mergeK_law w2 [c] 1 rfl (mem_one hc) (by show c.n + 0 ≤ _; omega) (by show wsum c.l + 0 ≤ _; omega) (by omega))
  clear hc hck hb2 S1 B1
  go_wp2_with fail
  refine S2.out.mono ?_
  rintro e w3 ⟨m, rfl, hm, hmc, hme, hb3, hmn, hms⟩
  have hmn' : m.n ≤ c.n := hmn
  have hms' : wsum m.l ≤ wsum c.l := hms
  have H3 := hidden (one_of hm hmc hme HCK.out HO.out (by omega) (by omega))
  have B3 := hidden (B2.out.trans (hb3.mono B2.out.size))
  clear hm hmc hme hb3 hmn hms S2 B2 HCK
  go_wp2_with fail
  have hd0 : 1 ≤ 1 + max 0 width % 5000 ∧ 1 + max 0 width % 5000 ≤ 5000 := by omega
  have hD0 : 0 ≤ max 0 (min cut 1073741824) ∧ max 0 (min cut 1073741824) ≤ 1073741824 := by omega
  generalize 1 + max 0 width % 5000 = d at *
  generalize max 0 (min cut 1073741824) = D at *
  generalize max 0 width % 5000 = d1 at *
  generalize max 0 width = d2 at *
  generalize min cut 1073741824 = d3 at *
  have hdw : ¬(d < 1 ∨ 1099511627776 < d) := by omega
  have hbeg := beginOf_ok D d hdw (by omega)
  have hM0 : 0 ≤ D / d * d := Int.mul_nonneg (Int.ediv_nonneg hD0.1 (by omega)) (by omega)
  have hM1 : D / d * d ≤ 1073741824 := by have := Int.ediv_mul_le D (show d ≠ 0 by omega); omega
  have hMM : D / d * d / d * d = D / d * d := by rw [Int.mul_ediv_cancel _ (show d ≠ 0 by omega)]
  have hU := until_any d D w3
  rw [hbeg] at hU
  generalize D / d * d = M at *
  refine hU.mono ?_
  rintro e w' ⟨rfl, rfl⟩
  have HMM := hidden hMM
  have HDW := hidden hdw
  have S3 := hidden (H3.out.fine hdw 0 2147483648)
  clear hU hbeg hMM hdw
  go_wp2_with fail
  refine S3.out.mono ?_
  rintro e w4 ⟨r0, rfl, hr0, hk0, hb4, hn0⟩
  unfold withOk
  have H4 := hidden (H3.out.on hb4)
  have B4 := hidden (B3.out.trans (hb4.mono B3.out.size))
  have HR0 := hidden hr0
  have HK0 := hidden hk0
  have S4 := hidden (H4.out.fine HDW.out 0 M)
  clear hr0 hk0 hb4 S3 B3 H3
  go_wp2_with fail
  refine S4.out.mono ?_
  rintro e w5 ⟨r1, rfl, hr1, hk1, hb5, hn1⟩
  unfold withOk
  have H5 := hidden (H4.out.on hb5)
  have B5 := hidden (B4.out.trans (hb5.mono B4.out.size))
  have HR0' := hidden (HR0.out.on hb5)
  have HR1 := hidden hr1
  have HK1 := hidden hk1
  have S5 := hidden (H5.out.fine HDW.out M 2147483648)
  clear hr1 hk1 hb5 S4 B4 H4 HR0
  go_wp2_with fail
  refine S5.out.mono ?_
  rintro e w6 ⟨r2, rfl, hr2, hk2, hb6, hn2⟩
  unfold withOk
  have H6 := hidden (H5.out.on hb6)
  have B6 := hidden (B5.out.trans (hb6.mono B5.out.size))
  have HR0'' := hidden (HR0'.out.on hb6)
  have HR1' := hidden (HR1.out.on hb6)
  have HR2 := hidden hr2
  have HK2 := hidden hk2
  have hu1 := H6.out.bulk HR1'.out HK1.out
  have hu2 := H6.out.bulk HR2.out HK2.out
  have hu0 := H6.out.bulk HR0''.out HK0.out
  have hfew := H6.out.few
  have S6 := hidden (mergeK_law w6 [r1, r2] 2 rfl (mem_two HR1'.out HR2.out) (by show r1.n + (r2.n + 0) ≤ _; omega) (by show wsum r1.l + (wsum r2.l + 0) ≤ _; omega) (by omega))
  clear hr2 hk2 hb6 S5 B5 H5 HR0' HR1
  go_wp2_with fail
  refine S6.out.mono ?_
  rintro e w7 ⟨a1, rfl, ha1, hac, hae, hb7, _, _⟩
  rw [allOf_two, HK1.out, HK2.out] at hae
  have B7 := hidden (B6.out.trans (hb7.mono B6.out.size))
  have HR7 := hidden (HR0''.out.on hb7)
  have HAC := hidden hac
  have HAE := hidden hae
  have S7 := hidden (ref24_law a1 w7 ha1)
  clear ha1 hac hae hb7 S6 B6 HR0''
  go_wp2_with fail
  refine S7.out.mono ?_
  rintro e w8 ⟨X, xn, xc, XL, rfl, hx, hxk, hb8⟩
  have B8 := hidden (B7.out.trans (hb8.mono B7.out.size))
  have HR8 := hidden (HR7.out.on hb8)
  have HX := hidden hx
  have HXK := hidden hxk
  have S8 := hidden (mergeK_law w8 [r0] 1 rfl (mem_one HR8.out) (by show r0.n + 0 ≤ _; omega) (by show wsum r0.l + 0 ≤ _; omega) (by omega))
  clear hx hxk hb8 S7 B7 HR7
  go_wp2_with fail
  refine S8.out.mono ?_
  rintro e w9 ⟨b1, rfl, hb1', hbc, hbe, hb9, _, _⟩
  rw [allOf_one, HK0.out] at hbe
  have B9 := hidden (B8.out.trans (hb9.mono B8.out.size))
  have HX9 := hidden (HX.out.on hb9)
  have hk : a1.l.map Ser.sk = b1.l.map Ser.sk :=
    canon_unique HAC.out hbc (HAE.out.trans ((pieces_eqv (by omega) HMM.out hM0 (by omega) H6.out.canon).trans hbe.symm))
  have HKK := hidden hk
  have S9 := hidden (ref24_law b1 w9 hb1')
  clear hb1' hbc hbe hb9 hk S8 B8 HX
  go_wp2_with fail
  refine S9.out.mono ?_
  rintro e w10 ⟨Y, yn, yc, YL, rfl, hy, hyk, hb10⟩
  have B10 := hidden (B9.out.trans (hb10.mono B9.out.size))
  have S10 := hidden (series_law X Y xn yn xc yc XL YL w10 (HX9.out.on hb10) hy (HXK.out.trans (HKK.out.trans hyk.symm)))
  clear hy hyk hb10 S9 B9 HX9
  go_wp2_with fail
  refine S10.out.mono ?_
  rintro e w11 ⟨rfl, q, rfl⟩
  go_wp2_with fail
  go_ret
  exact ⟨rfl, below_drewN B10.out q⟩

theorem rollupPieces_walk {H : Type} (enc : TypeId × Value → H) : LawWalk enc Try.prog 5 Try.f5 (fun ds => Rows.uptoBulkAll ds ≤ 1048576) := by
  intro W base args ds p hval hA hlt hsz hbulk
  rw [Try.params5] at hval hA hsz
  obtain ⟨v0, vs0, d0, ds0, p0, q0, hargs, rfl, rfl, h0, r0⟩ := trodAll_cons hA
  obtain ⟨v1, vs1, d1, ds1, p1, q1, rfl, rfl, rfl, h1, r1⟩ := trodAll_cons r0
  obtain ⟨v2, vs2, d2, ds2, p2, q2, rfl, rfl, rfl, h2, r2⟩ := trodAll_cons r1
  obtain ⟨rfl, rfl, rfl⟩ := trodAll_nil r2
  obtain rfl : args = #[v0, v1, v2] := by cases args; simp_all
  obtain ⟨s, rfl, ⟨hs, hok, _, hn⟩, hw⟩ := open_arg_slice_b (k := 3) (f := Ser.cells) Try.underlying24 (by kernel_rfl) (by decide) (fun _ => rfl) opens_ser_b (hval 0 24 v0 rfl rfl) h0 (arg_fits (j := 0) rfl rfl (fun x hx => hlt x (by simp [hx])) hsz hbulk)
  obtain ⟨wd, rfl, hc⟩ := open_arg_int Try.underlying2 (hval 1 2 v1 rfl rfl) h1
  obtain ⟨cut, rfl, hc2⟩ := open_arg_int Try.underlying2 (hval 2 2 v2 rfl rfl) h2
  have w1 := wf_i64 hc
  have w2 := wf_i64 hc2
  rw [← wsum_le] at hw
  exact rollupPieces_any s wd cut W (ss_of_arg hs hok (Nat.le_refl _) hn) (oks_of fun x hx => (hok x hx).2) (by have := hs.2.1; omega) w1.1 w1.2 w2.1 w2.2

namespace rollupPiecesUpto
set_option maxRecDepth 100000 in
theorem lifted (os : Os) (started : os.Started) (H : Type) (enc : TypeId × Value → H) (F : Stop.Interp) :
    ReturnsInHanded {} Try.checked os 5 .any ((Rows.OpenSpec.upto Rows.rollupPiecesSpec).pre6 enc Try.prog Try.f5 Rows.rollupPiecesUptoRow.domain false) (((Rows.OpenSpec.upto Rows.rollupPiecesSpec).at F).post enc Try.prog Try.f5 false true false false) :=
  law_upto (C := Try.checked) (s := Rows.rollupPiecesSpec) (tb := 4) own_prog started (by kernel_rfl) Try.func5
    (OpenSpec.witness (enc := enc) (C := Try.checked) (s := Rows.OpenSpec.upto Rows.rollupPiecesSpec) (k := Rows.uptoSmall) rfl false ⟨#[], #[.slice none 0 0, .int .i64 0, .int .i64 0], []⟩ 8 (by kernel_rfl) (by kernel_rfl) (by kernel_rfl)
      (x := ([.nil, .lit (.int .i64 0), .lit (.int .i64 0)], [], [])) (by kernel_rfl) rfl (by kernel_rfl))
    laidOut (by kernel_rfl) rfl Try.underlying4 ⟨rfl, fun H ds h => match ds, h with | [_, _, _], _ => ⟨rfl, rfl, rfl⟩⟩ (rollupPieces_walk enc)

theorem proved : Rows.RollupPiecesUptoSaid :=
  OpenClaim.holds_of_cond 5 Try.f5 rfl rfl rfl rfl rfl rfl rfl ⟨rfl, rfl, rfl, rfl, rfl⟩ rfl rfl rfl rfl rfl (by kernel_rfl) Try.func5 (by kernel_rfl)
    (of_decide_eq_true (by kernel_rfl)) (by unfold Func.isWrapper; first | (rw [if_pos (by decide +kernel)]; kernel_rfl) | (rw [if_neg (by decide +kernel)]; exact ⟨rfl, rfl⟩))
    (fun os started H enc _ F => lifted os started H enc F)
#print axioms proved
end rollupPiecesUpto

end Go.Proofs.Ytohocdbneopooaa
