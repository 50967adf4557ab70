/- RecordOne: whatever is done to a record's bytes, what is read is refused, or is a fit record whose bytes they are. Condition: the arguments are within the bulk that the statement names. -/
import Derived.Test.YtdggnnjjiolldaaGreatPk820d3c7b
import Derived.Test.YtdggnnjjiolldaaGreatPk9750c046
namespace Go.Proofs.YtdggnnjjiolldaaGreat
set_option maxRecDepth 100000
open Go.RowKit Go.WideShapes Go.ChangeShapes Go.Shelf

theorem recB_small {r : RecR} {w : World} (h : r.At w) (hf : fitRec r) (k : r.few') : (recB r).length ≤ 1200000000 := by
  obtain ⟨h1, h2, h3, h4⟩ := hf
  obtain ⟨k1, k2, k3, k4⟩ := k
  have ln := h.news.2.1
  have lp := h.pts.2.1
  have lg := h.gones.2.1
  have hsl : ∀ x ∈ r.gones.l, x.sp.l.length ≤ 1048576 := by
    intro x hx
    have e : (r.gones.l.map fun x => x.sp.n) = r.gones.l.map fun x => x.sp.l.length := List.map_congr_left fun x hx => (h.spans x hx).1.2.1.symm
    have := few_sp (by rw [e]; exact k4) hx
    rwa [← (h.spans x hx).1.2.1] at this
  have b1 := newsB_len h1
  have b2 := pntsB_len pnt0_fit (show pnt0.v < 18446744073709551616 by decide) fun x hx => ⟨h2 x hx, (h.ptI x hx).2.2.2.2⟩
  have b3 := gonsB_len (l := r.gones.l) fun x hx => ⟨h3 x hx, (h.spans x hx).2, by have := hsl x hx; omega⟩
  have u1 := uintL_ten (v := r.news.l.length) (by omega)
  have u2 := uintL_ten (v := r.pts.l.length) (by omega)
  have u3 := uintL_ten (v := r.gones.l.length) (by omega)
  simp only [recB, List.length_append]; omega
theorem encRec_size {r : RecR} {w : World} (h : r.At w) (k : r.few') : (encRec r).1.size ≤ 1200000000 := by
  by_cases hf : fitRec r
  · rw [encRec, if_pos hf]
    simpa [ByteArray.size] using recB_small h hf k
  · rw [encRec, if_neg hf]
    simp [ByteArray.size]
theorem rec_nil (w : World) : RecR.At w ⟨Sl.nil, Sl.nil, Sl.nil⟩ :=
  ⟨⟨Nat.le_refl _, rfl, Row.nil⟩, fun x hx => (List.not_mem_nil hx).elim, fun x hx => (List.not_mem_nil hx).elim, ⟨Nat.le_refl _, rfl, Row.nil⟩, fun x hx => (List.not_mem_nil hx).elim, ⟨Nat.le_refl _, rfl, Row.nil⟩, fun x hx => (List.not_mem_nil hx).elim, fun x hx => (List.not_mem_nil hx).elim, by simp [Sl.nil]⟩

open Classical in
set_option maxHeartbeats 6400000 in
theorem recordOne_any (r : RecR) (A : Option Addr) (n c : Nat) (l : List Trn) (w : World) (hr : r.At w) (kr : r.few') (ht : Row w w.heap.size 3 A n (l.flatMap Trn.cells)) (hl : l.length = n) (hn : n ≤ 1048576) (hs : (l.map fun x => x.ins.size).sum ≤ 1048576) (hb : ∀ x ∈ l, -9223372036854775808 ≤ x.at_ ∧ x.at_ ≤ 9223372036854775807 ∧ -9223372036854775808 ≤ x.out ∧ x.out ≤ 9223372036854775807) :
    Calls Tryz.prog 4 #[r.val, .slice A n c] w fun e w' => e = .returned (.bool true) ∧ Below w.heap.size w w' := by
  have HSZ := hidden (encRec_size hr kr)
  obtain ⟨⟨nA, nn, nc, nl⟩, ⟨pA, pn, pc, pl⟩, ⟨gA, gn, gc, gl⟩⟩ := r
  have hA0 := Whole1.new w 26 #[.slice nA nn nc, .slice pA pn pc, .slice gA gn gc]
  have hbW : Below w.heap.size w (w.alloc (.cells #[.slice nA nn nc, .slice pA pn pc, .slice gA gn gc] 26)) := (Below.refl _ _).alloc (Nat.le_refl _) _
  obtain ⟨w1, hw1⟩ : ∃ w1, w.alloc (.cells #[.slice nA nn nc, .slice pA pn pc, .slice gA gn gc] 26) = w1 := ⟨_, rfl⟩
  obtain ⟨B, hB⟩ : ∃ B, w.heap.size = B := ⟨_, rfl⟩
  rw [hw1] at hA0 hbW
  have HA1 := hidden (hr.on hbW)
  have HT1 := hidden ((ht.below hbW).more hbW.size)
  rw [hB] at hA0
  have XA := hidden hA0
  have HW1 := hidden hw1
  have HBB := hidden hB
  have HBW := hidden hbW
  have HLN := hidden hl
  have HSM := hidden hs
  have HBY := hidden hb
  have S1 := hidden (fun W (hW : Below w1.heap.size w1 W) => recEnc_any _ W (HA1.out.on hW))
  obtain ⟨sa, ea, hea⟩ : ∃ s e, encRec ⟨⟨nA, nn, nc, nl⟩, ⟨pA, pn, pc, pl⟩, ⟨gA, gn, gc, gl⟩⟩ = (s, e) := ⟨_, _, rfl⟩
  rw [hea] at S1 HSZ
  clear hA0 hw1 hB hbW hr hea ht hl hs hb
  show Calls Tryz.prog 4 #[.agg #[.slice nA nn nc, .slice pA pn pc, .slice gA gn gc], .slice A n c] w _
  go_enter Tryz.func4, Tryz.ntmps4
  go_upto_region 1 with (fail)
  rw [HW1.out, HBB.out]
  go_wp2_with fail
  refine (wakes15_any _).mono ?_
  rintro e w2 ⟨rfl, c2⟩
  have HC2 := hidden c2
  have a0 := (XA.out.below c2 XA.out.lt).cell 0
  have a1 := (XA.out.below c2 XA.out.lt).cell 1
  have a2 := (XA.out.below c2 XA.out.lt).cell 2
  clear c2
  go_wp2_with fail
  refine (S1.out _ HC2.out).mono ?_
  rintro e w3 ⟨rfl, c3⟩
  have HC3 := hidden (HC2.out.trans (c3.mono HC2.out.size))
  have S2 := hidden (turned_any sa A n c l w3 ((HT1.out.below HC3.out).more HC3.out.size) HLN.out hn (by have : sa.size ≤ 1200000000 := HSZ.out; omega) HSM.out HBY.out)
  clear c3 a0 a1 a2 S1 HC2
  go_wp2_with fail
  refine S2.out.mono ?_
  rintro e w4 ⟨T, rfl, hTs, c4⟩
  have HC4 := hidden (HC3.out.trans (c4.mono HC3.out.size))
  have hTl : T.data.toList.length ≤ 4294967296 := by
    have : sa.size ≤ 1200000000 := HSZ.out
    have e : T.data.toList.length = T.size := rfl
    omega
  have HTL := hidden hTl
  have S3 := hidden (rdec_any T.data.toList w4 hTl)
  rw [show (⟨T.data.toList.toArray⟩ : ByteArray) = T from bytes_eq (by simp)] at S3
  clear c4 S2 hTs hTl HC3
  go_wp2_with fail
  refine S3.out.mono ?_
  rintro e w5 ⟨c5, h5⟩
  rcases h5 with ⟨σ, ra, k1, k2, rfl⟩ | ⟨_, rfl⟩
  · obtain ⟨q1, q2, q3⟩ := rightP_some k1
    have hat := k2.At (decP_ok q1) HTL.out
    have hfit : fitRec ra := k2.tells.fit.2 q2
    have hbt : recB ra = T.data.toList := k2.tells.bits.trans q3
    have hen : encRec ra = (T, 0) := by rw [encRec, if_pos hfit, hbt, show (⟨T.data.toList.toArray⟩ : ByteArray) = T from bytes_eq (by simp)]
    obtain ⟨⟨uA, un, uc, ul⟩, ⟨vA, vn, vc, vl⟩, ⟨tA, tn, tc, tl⟩⟩ := ra
    rw [show RecR.val ⟨⟨uA, un, uc, ul⟩, ⟨vA, vn, vc, vl⟩, ⟨tA, tn, tc, tl⟩⟩ = .agg #[.slice uA un uc, .slice vA vn vc, .slice tA tn tc] from rfl]
    have X0 := Whole1.new w5 26 #[.slice uA un uc, .slice vA vn vc, .slice tA tn tc]
    have hb7 : Below w5.heap.size w5 (w5.alloc (.cells #[.slice uA un uc, .slice vA vn vc, .slice tA tn tc] 26)) := (Below.refl _ _).alloc (Nat.le_refl _) _
    obtain ⟨w7, hw7⟩ : ∃ w7, w5.alloc (.cells #[.slice uA un uc, .slice vA vn vc, .slice tA tn tc] 26) = w7 := ⟨_, rfl⟩
    obtain ⟨X, hX⟩ : ∃ X, w5.heap.size = X := ⟨_, rfl⟩
    rw [hw7] at X0 hb7
    rw [hX] at X0
    have c7 := c5.trans (hb7.mono c5.size)
    have HC7 := hidden (HC4.out.trans (c7.mono HC4.out.size))
    have HRA := hidden (hat.on hb7)
    have HXX := hidden X0
    have HFI := hidden hfit
    have S4 := hidden (recEnc_any _ w7 HRA.out)
    rw [hen] at S4
    have HW7 := hidden hw7
    have HX5 := hidden hX
    clear k1 k2 q1 q2 q3 hat hfit hbt hen c5 c7 X0 hb7 hw7 hX S3
    go_upto_region 6 with (fail)
    rw [HW7.out, HX5.out]
    clear HW7 HX5
    have x0 := HXX.out.cell 0
    have x1 := HXX.out.cell 1
    have x2 := HXX.out.cell 2
    go_wp2_with fail
    refine S4.out.mono ?_
    rintro e w8 ⟨rfl, c8⟩
    have HC8 := hidden (HC7.out.trans (c8.mono HC7.out.size))
    have SR := hidden (recRef_of (HRA.out.on c8))
    have x0 := (HXX.out.below c8 HXX.out.lt).cell 0
    have x1 := (HXX.out.below c8 HXX.out.lt).cell 1
    have x2 := (HXX.out.below c8 HXX.out.lt).cell 2
    clear c8 S4
    go_wp2_with fail
    refine SR.out.mono ?_
    rintro e w9 ⟨r', rfl, k1, k2, c9⟩
    have HC9 := hidden (HC8.out.trans (c9.mono HC8.out.size))
    have SF := hidden (rfit_any r' w9 k1)
    rw [decide_eq_true ((k2.fit k1 HRA.out).2 HFI.out)] at SF
    clear c9 k1 k2 x0 x1 x2 SR
    go_wp2_with fail
    refine SF.out.mono ?_
    rintro e wa ⟨rfl, ca⟩
    have HCa := hidden (HC9.out.trans (ca.mono HC9.out.size))
    clear ca SF
    go_wp2_with fail
    go_ret
    exact ⟨rfl, HBW.out.trans (HCa.out.mono HBW.out.size)⟩
  · have X0 := Whole1.new w5 26 #[.slice none 0 0, .slice none 0 0, .slice none 0 0]
    have hb7 : Below w5.heap.size w5 (w5.alloc (.cells #[.slice none 0 0, .slice none 0 0, .slice none 0 0] 26)) := (Below.refl _ _).alloc (Nat.le_refl _) _
    obtain ⟨w7, hw7⟩ : ∃ w7, w5.alloc (.cells #[.slice none 0 0, .slice none 0 0, .slice none 0 0] 26) = w7 := ⟨_, rfl⟩
    obtain ⟨X, hX⟩ : ∃ X, w5.heap.size = X := ⟨_, rfl⟩
    rw [hw7] at X0 hb7
    rw [hX] at X0
    have c7 := c5.trans (hb7.mono c5.size)
    have HC7 := hidden (HC4.out.trans (c7.mono HC4.out.size))
    have HXX := hidden X0
    have HW7 := hidden hw7
    have HX5 := hidden hX
    have SR := hidden (recRef_of (rec_nil w7))
    clear c5 c7 X0 hb7 hw7 hX S3
    go_upto_region 6 with (fail)
    rw [HW7.out, HX5.out]
    clear HW7 HX5
    have x0 := HXX.out.cell 0
    have x1 := HXX.out.cell 1
    have x2 := HXX.out.cell 2
    go_wp2_with fail
    refine SR.out.mono ?_
    rintro e w9 ⟨r', rfl, k1, k2, c9⟩
    have HC9 := hidden (HC7.out.trans (c9.mono HC7.out.size))
    have SF := hidden (ralike_any r' ⟨Sl.nil, Sl.nil, Sl.nil⟩ w9 k1 (rec_nil w9))
    have k3 : sameRec r' ⟨Sl.nil, Sl.nil, Sl.nil⟩ := k2
    rw [decide_eq_true k3] at SF
    clear c9 k1 k2 k3 x0 x1 x2 SR
    go_wp2_with fail
    refine SF.out.mono ?_
    rintro e wa ⟨rfl, ca⟩
    have HCa := hidden (HC9.out.trans (ca.mono HC9.out.size))
    clear ca SF
    go_wp2_with fail
    go_ret
    exact ⟨rfl, HBW.out.trans (HCa.out.mono HBW.out.size)⟩

theorem recordOne_walk {H : Type} (enc : TypeId × Value → H) : LawWalk enc Tryz.prog 4 Tryz.f4 (fun ds => Rows.uptoBulkAll ds ≤ 1048576) := by
  intro W base args ds p hval hA hlt hsz hcond
  rw [Tryz.params4] at hval hA hsz
  obtain ⟨v0, vs0, d0, ds0, p0, q0, hargs, rfl, rfl, h0, r0⟩ := trodAll_cons hA
  obtain ⟨v1, vs1, d1, ds1, p1, q1, rfl, rfl, rfl, h1, r1⟩ := trodAll_cons r0
  obtain ⟨rfl, rfl, rfl⟩ := trodAll_nil r1
  obtain rfl : args = #[v0, v1] := by cases args; simp_all
  obtain ⟨a, rfl, ha, ka⟩ := open_rec (hval 0 26 v0 rfl rfl) h0 (arg_fits (b := 1048576) (j := 0) rfl rfl (fun x hx => hlt x (by simp [hx])) hsz hcond)
  obtain ⟨s, rfl, ⟨hs1, hs2, _, hs3⟩, hs4⟩ := open_arg_slice_b (k := 3) (f := Trn.cells) Tryz.underlying42 (by kernel_rfl) (by decide) (fun _ => rfl) opens_trn (hval 1 42 v1 rfl rfl) h1 (arg_fits (b := 1048576) (j := 1) rfl rfl (fun x hx => hlt x (by simp [hx])) hsz hcond)
  exact recordOne_any a s.A s.n s.c s.l W ha ka hs1.2.2 hs1.2.1 hs3 hs4 hs2

namespace recordOneUpto
set_option maxRecDepth 100000 in
theorem lifted (os : Os) (started : os.Started) (H : Type) (enc : TypeId × Value → H) (F : Stop.Interp) :
    ReturnsInHanded {} Tryz.checked os 4 .any ((Rows.OpenSpec.upto Rows.recordOneSpec).pre6 enc Tryz.prog Tryz.f4 Rows.recordOneUptoRow.domain false) (((Rows.OpenSpec.upto Rows.recordOneSpec).at F).post enc Tryz.prog Tryz.f4 false true false false) :=
  law_upto (C := Tryz.checked) (s := Rows.recordOneSpec) (tb := 4) own_prog started (by kernel_rfl) Tryz.func4
    (OpenSpec.witness (enc := enc) (C := Tryz.checked) (s := Rows.OpenSpec.upto Rows.recordOneSpec) (k := Rows.uptoSmall) rfl false ⟨#[], #[.agg #[.slice none 0 0, .slice none 0 0, .slice none 0 0], .slice none 0 0], []⟩ 8 (by kernel_rfl) (by kernel_rfl) (by kernel_rfl)
      (x := ([.agg [.nil, .nil, .nil], .nil], [], [])) (by kernel_rfl) rfl (by kernel_rfl))
    laidOut (by kernel_rfl) rfl Tryz.underlying4 ⟨rfl, fun H ds h => match ds, h with | [_, _], _ => ⟨rfl, rfl, rfl⟩⟩ (recordOne_walk enc)

theorem proved : Rows.RecordOneUptoSaid :=
  OpenClaim.holds_of_cond 4 Tryz.f4 rfl rfl rfl rfl rfl rfl rfl ⟨rfl, rfl, rfl, rfl, rfl⟩ rfl rfl rfl rfl rfl (by kernel_rfl) Tryz.func4 (by kernel_rfl)
    (of_decide_eq_true (by kernel_rfl)) (by unfold Func.isWrapper; first | (rw [if_pos (by decide +kernel)]; kernel_rfl) | (rw [if_neg (by decide +kernel)]; exact ⟨rfl, rfl⟩))
    (fun os started H enc _ F => lifted os started H enc F)
#print axioms proved
end recordOneUpto

end Go.Proofs.YtdggnnjjiolldaaGreat
