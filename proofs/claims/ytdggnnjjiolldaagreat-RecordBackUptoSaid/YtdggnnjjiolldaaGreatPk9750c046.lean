/- RecordBack: a fit record is read back from its bytes, any other is refused. Condition: the arguments are within the bulk that the statement names. -/
import Derived.Test.YtdggnnjjiolldaaGreatPkc63d8a15
import Derived.Test.YtdggnnjjiolldaaGreatPke2a0a29b
import Derived.Deep.RegionLaw
namespace Go.Proofs.YtdggnnjjiolldaaGreat
set_option maxRecDepth 100000
open Go.RowKit Go.WideShapes Go.ChangeShapes Go.Shelf

theorem recRef_of {nA pA gA : Option Addr} {nn nc pn pc gn gc : Nat} {nl : List NewR} {pl : List PntR} {gl : List GonR} {w : World} (h : RecR.At w ⟨⟨nA, nn, nc, nl⟩, ⟨pA, pn, pc, pl⟩, ⟨gA, gn, gc, gl⟩⟩) :
    Calls Tryz.prog 8 #[.agg #[.slice nA nn nc, .slice pA pn pc, .slice gA gn gc]] w fun e w' => ∃ r' : RecR, e = .returned r'.val ∧ r'.At w' ∧ sameRec r' ⟨⟨nA, nn, nc, nl⟩, ⟨pA, pn, pc, pl⟩, ⟨gA, gn, gc, gl⟩⟩ ∧ Below w.heap.size w w' :=
  (recRef_any _ w h).mono fun _ _ ⟨r', h1, h2, h3, h4, h5, h6⟩ => ⟨r', h1, h2, ⟨h3, h4, h5⟩, h6⟩
theorem sameRec.trans {a b c : RecR} (h : sameRec a b) (k : sameRec b c) : sameRec a c := ⟨h.1.trans k.1, h.2.1.trans k.2.1, h.2.2.trans k.2.2⟩
theorem sameRec.symm {a b : RecR} (h : sameRec a b) : sameRec b a := ⟨h.1.symm, h.2.1.symm, h.2.2.symm⟩
theorem sameRec.fit {a b : RecR} {w w' : World} (h : sameRec a b) (ha : a.At w) (hb : b.At w') : fitRec a ↔ fitRec b := by
  have ta : Tells a ⟨0, b.news.l.map newV, b.pts.l, pnt0, b.gones.l.map gonV⟩ := ⟨h.1, h.2.1, h.2.2, ha.news.2.1.symm, ha.pts.2.1.symm, ha.gones.2.1.symm⟩
  have tb : Tells b ⟨0, b.news.l.map newV, b.pts.l, pnt0, b.gones.l.map gonV⟩ := ⟨rfl, rfl, rfl, hb.news.2.1.symm, hb.pts.2.1.symm, hb.gones.2.1.symm⟩
  exact ta.fit.trans tb.fit.symm

open Classical in
set_option maxHeartbeats 6400000 in
theorem recordBack_any (r : RecR) (w : World) (hr : r.At w) (kr : r.few') :
    Calls Tryz.prog 3 #[r.val] w fun e w' => e = .returned (.bool true) ∧ Below w.heap.size w w' := by
  have HK := hidden kr
  have HR := hidden hr
  clear kr
  obtain ⟨⟨nA, nn, nc, nl⟩, ⟨pA, pn, pc, pl⟩, ⟨gA, gn, gc, gl⟩⟩ := r
  have hA0 := Whole1.new w 26 #[.slice nA nn nc, .slice pA pn pc, .slice gA gn gc]
  have hbW : Below w.heap.size w (w.alloc (.cells #[.slice nA nn nc, .slice pA pn pc, .slice gA gn gc] 26)) := (Below.refl _ _).alloc (Nat.le_refl _) _
  obtain ⟨w1, hw1⟩ : ∃ w1, w.alloc (.cells #[.slice nA nn nc, .slice pA pn pc, .slice gA gn gc] 26) = w1 := ⟨_, rfl⟩
  obtain ⟨B, hB⟩ : ∃ B, w.heap.size = B := ⟨_, rfl⟩
  rw [hw1] at hA0 hbW
  have HA1 := hidden (hr.on hbW)
  rw [hB] at hA0
  have XA := hidden hA0
  have HW1 := hidden hw1
  have HBB := hidden hB
  have HBW := hidden hbW
  have a0 := hA0.cell 0
  have a1 := hA0.cell 1
  have a2 := hA0.cell 2
  have S1 := hidden (recEnc_any _ w1 HA1.out)
  obtain ⟨sa, ea, hea⟩ : ∃ s e, encRec ⟨⟨nA, nn, nc, nl⟩, ⟨pA, pn, pc, pl⟩, ⟨gA, gn, gc, gl⟩⟩ = (s, e) := ⟨_, _, rfl⟩
  rw [hea] at S1
  have HEA := hidden hea
  clear hA0 hw1 hB hbW hr hea
  show Calls Tryz.prog 3 #[.agg #[.slice nA nn nc, .slice pA pn pc, .slice gA gn gc]] w _
  go_enter Tryz.func3, Tryz.ntmps3
  go_upto_region 1 with (fail)
  rw [HW1.out, HBB.out]
  go_wp2_with fail
  refine S1.out.mono ?_
  rintro e w2 ⟨rfl, c2⟩
  have HC2 := hidden c2
  clear c2 a0 a1 a2 S1
  go_wp2_with fail
  refine (wakes15_any _).mono ?_
  rintro e w3 ⟨rfl, c3⟩
  have HC3 := hidden (HC2.out.trans (c3.mono HC2.out.size))
  have a0 := (XA.out.below HC3.out XA.out.lt).cell 0
  have a1 := (XA.out.below HC3.out XA.out.lt).cell 1
  have a2 := (XA.out.below HC3.out XA.out.lt).cell 2
  have SR := hidden (recRef_of (HA1.out.on HC3.out))
  clear c3 HC2
  go_wp2_with fail
  refine SR.out.mono ?_
  rintro e w4 ⟨r', rfl, k1, k2, c4⟩
  have HC4 := hidden (HC3.out.trans (c4.mono HC3.out.size))
  have HFI := hidden (k2.fit k1 HR.out)
  have SF := hidden (rfit_any r' w4 k1)
  clear c4 k1 k2 a0 a1 a2 SR HC3
  go_wp2_with fail
  refine SF.out.mono ?_
  rintro e w5 ⟨rfl, c5⟩
  have HC5 := hidden (HC4.out.trans (c5.mono HC4.out.size))
  clear c5 SF HC4
  by_cases hfit : fitRec ⟨⟨nA, nn, nc, nl⟩, ⟨pA, pn, pc, pl⟩, ⟨gA, gn, gc, gl⟩⟩
  · rw [decide_eq_true (HFI.out.2 hfit)]
    obtain ⟨σ, hσ, htl, hlen⟩ := rightP_at HR.out hfit HK.out
    obtain ⟨s, hs⟩ : ∃ s, recB ⟨⟨nA, nn, nc, nl⟩, ⟨pA, pn, pc, pl⟩, ⟨gA, gn, gc, gl⟩⟩ = s := ⟨_, rfl⟩
    have hE := HEA.out
    rw [encRec, if_pos hfit, hs] at hE
    simp only [Prod.mk.injEq] at hE
    obtain ⟨hsa, rfl⟩ := hE
    have hpos : s ≠ [] := by
      rw [← hs, htl.bits]
      have := bitsP_pos σ
      intro h
      rw [h] at this
      cases this
    rw [hs] at hσ hlen
    have S2 := hidden (rdec_any s w5 hlen)
    rw [hsa] at S2
    have hemp : sa.toList.isEmpty = false := by
      rw [← hsa]
      cases s with
      | nil => exact absurd rfl hpos
      | cons x l => simp
    have HSG := hidden hσ
    have HTL := hidden htl
    have hlenS := hidden hlen
    clear hσ htl hlen hs hsa hfit HEA hpos HFI
    go_wp2_with fail
    refine S2.out.mono ?_
    rintro e w6 ⟨c6, h6⟩
    rcases h6 with ⟨σ', ra, k1, k2, rfl⟩ | ⟨k1, _⟩
    rotate_left
    · rw [HSG.out] at k1; cases k1
    obtain rfl : σ = σ' := Option.some.inj (HSG.out.symm.trans k1)
    obtain ⟨⟨uA, un, uc, ul⟩, ⟨vA, vn, vc, vl⟩, ⟨tA, tn, tc, tl⟩⟩ := ra
    rw [show RecR.val ⟨⟨uA, un, uc, ul⟩, ⟨vA, vn, vc, vl⟩, ⟨tA, tn, tc, tl⟩⟩ = .agg #[.slice uA un uc, .slice vA vn vc, .slice tA tn tc] from rfl]
    have X0 := Whole1.new w6 26 #[.slice uA un uc, .slice vA vn vc, .slice tA tn tc]
    have hb7 : Below w6.heap.size w6 (w6.alloc (.cells #[.slice uA un uc, .slice vA vn vc, .slice tA tn tc] 26)) := (Below.refl _ _).alloc (Nat.le_refl _) _
    obtain ⟨w7, hw7⟩ : ∃ w7, w6.alloc (.cells #[.slice uA un uc, .slice vA vn vc, .slice tA tn tc] 26) = w7 := ⟨_, rfl⟩
    obtain ⟨X, hX⟩ : ∃ X, w6.heap.size = X := ⟨_, rfl⟩
    rw [hw7] at X0 hb7
    rw [hX] at X0
    have c7 := c6.trans (hb7.mono c6.size)
    have HC7 := hidden (HC5.out.trans (c7.mono HC5.out.size))
    have HRA := hidden (((k2.on hb7)).At (decP_ok (rightP_some HSG.out).1) hlenS.out)
    have HRB := hidden (HA1.out.on HC7.out)
    have HSR := hidden (show sameRec ⟨⟨uA, un, uc, ul⟩, ⟨vA, vn, vc, vl⟩, ⟨tA, tn, tc, tl⟩⟩ ⟨⟨nA, nn, nc, nl⟩, ⟨pA, pn, pc, pl⟩, ⟨gA, gn, gc, gl⟩⟩ from ⟨k2.nv.trans HTL.out.nv.symm, k2.pv.trans HTL.out.pv.symm, k2.gv.trans HTL.out.gv.symm⟩)
    have HXX := hidden X0
    have HW7 := hidden hw7
    have HX6 := hidden hX
    have HSM := hidden (fun (ra rb : RecR) (h1 : sameRec ra ⟨⟨uA, un, uc, ul⟩, ⟨vA, vn, vc, vl⟩, ⟨tA, tn, tc, tl⟩⟩) (h2 : sameRec rb ⟨⟨nA, nn, nc, nl⟩, ⟨pA, pn, pc, pl⟩, ⟨gA, gn, gc, gl⟩⟩) => decide_eq_true (h1.trans (HSR.out.trans h2.symm)))
    clear k1 k2 c6 c7 X0 hb7 hw7 hX S2
    go_upto_region 7 with (fail)
    rw [HW7.out, HX6.out]
    clear HW7 HX6
    have SA := hidden (fun W (hW : RecR.At W ⟨⟨uA, un, uc, ul⟩, ⟨vA, vn, vc, vl⟩, ⟨tA, tn, tc, tl⟩⟩) => recRef_of hW)
    have SB := hidden (fun W (hW : RecR.At W ⟨⟨nA, nn, nc, nl⟩, ⟨pA, pn, pc, pl⟩, ⟨gA, gn, gc, gl⟩⟩) => recRef_of hW)
    have HS := hidden (fun W (hW : Below w7.heap.size w7 W) => (⟨(HXX.out.below hW HXX.out.lt).cell 0, (HXX.out.below hW HXX.out.lt).cell 1, (HXX.out.below hW HXX.out.lt).cell 2, (XA.out.below (HC7.out.trans (hW.mono HC7.out.size)) XA.out.lt).cell 0, (XA.out.below (HC7.out.trans (hW.mono HC7.out.size)) XA.out.lt).cell 1, (XA.out.below (HC7.out.trans (hW.mono HC7.out.size)) XA.out.lt).cell 2⟩ : W.cell? ⟨X, 0, none⟩ = some (.slice uA un uc) ∧ W.cell? ⟨X, 1, none⟩ = some (.slice vA vn vc) ∧ W.cell? ⟨X, 2, none⟩ = some (.slice tA tn tc) ∧ W.cell? ⟨B, 0, none⟩ = some (.slice nA nn nc) ∧ W.cell? ⟨B, 1, none⟩ = some (.slice pA pn pc) ∧ W.cell? ⟨B, 2, none⟩ = some (.slice gA gn gc)))
    have HAW := hidden (fun W (hW : Below w7.heap.size w7 W) => HRA.out.on hW)
    have HBV := hidden (fun W (hW : Below w7.heap.size w7 W) => HRB.out.on hW)
    go_region_held3 (fun W => W.cell? ⟨X, 0, none⟩ = some (.slice uA un uc) ∧ W.cell? ⟨X, 1, none⟩ = some (.slice vA vn vc) ∧ W.cell? ⟨X, 2, none⟩ = some (.slice tA tn tc) ∧ W.cell? ⟨B, 0, none⟩ = some (.slice nA nn nc) ∧ W.cell? ⟨B, 1, none⟩ = some (.slice pA pn pc) ∧ W.cell? ⟨B, 2, none⟩ = some (.slice gA gn gc))
      (first | exact HS.out _ (Below.refl _ _) | exact HS.out _ (Below.refl _ _).drew | exact HS.out _ (by assumption))
      (first
        | (go_at_call 10; refine (ralike_any ra rb _ HRa.out HRb.out).mono ?_; rintro e w' ⟨rfl, c7⟩; rw [HSM.out ra rb HMa.out HMb.out]; have kz : Below w7.heap.size w7 w' := ky.trans (c7.mono ky.size); have HKZ := hidden kz; clear c7)
        | (go_at_call 8; refine (SB.out _ (HBV.out _ kxa)).mono ?_; rintro e w' ⟨rb, rfl, h1, h2, c6⟩; have HRb := hidden h1; have HMb := hidden h2; have HRa := hidden (HRa5.out.on c6); have ky : Below w7.heap.size w7 w' := kxa.trans (c6.mono kxa.size); clear c6 h1 h2 kxa)
        | (go_at_call 8; refine (SA.out _ (HAW.out _ kxb)).mono ?_; rintro e w' ⟨ra, rfl, h1, h2, c6⟩; have HRa := hidden h1; have HMa := hidden h2; have HRb := hidden (HRb5.out.on c6); have ky : Below w7.heap.size w7 w' := kxb.trans (c6.mono kxb.size); clear c6 h1 h2 kxb)
        | (go_at_call 8; refine (SA.out _ (HAW.out _ (Below.refl _ _).drew)).mono ?_; rintro e w' ⟨ra, rfl, h1, h2, c5⟩; have HRa5 := hidden h1; have HMa := hidden h2; have kxa : Below w7.heap.size w7 w' := (Below.refl _ _).drew.trans c5; clear c5 h1 h2)
        | (go_at_call 8; refine (SB.out _ (HBV.out _ (Below.refl _ _).drew)).mono ?_; rintro e w' ⟨rb, rfl, h1, h2, c5⟩; have HRb5 := hidden h1; have HMb := hidden h2; have kxb : Below w7.heap.size w7 w' := (Below.refl _ _).drew.trans c5; clear c5 h1 h2))
    all_goals
      go_wp2_with fail
      go_ret
      exact ⟨rfl, HBW.out.trans ((HC7.out.trans (HKZ.out.mono HC7.out.size)).mono HBW.out.size)⟩
  · rw [decide_eq_false fun h => hfit (HFI.out.1 h)]
    have hE := HEA.out
    rw [encRec, if_neg hfit] at hE
    simp only [Prod.mk.injEq] at hE
    obtain ⟨rfl, rfl⟩ := hE
    clear hfit HEA HFI
    go_wp2_with fail
    go_ret
    exact ⟨rfl, HBW.out.trans (HC5.out.mono HBW.out.size)⟩

theorem recordBack_walk {H : Type} (enc : TypeId × Value → H) : LawWalk enc Tryz.prog 3 Tryz.f3 (fun ds => Rows.uptoBulkAll ds ≤ 1048576) := by
  intro W base args ds p hval hA hlt hsz hcond
  rw [Tryz.params3] at hval hA hsz
  obtain ⟨v0, vs0, d0, ds0, p0, q0, hargs, rfl, rfl, h0, r0⟩ := trodAll_cons hA
  obtain ⟨rfl, rfl, rfl⟩ := trodAll_nil r0
  obtain rfl : args = #[v0] := by cases args; simp_all
  obtain ⟨a, rfl, ha, ka⟩ := open_rec (hval 0 26 v0 rfl rfl) h0 (arg_fits (b := 1048576) (j := 0) rfl rfl (fun x hx => hlt x (by simp [hx])) hsz hcond)
  exact recordBack_any a W ha ka

namespace recordBackUpto
set_option maxRecDepth 100000 in
theorem lifted (os : Os) (started : os.Started) (H : Type) (enc : TypeId × Value → H) (F : Stop.Interp) :
    ReturnsInHanded {} Tryz.checked os 3 .any ((Rows.OpenSpec.upto Rows.recordBackSpec).pre6 enc Tryz.prog Tryz.f3 Rows.recordBackUptoRow.domain false) (((Rows.OpenSpec.upto Rows.recordBackSpec).at F).post enc Tryz.prog Tryz.f3 false true false false) :=
  law_upto (C := Tryz.checked) (s := Rows.recordBackSpec) (tb := 4) own_prog started (by kernel_rfl) Tryz.func3
    (OpenSpec.witness (enc := enc) (C := Tryz.checked) (s := Rows.OpenSpec.upto Rows.recordBackSpec) (k := Rows.uptoSmall) rfl false ⟨#[], #[.agg #[.slice none 0 0, .slice none 0 0, .slice none 0 0]], []⟩ 8 (by kernel_rfl) (by kernel_rfl) (by kernel_rfl)
      (x := ([.agg [.nil, .nil, .nil]], [], [])) (by kernel_rfl) rfl (by kernel_rfl))
    laidOut (by kernel_rfl) rfl Tryz.underlying4 ⟨rfl, fun H ds h => match ds, h with | [_], _ => ⟨rfl, rfl, rfl⟩⟩ (recordBack_walk enc)

theorem proved : Rows.RecordBackUptoSaid :=
  OpenClaim.holds_of_cond 3 Tryz.f3 rfl rfl rfl rfl rfl rfl rfl ⟨rfl, rfl, rfl, rfl, rfl⟩ rfl rfl rfl rfl rfl (by kernel_rfl) Tryz.func3 (by kernel_rfl)
    (of_decide_eq_true (by kernel_rfl)) (by unfold Func.isWrapper; first | (rw [if_pos (by decide +kernel)]; kernel_rfl) | (rw [if_neg (by decide +kernel)]; exact ⟨rfl, rfl⟩))
    (fun os started H enc _ F => lifted os started H enc F)
#print axioms proved
end recordBackUpto

end Go.Proofs.YtdggnnjjiolldaaGreat
