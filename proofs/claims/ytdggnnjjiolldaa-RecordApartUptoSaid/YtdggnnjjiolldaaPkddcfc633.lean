/- RecordApart: alike records have the same bytes, unlike ones others. Condition: the arguments are within the bulk that the statement names. -/
import Derived.Test.YtdggnnjjiolldaaPkc63d8a15
import Derived.Deep.RegionLaw
namespace Go.Proofs.Ytdggnnjjiolldaa
set_option maxRecDepth 100000
open Go.RowKit Go.WideShapes Go.ChangeShapes Go.Shelf

theorem same_bits {a b : RecR} (h : sameRec a b) : recB a = recB b := by
  obtain ⟨h1, h2, h3⟩ := h
  have e1 : ∀ r : RecR, newsB r.news.l = (r.news.l.map newV).flatMap newBv := fun r => by rw [List.flatMap_map]; rfl
  have e2 : ∀ r : RecR, gonsB r.gones.l = (r.gones.l.map gonV).flatMap gonBv := fun r => by rw [List.flatMap_map]; rfl
  have l1 := congrArg List.length h1
  have l3 := congrArg List.length h3
  rw [List.length_map, List.length_map] at l1 l3
  rw [recB, recB, e1, e1, e2, e2, h1, h2, h3, l1, l3]
theorem bits_same {a b : RecR} {w : World} (ha : a.At w) (hb : b.At w) (fa : fitRec a) (fb : fitRec b) (ka : a.few') (kb : b.few') (h : recB a = recB b) : sameRec a b := by
  obtain ⟨σ, s1, t1, _⟩ := rightP_at ha fa ka
  obtain ⟨τ, s2, t2, _⟩ := rightP_at hb fb kb
  rw [h, s2] at s1
  obtain rfl := Option.some.inj s1
  exact ⟨t1.nv.trans t2.nv.symm, t1.pv.trans t2.pv.symm, t1.gv.trans t2.gv.symm⟩
theorem recRef_of {nA pA gA : Option Addr} {nn nc pn pc gn gc : Nat} {nl : List NewR} {pl : List PntR} {gl : List GonR} {w : World} (h : RecR.At w ⟨⟨nA, nn, nc, nl⟩, ⟨pA, pn, pc, pl⟩, ⟨gA, gn, gc, gl⟩⟩) :
    Calls Try.prog 9 #[.agg #[.slice nA nn nc, .slice pA pn pc, .slice gA gn gc]] w fun e w' => ∃ r' : RecR, e = .returned r'.val ∧ r'.At w' ∧ sameRec r' ⟨⟨nA, nn, nc, nl⟩, ⟨pA, pn, pc, pl⟩, ⟨gA, gn, gc, gl⟩⟩ ∧ Below w.heap.size w w' :=
  (recRef_any _ w h).mono fun _ _ ⟨r', h1, h2, h3, h4, h5, h6⟩ => ⟨r', h1, h2, ⟨h3, h4, h5⟩, h6⟩
theorem sameRec.trans {a b c : RecR} (h : sameRec a b) (k : sameRec b c) : sameRec a c := ⟨h.1.trans k.1, h.2.1.trans k.2.1, h.2.2.trans k.2.2⟩
theorem sameRec.symm {a b : RecR} (h : sameRec a b) : sameRec b a := ⟨h.1.symm, h.2.1.symm, h.2.2.symm⟩

open Classical in
theorem alike_dec {ra rb a b : RecR} {V : Bool} (hV : V = true ↔ sameRec a b) (h1 : sameRec ra a) (h2 : sameRec rb b) : decide (sameRec ra rb) = V := by
  cases V with
  | true => exact decide_eq_true (h1.trans ((hV.1 rfl).trans h2.symm))
  | false => exact decide_eq_false fun h => by have := hV.2 (h1.symm.trans (h.trans h2)); cases this
set_option maxHeartbeats 6400000 in
theorem recordApart_any (a b : RecR) (w : World) (ha : a.At w) (hb : b.At w) (ka : a.few') (kb : b.few') :
    Calls Try.prog 3 #[a.val, b.val] w fun e w' => e = .returned (.bool true) ∧ Below w.heap.size w w' := by
  have HK := hidden (And.intro ka kb)
  have HS := hidden (fun fa fb => bits_same ha hb fa fb ka kb)
  have HS2 := hidden (@same_bits a b)
  clear ka kb
  obtain ⟨⟨nA, nn, nc, nl⟩, ⟨pA, pn, pc, pl⟩, ⟨gA, gn, gc, gl⟩⟩ := a
  obtain ⟨⟨mA, mn, mc, ml⟩, ⟨qA, qn, qc, ql⟩, ⟨kA, kn, kc, kl⟩⟩ := b
  have hA0 := (Whole1.new w 26 #[.slice nA nn nc, .slice pA pn pc, .slice gA gn gc]).alloc (.cells #[.slice mA mn mc, .slice qA qn qc, .slice kA kn kc] 26)
  have hB0 := Whole1.new (w.alloc (.cells #[.slice nA nn nc, .slice pA pn pc, .slice gA gn gc] 26)) 26 #[.slice mA mn mc, .slice qA qn qc, .slice kA kn kc]
  have hbW : Below w.heap.size w ((w.alloc (.cells #[.slice nA nn nc, .slice pA pn pc, .slice gA gn gc] 26)).alloc (.cells #[.slice mA mn mc, .slice qA qn qc, .slice kA kn kc] 26)) := ((Below.refl _ _).alloc (Nat.le_refl _) _).alloc (by simp [World.size_alloc]) _
  obtain ⟨w1, hw1⟩ : ∃ w1, (w.alloc (.cells #[.slice nA nn nc, .slice pA pn pc, .slice gA gn gc] 26)).alloc (.cells #[.slice mA mn mc, .slice qA qn qc, .slice kA kn kc] 26) = w1 := ⟨_, rfl⟩
  obtain ⟨B, hB⟩ : ∃ B, w.heap.size = B := ⟨_, rfl⟩
  rw [World.size_alloc] at hB0
  rw [hw1] at hA0 hB0 hbW
  have HA1 := hidden (ha.on hbW)
  have HB1 := hidden (hb.on hbW)
  rw [hB] at hA0 hB0
  have XA := hidden hA0
  have XB := hidden hB0
  have HW1 := hidden hw1
  have HBB := hidden hB
  have HBW := hidden hbW
  have a0 := hA0.cell 0
  have a1 := hA0.cell 1
  have a2 := hA0.cell 2
  have S1 := hidden (fun W (hW : Below w1.heap.size w1 W) => recEnc_any _ W (HA1.out.on hW))
  have S2 := hidden (fun W (hW : Below w1.heap.size w1 W) => recEnc_any _ W (HB1.out.on hW))
  obtain ⟨sa, ea, hea⟩ : ∃ s e, encRec ⟨⟨nA, nn, nc, nl⟩, ⟨pA, pn, pc, pl⟩, ⟨gA, gn, gc, gl⟩⟩ = (s, e) := ⟨_, _, rfl⟩
  obtain ⟨sb, eb, heb⟩ : ∃ s e, encRec ⟨⟨mA, mn, mc, ml⟩, ⟨qA, qn, qc, ql⟩, ⟨kA, kn, kc, kl⟩⟩ = (s, e) := ⟨_, _, rfl⟩
  rw [hea] at S1
  rw [heb] at S2
  have HEA := hidden hea
  have HEB := hidden heb
  clear hA0 hB0 hw1 hB hbW ha hb hea heb
  show Calls Try.prog 3 #[.agg #[.slice nA nn nc, .slice pA pn pc, .slice gA gn gc], .agg #[.slice mA mn mc, .slice qA qn qc, .slice kA kn kc]] w _
  go_enter Try.func3, Try.ntmps3
  go_upto_region 1 with (fail)
  rw [HW1.out, HBB.out]
  go_wp2_with fail
  refine (S1.out _ (Below.refl _ _)).mono ?_
  rintro e w2 ⟨rfl, c2⟩
  have HC2 := hidden c2
  have b0 := (XB.out.below c2 XB.out.lt).cell 0
  have b1 := (XB.out.below c2 XB.out.lt).cell 1
  have b2 := (XB.out.below c2 XB.out.lt).cell 2
  clear c2 a0 a1 a2 S1
  go_wp2_with fail
  refine (S2.out _ HC2.out).mono ?_
  rintro e w3 ⟨rfl, c3⟩
  have HC3 := hidden (HC2.out.trans (c3.mono HC2.out.size))
  clear c3 b0 b1 b2 S2 HC2
  go_wp2_with fail
  refine (wakes15_any _).mono ?_
  rintro e w4 ⟨rfl, c4⟩
  have HC4 := hidden (HC3.out.trans (c4.mono HC3.out.size))
  clear c4 HC3
  by_cases hfit : fitRec ⟨⟨nA, nn, nc, nl⟩, ⟨pA, pn, pc, pl⟩, ⟨gA, gn, gc, gl⟩⟩ ∧ fitRec ⟨⟨mA, mn, mc, ml⟩, ⟨qA, qn, qc, ql⟩, ⟨kA, kn, kc, kl⟩⟩
  · obtain ⟨fa, fb⟩ := hfit
    obtain ⟨V, hV⟩ : ∃ V : Bool, (V = true ↔ sameRec ⟨⟨nA, nn, nc, nl⟩, ⟨pA, pn, pc, pl⟩, ⟨gA, gn, gc, gl⟩⟩ ⟨⟨mA, mn, mc, ml⟩, ⟨qA, qn, qc, ql⟩, ⟨kA, kn, kc, kl⟩⟩) := by
      by_cases h : sameRec ⟨⟨nA, nn, nc, nl⟩, ⟨pA, pn, pc, pl⟩, ⟨gA, gn, gc, gl⟩⟩ ⟨⟨mA, mn, mc, ml⟩, ⟨qA, qn, qc, ql⟩, ⟨kA, kn, kc, kl⟩⟩
      · exact ⟨true, by simp [h]⟩
      · exact ⟨false, by simp [h]⟩
    obtain ⟨rfl, rfl, hss⟩ : ea = 0 ∧ eb = 0 ∧ (sa.toList == sb.toList) = V := by
      have h1 := HEA.out
      have h2 := HEB.out
      rw [encRec, if_pos fa] at h1
      rw [encRec, if_pos fb] at h2
      simp only [Prod.mk.injEq] at h1 h2
      refine ⟨h1.2.symm, h2.2.symm, ?_⟩
      rw [← h1.1, ← h2.1]
      cases V with
      | true => have := HS2.out (hV.1 rfl); rw [this]; exact beq_self_eq_true _
      | false =>
        have hn : ¬ recB ⟨⟨nA, nn, nc, nl⟩, ⟨pA, pn, pc, pl⟩, ⟨gA, gn, gc, gl⟩⟩ = recB ⟨⟨mA, mn, mc, ml⟩, ⟨qA, qn, qc, ql⟩, ⟨kA, kn, kc, kl⟩⟩ := fun h => by
          have := hV.2 (HS.out fa fb h)
          cases this
        simpa using hn
    have HVV := hidden hV
    have hvv : (V == V) = true := beq_self_eq_true _
    clear fa fb HS HS2 HEA HEB hV
    have SA := hidden (fun W (hW : RecR.At W ⟨⟨nA, nn, nc, nl⟩, ⟨pA, pn, pc, pl⟩, ⟨gA, gn, gc, gl⟩⟩) => recRef_of hW)
    have SB := hidden (fun W (hW : RecR.At W ⟨⟨mA, mn, mc, ml⟩, ⟨qA, qn, qc, ql⟩, ⟨kA, kn, kc, kl⟩⟩) => recRef_of hW)
    have HA5 := hidden (HA1.out.on (HC4.out.trans ((Below.refl _ _).drew.mono HC4.out.size)))
    have HB5 := hidden (HB1.out.on (HC4.out.trans ((Below.refl _ _).drew.mono HC4.out.size)))
    have x0 := (XA.out.below HC4.out XA.out.lt).cell 0
    have x1 := (XA.out.below HC4.out XA.out.lt).cell 1
    have x2 := (XA.out.below HC4.out XA.out.lt).cell 2
    have y0 := (XB.out.below HC4.out XB.out.lt).cell 0
    have y1 := (XB.out.below HC4.out XB.out.lt).cell 1
    have y2 := (XB.out.below HC4.out XB.out.lt).cell 2
    have HSM := hidden (fun (ra rb : RecR) h1 h2 => alike_dec (ra := ra) (rb := rb) HVV.out h1 h2)
    go_wp2_with fail
    go_region_law (first
      | (go_simp; go_at_call 8; refine (ralike_any ra rb _ HRa.out HRb.out).mono ?_; rintro e w' ⟨rfl, c7⟩; rw [HSM.out ra rb HMa.out HMb.out]; have HC7 := hidden (HC6.out.trans (c7.mono HC6.out.size)); clear c7)
      | (go_simp; go_at_call 9; refine (SB.out _ HB6.out).mono ?_; rintro e w' ⟨rb, rfl, h1, h2, c6⟩; have HRb := hidden h1; have HMb := hidden h2; have HRa := hidden (HRa5.out.on c6); have HC6 := hidden (HC5.out.trans (c6.mono HC5.out.size)); clear c6 h1 h2)
      | (go_simp; go_at_call 9; refine (SA.out _ HA6.out).mono ?_; rintro e w' ⟨ra, rfl, h1, h2, c6⟩; have HRa := hidden h1; have HMa := hidden h2; have HRb := hidden (HRb5.out.on c6); have HC6 := hidden (HC5.out.trans (c6.mono HC5.out.size)); clear c6 h1 h2)
      | (go_simp; go_at_call 9; refine (SA.out _ HA5.out).mono ?_; rintro e w' ⟨ra, rfl, h1, h2, c5⟩; have HRa5 := hidden h1; have HMa := hidden h2; have HB6 := hidden (HB5.out.on c5); have HC5 := hidden (HC4.out.trans (((Below.refl _ _).drew.trans c5).mono HC4.out.size)); have v0 := (XA.out.below HC5.out XA.out.lt).cell 0; have v1 := (XA.out.below HC5.out XA.out.lt).cell 1; have v2 := (XA.out.below HC5.out XA.out.lt).cell 2; have z0 := (XB.out.below HC5.out XB.out.lt).cell 0; have z1 := (XB.out.below HC5.out XB.out.lt).cell 1; have z2 := (XB.out.below HC5.out XB.out.lt).cell 2; clear c5 h1 h2)
      | (go_simp; go_at_call 9; refine (SB.out _ HB5.out).mono ?_; rintro e w' ⟨rb, rfl, h1, h2, c5⟩; have HRb5 := hidden h1; have HMb := hidden h2; have HA6 := hidden (HA5.out.on c5); have HC5 := hidden (HC4.out.trans (((Below.refl _ _).drew.trans c5).mono HC4.out.size)); have v0 := (XA.out.below HC5.out XA.out.lt).cell 0; have v1 := (XA.out.below HC5.out XA.out.lt).cell 1; have v2 := (XA.out.below HC5.out XA.out.lt).cell 2; have z0 := (XB.out.below HC5.out XB.out.lt).cell 0; have z1 := (XB.out.below HC5.out XB.out.lt).cell 1; have z2 := (XB.out.below HC5.out XB.out.lt).cell 2; clear c5 h1 h2))
    all_goals
      go_wp2_with fail
      go_ret
      exact ⟨rfl, HBW.out.trans (HC7.out.mono HBW.out.size)⟩
  · have hdiff : (ea != 0) = true ∨ ((ea != 0) = false ∧ (eb != 0) = true) := by
      by_cases fa : fitRec ⟨⟨nA, nn, nc, nl⟩, ⟨pA, pn, pc, pl⟩, ⟨gA, gn, gc, gl⟩⟩
      · have fb : ¬ fitRec ⟨⟨mA, mn, mc, ml⟩, ⟨qA, qn, qc, ql⟩, ⟨kA, kn, kc, kl⟩⟩ := fun fb => hfit ⟨fa, fb⟩
        have h1 := HEA.out
        have h2 := HEB.out
        rw [encRec, if_pos fa] at h1
        rw [encRec, if_neg fb] at h2
        simp only [Prod.mk.injEq] at h1 h2
        exact .inr ⟨by rw [← h1.2]; rfl, by rw [← h2.2]; rfl⟩
      · have h1 := HEA.out
        rw [encRec, if_neg fa] at h1
        simp only [Prod.mk.injEq] at h1
        exact .inl (by rw [← h1.2]; rfl)
    clear hfit HEA HEB HS HS2
    rcases hdiff with e1 | ⟨e1, e2⟩
    all_goals
      go_wp2_with fail
      refine (wakes15_any _).mono ?_
      rintro e w5 ⟨rfl, c5⟩
      have HC5 := hidden (HC4.out.trans (c5.mono HC4.out.size))
      clear c5
      go_wp2_with fail
      go_ret
      exact ⟨rfl, HBW.out.trans (HC5.out.mono HBW.out.size)⟩

theorem recordApart_walk {H : Type} (enc : TypeId × Value → H) : LawWalk enc Try.prog 3 Try.f3 (fun ds => Rows.uptoBulkAll ds ≤ 1048576) := by
  intro W base args ds p hval hA hlt hsz hcond
  rw [Try.params3] at hval hA hsz
  obtain ⟨v0, vs0, d0, ds0, p0, q0, hargs, rfl, rfl, h0, r0⟩ := trodAll_cons hA
  obtain ⟨v1, vs1, d1, ds1, p1, q1, rfl, rfl, rfl, h1, r1⟩ := trodAll_cons r0
  obtain ⟨rfl, rfl, rfl⟩ := trodAll_nil r1
  obtain rfl : args = #[v0, v1] := by cases args; simp_all
  obtain ⟨a, rfl, ha, ka⟩ := open_rec (hval 0 26 v0 rfl rfl) h0 (arg_fits (b := 1048576) (j := 0) rfl rfl (fun x hx => hlt x (by simp [hx])) hsz hcond)
  obtain ⟨b, rfl, hb, kb⟩ := open_rec (hval 1 26 v1 rfl rfl) h1 (arg_fits (b := 1048576) (j := 1) rfl rfl (fun x hx => hlt x (by simp [hx])) hsz hcond)
  exact recordApart_any a b W ha hb ka kb

namespace recordApartUpto
set_option maxRecDepth 100000 in
theorem lifted (os : Os) (started : os.Started) (H : Type) (enc : TypeId × Value → H) (F : Stop.Interp) :
    ReturnsInHanded {} Try.checked os 3 .any ((Rows.OpenSpec.upto Rows.recordApartSpec).pre6 enc Try.prog Try.f3 Rows.recordApartUptoRow.domain false) (((Rows.OpenSpec.upto Rows.recordApartSpec).at F).post enc Try.prog Try.f3 false true false false) :=
  law_upto (C := Try.checked) (s := Rows.recordApartSpec) (tb := 4) own_prog started (by kernel_rfl) Try.func3
    (OpenSpec.witness (enc := enc) (C := Try.checked) (s := Rows.OpenSpec.upto Rows.recordApartSpec) (k := Rows.uptoSmall) rfl false ⟨#[], #[.agg #[.slice none 0 0, .slice none 0 0, .slice none 0 0], .agg #[.slice none 0 0, .slice none 0 0, .slice none 0 0]], []⟩ 8 (by kernel_rfl) (by kernel_rfl) (by kernel_rfl)
      (x := ([.agg [.nil, .nil, .nil], .agg [.nil, .nil, .nil]], [], [])) (by kernel_rfl) rfl (by kernel_rfl))
    laidOut (by kernel_rfl) rfl Try.underlying4 ⟨rfl, fun H ds h => match ds, h with | [_, _], _ => ⟨rfl, rfl, rfl⟩⟩ (recordApart_walk enc)

theorem proved : Rows.RecordApartUptoSaid :=
  OpenClaim.holds_of_cond 3 Try.f3 rfl rfl rfl rfl rfl rfl rfl ⟨rfl, rfl, rfl, rfl, rfl⟩ rfl rfl rfl rfl rfl (by kernel_rfl) Try.func3 (by kernel_rfl)
    (of_decide_eq_true (by kernel_rfl)) (by unfold Func.isWrapper; first | (rw [if_pos (by decide +kernel)]; kernel_rfl) | (rw [if_neg (by decide +kernel)]; exact ⟨rfl, rfl⟩))
    (fun os started H enc _ F => lifted os started H enc F)
#print axioms proved
end recordApartUpto

end Go.Proofs.Ytdggnnjjiolldaa
