/- The law's helper planned (chapter 18) at a nil head and a document's head without series. Condition: the batch is within the reach. -/
import Derived.Test.YthncochjhbmceaaGreatRPlan18
import Derived.Test.YthncochjhbmceaaGreatRAlk18
import Derived.Test.YthncochjhbmceaaGreatRRec18
import Derived.Test.YthncochjhbmceaaGreatHedPlan
namespace Go.Proofs.YthncochjhbmceaaGreat
set_option maxRecDepth 100000
open Go.RowKit

theorem infoEntH : (Tryz.prog.info? 93).map (fun i => (i.zero, i.size, i.bytes)) = some (some (.agg #[.slice none 0 0, .int .i64 0, .int .u64 0]), 3, 40) := by kernel_rfl
theorem nwV_eq {L L' : List NewQ} (h : L.map (fun x => x.lab.l) = L'.map (fun x => x.lab.l)) (hr : ∀ (i : Nat) (x : NewQ), L[i]? = some x → x.ref = ((0 + i : Nat) : Int)) (hr' : ∀ (i : Nat) (x : NewQ), L'[i]? = some x → x.ref = (i : Int)) : L.map nwV = L'.map nwV := by
  refine List.ext_getElem? fun i => ?_
  have hi := congrArg (fun z => z[i]?) h
  simp only [List.getElem?_map] at hi ⊢
  cases ha : L[i]? with
  | none =>
    rw [ha] at hi
    cases hb : L'[i]? with
    | none => rfl
    | some y => rw [hb] at hi; cases hi
  | some x =>
    rw [ha] at hi
    cases hb : L'[i]? with
    | none => rw [hb] at hi; cases hi
    | some y =>
      rw [hb] at hi
      simp only [Option.map_some, Option.some.injEq] at hi
      have h1 := hr i x ha
      have h2 := hr' i y hb
      rw [Nat.zero_add] at h1
      simp only [Option.map_some, Option.some.injEq, nwV, Prod.mk.injEq]
      exact ⟨h1.trans h2.symm, hi⟩
/-- a record of the call's own, as one that lies -/
theorem recF_newsO {w : World} {base k0 : Nat} {A B : Option Addr} {n p c d : Nat} {N : List (List Lbl)} {L : List NewQ} {P : List PntR} (h : NewsR w base k0 (.slice A n c) L) (hp : w.ownsRow base 203 3 (.slice B p d) P.length (P.flatMap PntR.cells)) (hs : L.map (fun x => x.lab.l) = N) (hN : ∀ l ∈ N, validP l) : RecF w A B n p L P := by
  obtain ⟨A', c', e1, _, h1⟩ := own_shape h.row
  obtain ⟨B', d', e2, _, h2⟩ := own_shape hp
  injection e1 with e1 e3 _
  injection e2 with e2 e4 _
  subst e1 e2 e3 e4
  refine ⟨h1, rfl, fun x hx => ?_, h2, rfl⟩
  obtain ⟨ho, hl⟩ := h.labs x hx
  have hv := valid_small (hN x.lab.l (by rw [← hs]; exact List.mem_map.2 ⟨x, hx, rfl⟩))
  obtain ⟨A3, c3, e3, _, h3⟩ := own_shape ho
  simp only [Sl.val] at e3
  injection e3 with e3 _ _
  subst e3
  exact ⟨h3, hl, by omega⟩
set_option maxHeartbeats 12800000 in
theorem planned_nil (H : Nat) (A : Option Addr) (n c : Nat) (xs : List EntR) (w : World) (hH : Whole1 w H 50 #[.slice none 0 0]) (hB : EntF w A n xs) :
    Calls Tryz.prog 11 #[.pointer none, .pointer (some ⟨H, 0, none⟩), .slice A n c] w fun e w' => ∃ nv pv L, e = .returned (.tuple #[.agg #[nv, pv, .slice none 0 0], .bool true]) ∧ NewsO w' w.heap.size 0 nv (planB [] (xs.map EntR.p)).N L ∧ w'.ownsRow w.heap.size 115 3 pv (planB [] (xs.map EntR.p)).P.length ((planB [] (xs.map EntR.p)).P.flatMap PntR.cells) ∧ Below w.heap.size w w' := by
  obtain ⟨iT, iT0, iT1, iT2, iT3⟩ := info_parts infoEntH
  have b1 : Below w.heap.size w (w.alloc (.cells #[.slice none 0 0, .slice none 0 0, .slice none 0 0] 31)) := (Below.refl _ _).alloc (Nat.le_refl _) _
  have hr0 := Whole1.new w 31 #[.slice none 0 0, .slice none 0 0, .slice none 0 0]
  obtain ⟨w1, hw1⟩ : ∃ w1, w.alloc (.cells #[.slice none 0 0, .slice none 0 0, .slice none 0 0] 31) = w1 := ⟨_, rfl⟩
  have hs1 : w1.heap.size = w.heap.size + 1 := by rw [← hw1]; simp
  rw [hw1] at b1 hr0
  have HB1 := hidden b1
  have HR0 := hidden hr0
  have HW1 := hidden hw1
  have HS1 := hidden hs1
  have HE := hidden (hB.on b1)
  have HH := hidden (hH.below b1 hH.lt)
  have hnf := hB.few
  have I := planI (T0 := []) (by simp) (xs.map EntR.p)
  obtain ⟨s, hs⟩ : ∃ s, planB [] (xs.map EntR.p) = s := ⟨_, rfl⟩
  rw [hs] at I ⊢
  have HSS := hidden hs
  have HI := hidden I
  have hone : ∀ u ∈ xs.flatMap EntR.cells, u.oneCell' = true := fun u hu => by
    simp only [EntR.cells, Sl.val, List.mem_flatMap, List.mem_cons, List.not_mem_nil, or_false] at hu
    obtain ⟨s, _, rfl | rfl | rfl⟩ := hu <;> rfl
  have hrow := HE.out.row
  clear hB hH b1 hr0 hw1 hs1 hs I
  go_enter Tryz.func11, Tryz.ntmps11
  go_upto_region 1 with (fail)
  rw [HW1.out]
  go_wp2_with (at_builtin; refine wpList_app _ rfl _ _ 23 rfl w1.heap.size 93 iT _ 3 40 Tryz.underlying23 iT0 iT1 iT2 iT3 rfl (by decide) _ _ _ rfl (World.ownsRow_nil _ _ _ _) _ _ _ _ _ rfl hrow hone (by unfold maxLen; omega) (by omega) (Nat.le_refl _) ?_; intro v2 w2 hown2 hg2 hat2; rw [Nat.zero_add, List.nil_append] at hown2; obtain ⟨A2, c2, rfl, _, hrow2⟩ := own_shape hown2)
  have b2 : Below w1.heap.size w1 w2 := (Below.refl w1.heap.size w1).grown hg2 (Nat.le_refl _) (fun q e => by cases e)
  have HE2 := hidden (show EntF w2 A2 n xs from ⟨hrow2, HE.out.len, hnf, (HE.out.on b2).labs, HE.out.ok⟩)
  have S1 := hidden (nil_plan A2 n c2 xs w2 HE2.out (by omega))
  rw [HSS.out] at S1
  have HB2 := hidden (HB1.out.trans (b2.mono HB1.out.size))
  have HH2 := hidden (HH.out.below b2 HH.out.lt)
  have HR2 := hidden (HR0.out.below b2 HR0.out.lt)
  have HEb := hidden (HE.out.on b2)
  clear hown2 hg2 hat2 hrow2 b2 hrow hone HE HH HR0 HB1
  refine S1.out.mono ?_
  rintro e w3 ⟨nv, pv, vv, L, rfl, hnw, hpt, hvr, b3⟩
  obtain ⟨nA, nc, rfl, _, _⟩ := own_shape hnw.row
  obtain ⟨pA, pc, rfl, _, _⟩ := own_shape hpt
  obtain ⟨vA, vc, rfl, _, hvrow⟩ := own_shape hvr
  have hLN : L.length = s.N.length := by have := congrArg List.length hnw.sets; simpa using this
  have hsz := HI.out.few
  have hPV : s.P.length ≤ n := by
    have h1 := HI.out.count
    have h2 := List.countP_le_length (p := fun v : Int => v == 0) (l := s.V)
    have h3 := HI.out.len
    rw [List.length_map, HE2.out.len] at h3
    omega
  have hVn : s.V.length = n := by have h3 := HI.out.len; rwa [List.length_map, HE2.out.len] at h3
  have HLN := hidden hLN
  have HVN := hidden hVn
  have HNW := hidden hnw
  have HPT := hidden hpt
  have HVR := hidden hvr
  have b4 : Below w3.heap.size w3 (w3.alloc (.cells #[.slice nA L.length nc, .slice pA s.P.length pc, .slice none 0 0] 31)) := (Below.refl _ _).alloc (Nat.le_refl _) _
  have hx4 := Whole1.new w3 31 #[.slice nA L.length nc, .slice pA s.P.length pc, .slice none 0 0]
  obtain ⟨w4, hw4⟩ : ∃ w4, w3.alloc (.cells #[.slice nA L.length nc, .slice pA s.P.length pc, .slice none 0 0] 31) = w4 := ⟨_, rfl⟩
  obtain ⟨Y, hY⟩ : ∃ Y, w3.heap.size = Y := ⟨_, rfl⟩
  rw [hw4] at b4 hx4
  rw [hY] at hx4
  have b24 := b3.trans (b4.mono b3.size)
  have HB4 := hidden (HB2.out.trans (b24.mono HB2.out.size))
  have HX4 := hidden hx4
  have HW4 := hidden hw4
  have HYY := hidden hY
  have HE4 := hidden (HEb.out.on b24)
  have HH4 := hidden (HH2.out.below b24 HH2.out.lt)
  have HR4 := hidden (HR2.out.below b24 HR2.out.lt)
  have HNW4 := hidden (HNW.out.turn (Turn.of_below b4 0 [] false) (by simp) (by simp))
  have HPT4 := hidden (own_below HPT.out b4 (Nat.le_refl _))
  have HVR4 := hidden (own_below HVR.out b4 (Nat.le_refl _))
  have HSZ2 := hidden HB2.out.size
  clear S1 hnw hpt hvr hvrow b3 b4 hx4 hw4 hY b24 HE2 HEb HH2 HR2 HNW HPT HVR HB2 hLN
  go_upto_region 2 with (fail)
  rw [HW4.out, HYY.out]
  clear HW4
  have S2 := hidden (batchRef_any A n c xs w4 HE4.out)
  go_wp2_with fail
  refine S2.out.mono ?_
  rintro e w5 ⟨v5, ys, rfl, hy, hyp, b5⟩
  obtain ⟨A5, c5, rfl, _, _⟩ := own_shape hy.row
  have hyn : ys.length = n := by have := congrArg List.length hyp; rw [List.length_map, List.length_map, HE4.out.len] at this; exact this
  have hf5 : ∀ y ∈ ys, y.lab.n * 32 ≤ 140737488351232 ∧ ∀ z ∈ y.lab.l, z.name.size ≤ 140737488355328 ∧ z.value.size ≤ 140737488355328 := fun y hym => by
    obtain ⟨x, hx, e⟩ : ∃ x ∈ xs, x.p = y.p := by
      have : y.p ∈ xs.map EntR.p := by rw [← hyp]; exact List.mem_map_of_mem hym
      obtain ⟨x, hx, e⟩ := List.mem_map.1 this
      exact ⟨x, hx, e⟩
    have hl : x.lab.l = y.lab.l := congrArg EntP.l e
    have h1 := (HE4.out.labs x hx).1
    have h2 := (hy.lab y hym).2
    have h3 := h1.len
    have h4 := h1.fit
    rw [hl] at h3
    exact ⟨by omega, fun z hz => h1.sz z (by rw [hl]; exact hz)⟩
  have HH5 := hidden (HH4.out.below b5 HH4.out.lt)
  have S3 := hidden (rplan_any H A5 n c5 w4.heap.size ys w5 HH5.out (by rw [hyn] at hy; exact hy) hyn hnf b5.size hf5)
  rw [hyp, HSS.out] at S3
  have HB5 := hidden b5
  rw [hyn]
  clear S2 hy hyp b5 hyn hf5 HE4 HH4
  go_wp2_with fail
  refine S3.out.mono ?_
  rintro e w6 ⟨nv', pv', vv', L', rfl, hnr, hnl, hrf, hpr, hvr', b6⟩
  obtain ⟨nA', nc', rfl, _, _⟩ := own_shape hnr.row
  obtain ⟨pA', pc', rfl, _, _⟩ := own_shape hpr
  obtain ⟨vA', vc', rfl, _, _⟩ := own_shape hvr'
  have hLN' : L'.length = L.length := by have := congrArg List.length hnl; rw [List.length_map] at this; rw [this, HLN.out]
  have hlv := nwV_eq (L := L) (L' := L') (by rw [HNW4.out.sets, hnl]) HNW4.out.refs hrf
  rw [hLN', HVN.out]
  rw [hLN'] at hnr
  rw [HVN.out] at hvr'
  have b47 := HB5.out.trans (b6.mono HB5.out.size)
  have b7 : Below w6.heap.size w6 (w6.alloc (.cells #[.slice nA' L.length nc', .slice pA' s.P.length pc', .slice none 0 0] 126)) := (Below.refl _ _).alloc (Nat.le_refl _) _
  have hx7 := Whole1.new w6 126 #[.slice nA' L.length nc', .slice pA' s.P.length pc', .slice none 0 0]
  obtain ⟨w7, hw7⟩ : ∃ w7, w6.alloc (.cells #[.slice nA' L.length nc', .slice pA' s.P.length pc', .slice none 0 0] 126) = w7 := ⟨_, rfl⟩
  obtain ⟨Z, hZ⟩ : ∃ Z, w6.heap.size = Z := ⟨_, rfl⟩
  rw [hw7] at b7 hx7
  rw [hZ] at hx7
  have b4z := b47.trans (b7.mono b47.size)
  have HB7 := hidden (HB4.out.trans (b4z.mono HB4.out.size))
  have HX7 := hidden (HX4.out.below b4z HX4.out.lt)
  have HR7 := hidden (HR4.out.below b4z HR4.out.lt)
  have HZ7 := hidden hx7
  have HNW7 := hidden (HNW4.out.turn (Turn.of_below b4z 0 [] false) (by simp) (by simp))
  have HPT7 := hidden (own_below HPT4.out b4z (Nat.le_refl _))
  have HVR7 := hidden (own_below HVR4.out b4z (Nat.le_refl _))
  have HNR7 := hidden (hnr.below b7)
  have HPR7 := hidden (own_below hpr b7 (Nat.le_refl _))
  have HVQ7 := hidden (own_below hvr' b7 (Nat.le_refl _))
  have HNL := hidden hnl
  have HLV := hidden hlv
  have HW7 := hidden hw7
  have HZZ := hidden hZ
  clear S3 hnr hnl hrf hpr hvr' b6 hLN' hlv b47 b7 hx7 hw7 hZ b4z HB5 HX4 HR4 HNW4 HPT4 HVR4 HB4
  go_upto_region 3 with (fail)
  rw [HW7.out, HZZ.out]
  obtain ⟨ln, hln⟩ : ∃ n, L.length = n := ⟨_, rfl⟩
  obtain ⟨pn, hpn⟩ : ∃ n, s.P.length = n := ⟨_, rfl⟩
  have hlk : ln ≤ 1048576 := by have := HLN.out; omega
  have hpk : pn ≤ 1048576 := by omega
  have hv8 : ∀ x ∈ L, x.lab.n ≤ 8 := fun x hx => by
    have h1 := valid_small (HI.out.val x.lab.l (by rw [← HNW7.out.sets]; exact List.mem_map.2 ⟨x, hx, rfl⟩))
    have h2 := (HNW7.out.labs x hx).2
    omega
  rw [hln, hpn] at HX7 HZ7 ⊢
  have hpt7 := HPT7.out
  rw [hpn] at hpt7
  have SR := hidden (fun W (hW : Below w7.heap.size w7 W) => recordRef_any (nv := .slice nA ln nc) (pv := .slice pA pn pc) W (by have := HNW7.out.turn (Turn.of_below hW 0 [] false) (by simp) (by simp); rwa [hln] at this) (by rw [hpn]; exact own_below hpt7 hW (Nat.le_refl _)) (by rw [hln]; omega) (by rw [hpn]; omega) hv8)
  have SW := hidden (fun W (hW : Below w7.heap.size w7 W) => (show RecF W nA' pA' ln pn L' s.P by have := recF_newsO (HNR7.out.below hW) (own_below HPR7.out hW (Nat.le_refl _)) HNL.out HI.out.val; rwa [hln, hpn] at this))
  have HPN := hidden hpn
  have HLN2 := hidden hln
  have HS := hidden (fun W (hW : Below w7.heap.size w7 W) => (⟨(HX7.out.below hW HX7.out.lt).cell 0, (HX7.out.below hW HX7.out.lt).cell 1, (HX7.out.below hW HX7.out.lt).cell 2, (HZ7.out.below hW HZ7.out.lt).cell 0, (HZ7.out.below hW HZ7.out.lt).cell 1, (HZ7.out.below hW HZ7.out.lt).cell 2⟩ :
    W.cell? ⟨Y, 0, none⟩ = some (.slice nA ln nc) ∧ W.cell? ⟨Y, 1, none⟩ = some (.slice pA pn pc) ∧ W.cell? ⟨Y, 2, none⟩ = some (.slice none 0 0) ∧ W.cell? ⟨Z, 0, none⟩ = some (.slice nA' ln nc') ∧ W.cell? ⟨Z, 1, none⟩ = some (.slice pA' pn pc') ∧ W.cell? ⟨Z, 2, none⟩ = some (.slice none 0 0)))
  have hnn : ((n : Int) != (n : Int)) = false := by simp
  clear hln hpn hpt7 hv8
  go_cut [32, 38] (fun _ v38 wx => v38 = .bool false ∧ Hid (Below w7.heap.size w7 wx))
  case first =>
    go_region_held3 (fun W => W.cell? ⟨Y, 0, none⟩ = some (.slice nA ln nc) ∧ W.cell? ⟨Y, 1, none⟩ = some (.slice pA pn pc) ∧ W.cell? ⟨Y, 2, none⟩ = some (.slice none 0 0) ∧ W.cell? ⟨Z, 0, none⟩ = some (.slice nA' ln nc') ∧ W.cell? ⟨Z, 1, none⟩ = some (.slice pA' pn pc') ∧ W.cell? ⟨Z, 2, none⟩ = some (.slice none 0 0))
      (first | exact HS.out _ (Below.refl _ _) | exact HS.out _ (Below.refl _ _).drew | exact HS.out _ (by assumption))
      (first
        | (go_at_call 38; refine (ralike_same _ _ _ _ _ _ _ _ _ _ _ _ _ _ HG8.out (SW.out _ kx) HLV8.out (by omega) (by omega)).mono ?_; rintro e w9 ⟨rfl, c9⟩; have kz : Below w7.heap.size w7 w9 := kx.trans (c9.mono kx.size); have HKZ := hidden kz; clear c9)
        | (go_at_call 39; refine (SR.out _ (Below.refl _ _).drew).mono ?_; rintro e w8 ⟨nv8, pv8, L8, rfl, h1, h2, h3, c8⟩; have kx : Below w7.heap.size w7 w8 := (Below.refl _ _).drew.trans c8; obtain ⟨nA8, nc8, rfl, _, _⟩ := own_shape h1.row; obtain ⟨pA8, pc8, rfl, _, _⟩ := own_shape h3; have hl8 : L8.length = ln := (by have := congrArg List.length h2; rw [List.length_map, List.length_map, HLN2.out] at this; exact this); have hg8 := recF_newsO h1 h3 (N := s.N) (by rw [← HNW7.out.sets]; have := congrArg (List.map Prod.snd) h2; rwa [List.map_map, List.map_map] at this) HI.out.val; rw [hl8, HPN.out] at hg8; rw [hl8, HPN.out]; have HG8 := hidden hg8; have HLV8 := hidden (h2.trans HLV.out); clear h1 h2 h3 c8 hl8 hg8))
    all_goals
      go_wp2_with fail
      go_meet
      exact ⟨rfl, HKZ⟩
  case rest =>
    obtain ⟨rfl, HB8⟩ := hcut
    clear SR SW HS
    have hvr := own_below HVR7.out HB8.out (Nat.le_refl _)
    have hvq := own_below HVQ7.out HB8.out (Nat.le_refl _)
    go_wp2_with fail
    go_loopw [42] (fun vi wx => ∃ j : Nat, j ≤ n ∧ vi = .int .i64 (j : Int) ∧ ∃ q, wx = wc.drewN q) (fun vi _ => n - (intOf vi).toNat)
    case atStart => exact ⟨0, Nat.zero_le _, rfl, 0, rfl⟩
    case round =>
      obtain ⟨j, hj, rfl, q, hwq⟩ := hrel
      have HWQ := hidden (show Below wc.heap.size wc wr by rw [hwq]; exact below_drewN (Below.refl _ _) q)
      have HQ := hidden hwq
      have j0 : (0 : Int) ≤ (j : Int) := by omega
      clear hwq
      by_cases hlt : j < n
      · have j1 : (j : Int) < (n : Int) := by omega
        have fwj : IntKind.i64.wrap ((j : Int) + 1) = (j : Int) + 1 := Go.IntWalk.i64_in _ (by omega)
        obtain ⟨v, hv⟩ : ∃ v, s.V[j]? = some v := ⟨_, List.getElem?_eq_getElem (by rw [HVN.out]; exact hlt)⟩
        have hr1 := own_below hvr HWQ.out (Nat.le_refl _)
        have hr2 := own_below hvq HWQ.out (Nat.le_refl _)
        rw [HVN.out] at hr1
        rw [List.map_eq_flatMap] at hr1 hr2
        obtain ⟨a1, k1, e1, _, hrow1⟩ := own_shape hr1
        obtain ⟨a2, k2, e2, _, hrow2⟩ := own_shape hr2
        injection e1 with e1 _ e3
        injection e2 with e2 _ e4
        subst e1 e2 e3 e4
        obtain ⟨g1, o1, x1, rfl, _, hx1, hc1⟩ := row_at (enc := fun v : Int => [Value.int .i64 v]) (k := 1) (fun _ => rfl) hrow1 HVN.out j hlt
        obtain ⟨g2, o2, x2, rfl, _, hx2, hc2⟩ := row_at (enc := fun v : Int => [Value.int .i64 v]) (k := 1) (fun _ => rfl) hrow2 HVN.out j hlt
        obtain rfl : x1 = v := Option.some.inj (hx1.symm.trans hv)
        obtain rfl : x2 = x1 := Option.some.inj (hx2.symm.trans hx1)
        have c1 := hc1 0 (by omega)
        have c2 := hc2 0 (by omega)
        simp only [List.getElem?_cons_zero, Nat.mul_one, Nat.add_zero] at c1 c2
        have hvv : (x2 != x2) = false := by simp
        clear hr1 hr2 hrow1 hrow2 hc1 hc2 hx1 hx2 hv
        go_wp2_with fail
        go_quiet (fail)
        go_wp2_with fail
        go_roundw
        case rel => exact ⟨j + 1, by omega, by go_num, _, by rw [HQ.out, World.drewN_drewN]⟩
        case measure => simp only [intOf]; omega
      · obtain rfl : n = j := by omega
        have hb8 : Below w7.heap.size w7 wr := HB8.out.trans (HWQ.out.mono HB8.out.size)
        have hz := HR7.out.below hb8 HR7.out.lt
        have hy := HX7.out.below hb8 HX7.out.lt
        obtain ⟨B, hB⟩ : ∃ B, w.heap.size = B := ⟨_, rfl⟩
        rw [hB] at hz
        have r0 := hy.cell 0
        have r1 := hy.cell 1
        have r2 := hy.cell 2
        have z0 := hz.cell 0
        have z1 := hz.cell 1
        have z2 := hz.cell 2
        have y0 := hz.free 0
        have y1 := (hz.put 0 (.slice nA ln nc)).free 1
        have y2 := ((hz.put 0 (.slice nA ln nc)).put 1 (.slice pA pn pc)).free 2
        have z1b := (hz.put 0 (.slice nA ln nc)).cell 1
        have z2b := ((hz.put 0 (.slice nA ln nc)).put 1 (.slice pA pn pc)).cell 2
        have hzz := ((hz.put 0 (.slice nA ln nc)).put 1 (.slice pA pn pc)).put 2 (.slice none 0 0)
        have ht3 : Turn 0 [31] false wr _ := ((Turn.put hz (Nat.zero_le _) (by simp) 0 (.slice nA ln nc)).trans (Turn.put (hz.put 0 (.slice nA ln nc)) (Nat.zero_le _) (by simp) 1 (.slice pA pn pc))).trans (Turn.put ((hz.put 0 (.slice nA ln nc)).put 1 (.slice pA pn pc)) (Nat.zero_le _) (by simp) 2 (.slice none 0 0))
        have HT3 := hidden ht3
        have HZZ := hidden hzz
        have HB9 := hidden (HB7.out.trans (hb8.mono HB7.out.size))
        have HBK := hidden hb8
        have HBB := hidden hB
        clear hz hy ht3 hzz hb8 hB hvr hvq
        rw [HBB.out]
        go_wp2_with fail
        have d0 := HZZ.out.cell 0
        have d1 := HZZ.out.cell 1
        have d2 := HZZ.out.cell 2
        have hn7 := HNW7.out.turn (Turn.of_below HBK.out 0 [] false) (by simp) (by simp)
        have hp7 := own_below HPT7.out HBK.out (Nat.le_refl _)
        rw [HLN2.out] at hn7
        rw [HPN.out] at hp7
        refine bodyPost_ret (v := .tuple #[.agg #[.slice nA ln nc, .slice pA pn pc, .slice none 0 0], .bool true]) (by simp [results, Tryz.results11, go_sem, d0, d1, d2]) rfl ⟨_, _, L, rfl, ?_, ?_, ?_⟩
        · have h2 := hn7.turn HT3.out (by decide) (by decide)
          exact ⟨own_more h2.row HSZ2.out, h2.sets, h2.refs, fun x hx => ⟨own_more (h2.labs x hx).1 HSZ2.out, (h2.labs x hx).2⟩⟩
        · have h2 := own_more (HT3.out.own hp7 (.inl (by decide))) HSZ2.out
          rwa [HPN.out]
        · rw [HBB.out] at HB9 ⊢
          exact ((HB9.out.setCell (p := ⟨B, 0, none⟩) (Nat.le_refl B) _).setCell (p := ⟨B, 1, none⟩) (Nat.le_refl B) _).setCell (p := ⟨B, 2, none⟩) (Nat.le_refl B) _
end Go.Proofs.YthncochjhbmceaaGreat
