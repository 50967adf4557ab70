/- head.fits, walked. Condition: the head is one, the record is within the bulk. -/
import Derived.Test.YthncochjhbmceaaGreatHedPlP
import Derived.Test.YthncochjhbmceaaGreatPka1b83005
import Derived.Test.YthncochjhbmceaaGreatPk6485189d
import Derived.BigQuiet
namespace Go.Proofs.YthncochjhbmceaaGreat
set_option maxRecDepth 100000
open Go.RowKit

/-- what a head asks of a record -/
structure FitsH (E : List (List Lbl)) (mx : List Int) (r : RecR) : Prop where
  rec_ : fitRec r
  refs : ∀ (i : Nat) (x : NewQ), r.news.l[i]? = some x → x.ref = ((E.length + i : Nat) : Int)
  apart : (E ++ r.news.l.map fun x => x.lab.l).Nodup
  pts : ptsOk (mx ++ List.replicate r.news.n (-1)) r.pts.l
  gones : ∀ x ∈ r.gones.l, x.ref < ((E.length + r.news.n : Nat) : Int)
/-- the map last as fits holds it -/
def FitR (m : List (Value × Value)) (M0 M : List Int) : Prop :=
  ∀ (n : Nat) (v : Int), M[n]? = some v → atV m (.int .i64 (n : Nat)) = some (.int .i64 v) ∨ (atV m (.int .i64 (n : Nat)) = none ∧ M0[n]? = some v)
theorem FitR.put {m : List (Value × Value)} {M0 M : List Int} (h : FitR m M0 M) (n : Nat) (t : Int) : FitR (putV m (.int .i64 (n : Nat)) (.int .i64 t)) M0 (M.set n t) := fun k v hk => by
  by_cases e : n = k
  · subst e
    rw [List.getElem?_set] at hk
    simp only [if_true] at hk
    split at hk
    · obtain rfl : t = v := by simpa using hk
      exact .inl (atV_put_same _ _ _)
    · cases hk
  · rw [List.getElem?_set_ne e] at hk
    rw [atV_put_other _ _ _ (by simp only [ne_eq, Value.int.injEq, true_and]; omega)]
    exact h k v hk
theorem FitR.putS {m : List (Value × Value)} {M0 M : List Int} (h : FitR m M0 M) {n : Nat} {t : Int} (hn : M[n]? = some t) : FitR (putV m (.int .i64 (n : Nat)) (.int .i64 t)) M0 M := by
  have := h.put n t
  rwa [show M.set n t = M from by
    obtain ⟨hi, e⟩ := List.getElem?_eq_some_iff.1 hn
    rw [← e]; exact List.set_getElem_self hi] at this
theorem encRec_no {r : RecR} (h : ¬ fitRec r) : (encRec r).2 = 150 := by unfold encRec; rw [if_neg h]
theorem encRec_ok {r : RecR} (h : fitRec r) : (encRec r).2 = 0 := by unfold encRec; rw [if_pos h]
set_option maxHeartbeats 6400000 in
theorem hed_fits_no (h : Nat) (r : RecR) (w : World) (hr : r.At w) (hf : ¬ fitRec r) :
    Calls Tryz.prog 33 #[.pointer (some ⟨h, 0, none⟩), r.val] w fun e w' => e = .returned (.bool false) ∧ Below w.heap.size w w' := by
  have hb : Below w.heap.size w (w.alloc (.cells #[r.news.val, r.pts.val, r.gones.val] 31)) := (Below.refl _ _).alloc (Nat.le_refl _) _
  have S1 := hidden (recEnc_any r _ (hr.on hb))
  have HB := hidden hb
  have he := encRec_no hf
  obtain ⟨⟨nA, nn, nc, nl⟩, ⟨pA, pn, pc, pl⟩, ⟨gA, gn, gc, gl⟩⟩ := r
  simp only [RecR.val, Sl.val] at S1 HB ⊢
  generalize (encRec _).1 = eb at S1
  rw [he] at S1
  clear hr hf he hb
  go_enter Tryz.func33, Tryz.ntmps33
  go_wp2_with fail
  refine S1.out.mono ?_
  rintro e w1 ⟨rfl, b1⟩
  have B1 := HB.out.trans (b1.mono HB.out.size)
  clear S1
  go_wp2_with fail
  go_ret
  exact ⟨rfl, B1⟩
theorem nodup_at {E F : List (List Lbl)} {k : Nat} {l : List Lbl} (h : (E ++ F).Nodup) (hk : F[k]? = some l) : atE E l = none ∧ atE (F.take k) l = none := by
  obtain ⟨h1, h2, h3⟩ := List.nodup_append.1 h
  have hm := List.mem_of_getElem? hk
  refine ⟨atE_none.2 fun he => h3 l he l hm rfl, atE_none.2 fun he => ?_⟩
  obtain ⟨j, hj, e⟩ := List.getElem_of_mem he
  have hj2 : j < k := by have := hj; simp at this; omega
  obtain ⟨hi, e2⟩ := List.getElem?_eq_some_iff.1 hk
  have := List.pairwise_iff_getElem.1 h2 j k (by omega) hi hj2
  rw [e2] at this
  rw [List.getElem_take] at e
  exact this e
theorem fits1_any (x : GonR) (Q : Nat) (v : Int) (w : World) (hQ : Whole1 w Q 3 #[.int .i64 v]) :
    Calls Tryz.prog 68 #[.agg #[.int .i64 x.ref, .int .i64 x.res, .slice x.sp.A x.sp.n x.sp.c], .pointer (some ⟨Q, 0, none⟩)] w fun e w' => e = .returned (.bool (decide (v ≤ x.ref))) ∧ Below w.heap.size w w' := by
  have hb : Below w.heap.size w (w.alloc (.cells #[.int .i64 x.ref, .int .i64 x.res, .slice x.sp.A x.sp.n x.sp.c] 118)) := (Below.refl _ _).alloc (Nat.le_refl _) _
  have c0 := (Whole1.new w 118 #[.int .i64 x.ref, .int .i64 x.res, .slice x.sp.A x.sp.n x.sp.c]).cell 0
  have q0 := (hQ.below hb hQ.lt).cell 0
  clear hQ
  go_enter Tryz.func68, Tryz.ntmps68
  go_wp2_with fail
  go_ret
  exact ⟨rfl, hb⟩
set_option maxHeartbeats 12800000 in
theorem hed_fits (w : World) {base h : Nat} {E : List (List Lbl)} {X : List HsR} (hh : Hed w base h E X) (r : RecR) (hr : r.At w) (hl : ∀ x ∈ r.news.l, LbT w x.lab.A x.lab.n x.lab.l) (hf : FitsH E (X.map HsR.mx) r) (hE : E.length + r.news.n ≤ 1048576) :
    Calls Tryz.prog 33 #[.pointer (some ⟨h, 0, none⟩), r.val] w fun e w' => e = .returned (.bool true) ∧ Below w.heap.size w w' := by
  have hb : Below w.heap.size w (w.alloc (.cells #[r.news.val, r.pts.val, r.gones.val] 31)) := (Below.refl _ _).alloc (Nat.le_refl _) _
  have hw0 := Whole1.new w 31 #[r.news.val, r.pts.val, r.gones.val]
  have S1 := hidden (recEnc_any r _ (hr.on hb))
  have he := encRec_ok hf.rec_
  have HR := hidden hr
  have HH := hidden hh
  have HF := hidden hf
  have HLB := hidden hl
  obtain ⟨⟨nA, nn, nc, nl⟩, ⟨pA, pn, pc, pl⟩, ⟨gA, gn, gc, gl⟩⟩ := r
  simp only [RecR.val, Sl.val] at S1 hb hw0 hE ⊢
  generalize (encRec _).1 = eb at S1
  rw [he] at S1
  clear hr hf he hh hl
  go_enter Tryz.func33, Tryz.ntmps33
  go_upto_region 1 with (fail)
  obtain ⟨R, hR⟩ : ∃ R, w.heap.size = R := ⟨_, rfl⟩
  generalize w.alloc (.cells #[.slice nA nn nc, .slice pA pn pc, .slice gA gn gc] 31) = w1 at *
  have HB1 := hidden hb
  rw [hR] at hw0 ⊢
  have HW1 := hidden hw0
  have HRR := hidden hR
  have q0 := hw0.cell 0
  have q1 := hw0.cell 1
  have q2 := hw0.cell 2
  clear hb hw0 hR
  go_wp2_with fail
  refine S1.out.mono ?_
  rintro e w2 ⟨rfl, b2⟩
  have HB2 := hidden (HB1.out.trans (b2.mono HB1.out.size))
  have HW2 := hidden (HW1.out.below b2 HW1.out.lt)
  have hw2 := HW2.out
  have q0 := hw2.cell 0
  have q1 := hw2.cell 1
  have q2 := hw2.cell 2
  have S2 := hidden (idx_new w2 (base := w.heap.size) HB2.out.size)
  clear S1 b2 HB1 HW1 hw2
  go_wp2_with fail
  refine S2.out.mono ?_
  rintro e w3 ⟨p, rfl, hi, b3⟩
  have HB3 := hidden (HB2.out.trans (b3.mono HB2.out.size))
  have HW3 := hidden (HW2.out.below b3 HW2.out.lt)
  have hw3 := HW3.out
  have q0 := hw3.cell 0
  have q1 := hw3.cell 1
  have q2 := hw3.cell 2
  have HI3 := hidden hi
  clear S2 b3 HB2 HW2 hw3 hi
  clear q0 q1 q2
  have hw3 := HW3.out
  have q0 := hw3.cell 0
  clear hw3
  go_wp2_with fail
  go_loopw [32] (fun vi wr => ∃ k : Nat, vi = .int .i64 (k : Int) ∧ k ≤ nn ∧ Hid (Idx wr w.heap.size p ((nl.take k).map fun x => x.lab.l)) ∧ Hid (Below w.heap.size w wr) ∧ Hid (Whole1 wr R 31 #[.slice nA nn nc, .slice pA pn pc, .slice gA gn gc])) (fun vi _ => nn - (intOf vi).toNat)
  case atStart => exact ⟨0, rfl, Nat.zero_le _, hidden (by simpa using HI3.out), HB3, HW3⟩
  case round =>
    obtain ⟨k, rfl, hk, hi, hb, hw⟩ := hrel
    have k0 : (0 : Int) ≤ (k : Int) := by omega
    by_cases hlt : k < nn
    · have k1 : (k : Int) < (nn : Int) := by omega
      have HLT := hidden (show k + 1 ≤ nn from hlt)
      have fwk : IntKind.i64.wrap ((k : Int) + 1) = (k : Int) + 1 := Go.IntWalk.i64_in _ (by omega)
      have fwe : IntKind.i64.wrap ((E.length : Int) + (k : Int)) = (E.length : Int) + (k : Int) := Go.IntWalk.i64_in _ (by omega)
      have hrr := HR.out.on hb.out
      obtain ⟨g, o, x, rfl, hg, hx, hc⟩ := row_at (enc := NewQ.cells) (k := 2) newK hrr.news.2.2 hrr.news.2.1 k hlt
      have hxm := List.mem_of_getElem? hx
      have hlb := HLB.out x hxm
      have hnc := (hrr.labs x hxm).2
      have href := HF.out.refs k x hx
      have hap := nodup_at HF.out.apart (l := x.lab.l) (k := k) (by rw [List.getElem?_map, hx]; rfl)
      have hval := (HF.out.rec_.1 x hxm).2
      have hsn := take_snoc? hx
      have c0 := hc 0 (by omega)
      have c1 := hc 1 (by omega)
      obtain ⟨xr, ⟨lA, lN, lC, ll⟩⟩ := x
      simp only [NewQ.cells, Sl.val, List.getElem?_cons_zero, List.getElem?_cons_succ, Nat.add_zero] at c0 c1 hlb hnc href hap hval
      have hrb : (xr != (E.length : Int) + (k : Int)) = false := by rw [href]; simp
      obtain ⟨hap1, hap2⟩ := hap
      rw [← List.map_take] at hap2
      have hae : addE ((nl.take k).map fun x => x.lab.l) ll = ((((((nl.take k).map fun x => x.lab.l).length : Nat) : Int), true, 0), ((nl.take k).map fun x => x.lab.l) ++ [ll]) := by
        unfold addE
        rw [if_neg (by simp [enc_fit.2 hval]), hap2]
      have hb1 : Below wr.heap.size wr (wr.alloc (.cells #[.int .i64 xr, .slice lA lN lC] 113)) := (Below.refl _ _).alloc (Nat.le_refl _) _
      have hw1 := Whole1.new wr 113 #[.int .i64 xr, .slice lA lN lC]
      obtain ⟨w4, hw4⟩ : ∃ w4, wr.alloc (.cells #[.int .i64 xr, .slice lA lN lC] 113) = w4 := ⟨_, rfl⟩
      obtain ⟨Y, hY⟩ : ∃ Y, wr.heap.size = Y := ⟨_, rfl⟩
      rw [hw4] at hb1 hw1
      rw [hY] at hw1
      have HAE := hidden hae
      have HAP1 := hidden hap1
      have HNC := hidden hnc
      have HSN := hidden (congrArg (List.map fun x : NewQ => x.lab.l) hsn)
      have HW4 := hidden hw4
      have HYY := hidden hY
      have HI4 := hidden (hi.out.below hb1)
      have HB4 := hidden (hb.out.trans (hb1.mono hb.out.size))
      have HR4 := hidden (hw.out.below hb1 hw.out.lt)
      have HN4 := hidden hw1
      have hhe := HH.out
      obtain ⟨ip, sv, hhe⟩ := hhe
      have hh4 := hhe.below HB4.out
      have ch0 := hh4.blk.cell 0
      have d0 := hw1.cell 0
      have d1 := hw1.cell 1
      have hlb4 : LbT w4 lA lN ll := hlb.turn (Turn.of_below HB4.out 0 [] false) (by simp)
      have HLB4 := hidden hlb4
      have S3 := fun W (hW : Below w4.heap.size w4 W) => idx_find lA lN lC ll W (hh4.idx.below hW) (hlb4.f.on hW) hnc
      rw [hap1] at S3
      have S3 := hidden S3
      clear href hrr hxm hlb hnc hap1 hap2 hval hsn hae hb1 hw1 hw4 hY hi hb hw hhe hh4 hlb4 hx hc
      go_upto_region 8 with (fail)
      rw [HW4.out, HYY.out]
      clear c0 c1
      go_cut [10, 11] (fun vn vk wx => vn = .int .i64 0 ∧ vk = .bool false ∧ Hid (Below w4.heap.size w4 wx))
      case first =>
        go_region_law (first
          | (go_simp; go_at_call 29; refine (S3.out _ (Below.refl _ _).drew).mono ?_; rintro e w5 ⟨rfl, b5⟩; have HB5 := hidden ((Below.refl w4.heap.size w4).drew.trans b5)))
        all_goals
          go_wp2_with fail
          go_meet
          exact ⟨rfl, rfl, HB5⟩
      case rest =>
        obtain ⟨rfl, rfl, HB5⟩ := hcut
        clear d0 d1 ch0 S3
        have HI5 := hidden (HI4.out.below HB5.out)
        have HN5 := hidden (HN4.out.below HB5.out HN4.out.lt)
        have HR5 := hidden (HR4.out.below HB5.out HR4.out.lt)
        have HB6 := hidden (HB4.out.trans (HB5.out.mono HB4.out.size))
        have S4 := idx_add lA lN lC ll wc HI5.out (HLB4.out.turn (Turn.of_below HB5.out 0 [] false) (by simp)) HNC.out HB6.out.size (by rw [List.length_map, List.length_take]; omega)
        rw [HAE.out] at S4
        have S4 := hidden S4
        have hn5 := HN5.out
        have d0 := hn5.cell 0
        have d1 := hn5.cell 1
        clear hn5 HI4 HB4 HR4 HN4 HLB4
        go_wp2_with fail
        refine S4.out.mono ?_
        rintro e w6 ⟨rfl, hi6, t6⟩
        have HI6 := hidden hi6
        have HB7 := hidden (HB6.out.trans (t6.below (Nat.le_refl _) HB6.out.size))
        have HR6 := hidden (t6.whole HR5.out (.inr (by decide)))
        have hn6 := t6.whole HN5.out (.inr (by decide))
        have d0 := hn6.cell 0
        have S5 := hidden (fun q => hed_len (w6.drewN q) (HH.out.below (below_drewN HB7.out q)))
        clear S4 hi6 t6 hn6 d1 HN5 HR5 HI5 HB6
        go_wp2_with fail
        go_quiet ((go_at_call 14; refine Calls.quiet_of_same (S5.out _)))
        go_wp2_with fail
        go_roundw
        case rel => exact ⟨k + 1, by go_num, HLT.out, hidden (by rw [HSN.out, List.map_append]; exact HI6.out.below (below_drewN (Below.refl _ _) _)), hidden (below_drewN HB7.out _), hidden (HR6.out.drewN _)⟩
        case measure => have := HLT.out; simp [intOf]; omega
    · obtain rfl : nn = k := by omega
      have q0 := hw.out.cell 0
      have q1 := hw.out.cell 1
      have q2 := hw.out.cell 2
      have fwe : IntKind.i64.wrap ((E.length : Int) + (nn : Int)) = (E.length : Int) + (nn : Int) := Go.IntWalk.i64_in _ (by omega)
      have HB := hidden hb.out
      have HW := hidden hw.out
      have hA : Below wr.heap.size wr (wr.alloc (.cells #[.int .i64 0] 3)) := (Below.refl _ _).alloc (Nat.le_refl _) _
      have hA0 := (hw.out.below hA hw.out.lt).cell 0
      have S6 := hidden (fun W (hW : Below w.heap.size w W) => hed_len W (HH.out.below hW))
      have HBa := hidden hb.out.drew
      have HBb := hidden ((hb.out.alloc hb.out.size (.cells #[.int .i64 0] 3)).drew)
      clear hi hb hw hA hk
      go_upto_region 13 with (fail)
      go_cut [15] (fun vq wx => ∃ Q, vq = .pointer (some ⟨Q, 0, none⟩) ∧ Hid (Whole1 wx Q 3 #[.int .i64 ((E.length : Int) + (nn : Int))]) ∧ Hid (Below w.heap.size w wx) ∧ Hid (Whole1 wx R 31 #[.slice nA nn nc, .slice pA pn pc, .slice gA gn gc]))
      case first =>
        go_region_law (first
          | (go_simp; go_at_call 14; refine (S6.out _ HBa.out).mono ?_; rintro e w5 ⟨rfl, rfl⟩)
          | (go_simp; go_at_call 14; refine (S6.out _ HBb.out).mono ?_; rintro e w5 ⟨rfl, rfl⟩))
        all_goals
          go_wp2_with fail
          go_meet
          exact ⟨wr.heap.size, rfl, hidden ((Whole1.new wr _ _).drew), hidden ((HB.out.alloc HB.out.size _).drew), hidden ((HW.out.alloc _).drew)⟩
      case rest =>
        obtain ⟨Q, rfl, HQ, HB8, HR8⟩ := hcut
        have mk := mkLast
        obtain ⟨M, hM⟩ : ∃ M, wc.heap.size = M := ⟨_, rfl⟩
        obtain ⟨w9, hw9⟩ : ∃ w9, wc.alloc (.map #[] 0) = w9 := ⟨_, rfl⟩
        have HM9 := hidden (show MapV (IsInt .i64) w9 M [] by rw [← hw9, ← hM]; exact mapV_made _ _)
        have HB9 := hidden (show Below w.heap.size w w9 by rw [← hw9]; exact HB8.out.alloc HB8.out.size _)
        have HR9 := hidden (show Whole1 w9 R _ _ by rw [← hw9]; exact HR8.out.alloc _)
        have HQ9 := hidden (show Whole1 w9 Q _ _ by rw [← hw9]; exact HQ.out.alloc _)
        have HMb := hidden (show w.heap.size ≤ M by rw [← hM]; exact HB8.out.size)
        clear HB8 HR8 HQ HB HW S6 HBa HBb
        have q1 := HR9.out.cell 1
        go_wp2_with fail
        clear hM hw9 q1 mk hA0
        have HLT := hidden (show (afterP (X.map HsR.mx ++ List.replicate nn (-1)) []).length = E.length + nn by
          rw [afterP_len, List.length_append, List.length_map, List.length_replicate]; obtain ⟨_, _, k⟩ := HH.out; rw [k.len])
        go_loopw [80] (fun vi wr => ∃ (k : Nat) (m : List (Value × Value)), vi = .int .i64 (k : Int) ∧ k ≤ pn ∧ Hid (MapV (IsInt .i64) wr M m) ∧ Hid (FitR m (X.map HsR.mx ++ List.replicate nn (-1)) (afterP (X.map HsR.mx ++ List.replicate nn (-1)) (pl.take k))) ∧ Hid (Below w.heap.size w wr) ∧ Hid (Whole1 wr R 31 #[.slice nA nn nc, .slice pA pn pc, .slice gA gn gc]) ∧ Hid (Whole1 wr Q 3 #[.int .i64 ((E.length : Int) + (nn : Int))])) (fun vi _ => pn - (intOf vi).toNat)
        case atStart => exact ⟨0, [], rfl, Nat.zero_le _, HM9, hidden (fun n v hv => .inr ⟨rfl, by simpa [afterP] using hv⟩), HB9, HR9, HQ9⟩
        case round =>
          obtain ⟨k, m, rfl, hk, hm, hfr, hb, hw, hq⟩ := hrel
          have k0 : (0 : Int) ≤ (k : Int) := by omega
          by_cases hlt : k < pn
          · have k1 : (k : Int) < (pn : Int) := by omega
            have HKT := hidden (show k + 1 ≤ pn from hlt)
            have hrr := HR.out.on hb.out
            have f2 := hrr.few.2.1
            have fwk : IntKind.i64.wrap ((k : Int) + 1) = (k : Int) + 1 := Go.IntWalk.i64_in _ (by simp only at f2; omega)
            obtain ⟨g, o, x, rfl, hg, hx, hc⟩ := row_at (enc := PntR.cells) (k := 3) pntK hrr.pts.2.2 hrr.pts.2.1 k hlt
            obtain ⟨h0, mm, hmm, hlt2⟩ := ptsOk_at HF.out.pts hx
            have hsn := congrArg (afterP (X.map HsR.mx ++ List.replicate nn (-1))) (take_snoc? hx)
            rw [afterP_snoc] at hsn
            have c0 := hc 0 (by omega)
            have c1 := hc 1 (by omega)
            have c2 := hc 2 (by omega)
            obtain ⟨pr, pt, pv⟩ := x
            obtain ⟨rn, rfl⟩ : ∃ rn : Nat, pr = (rn : Int) := ⟨pr.toNat, by simp only at h0; omega⟩
            simp only [PntR.cells, List.getElem?_cons_zero, List.getElem?_cons_succ, Nat.add_zero, Int.toNat_natCast] at c0 c1 c2 hmm hlt2 hsn h0
            have hrl := (List.getElem?_eq_some_iff.1 hmm).1
            have hl0 := HLT.out
            rw [afterP_len] at hrl hl0
            have hrn : ¬ ((E.length : Int) + (nn : Int) ≤ (rn : Int)) := by omega
            have hnle : ¬ pt ≤ mm := by omega
            have hb1 : Below wr.heap.size wr (wr.alloc (.cells #[.int .i64 (rn : Int), .int .i64 pt, .int .u64 (pv : Int)] 115)) := (Below.refl _ _).alloc (Nat.le_refl _) _
            have hw1 := Whole1.new wr 115 #[.int .i64 (rn : Int), .int .i64 pt, .int .u64 (pv : Int)]
            obtain ⟨w4, hw4⟩ : ∃ w4, wr.alloc (.cells #[.int .i64 (rn : Int), .int .i64 pt, .int .u64 (pv : Int)] 115) = w4 := ⟨_, rfl⟩
            obtain ⟨Y, hY⟩ : ∃ Y, wr.heap.size = Y := ⟨_, rfl⟩
            rw [hw4] at hb1 hw1
            rw [hY] at hw1
            have hq4 := hq.out.below hb1 hq.out.lt
            have HQ4 := hidden hq4
            have HR4 := hidden (hw.out.below hb1 hw.out.lt)
            have HB4 := hidden (hb.out.trans (hb1.mono hb.out.size))
            have HM4 := hidden (hm.out.kept (hb1.block M hm.out.lt))
            have HN4 := hidden hw1
            have HW4 := hidden hw4
            have HYY := hidden hY
            have HMM := hidden hmm
            have HSN := hidden hsn
            have d0 := hw1.cell 0
            have d1 := hw1.cell 1
            have e0 := hq4.cell 0
            have HRN := hidden hrl
            clear hrr f2 hx hc h0 hmm hsn hrl hl0 hb1 hw1 hq4 hq hw hb hm
            go_upto_region 18 with (fail)
            clear c0 c1 c2 hw4 hY
            have hlk := last_look HM4.out (rn : Int) true
            simp only [if_true] at hlk
            have hfr4 := hfr.out rn mm HMM.out
            obtain ⟨am, ham⟩ : ∃ am, atV m (.int .i64 (rn : Nat)) = am := ⟨_, rfl⟩
            rw [ham] at hlk hfr4
            have HAM := hidden ham
            have HF4 := hidden hfr4
            clear ham hfr4
            go_upto_if 96 with (fail)
            clear hlk e0 d1
            go_cut [] (fun wx => ∃ m', Hid (MapV (IsInt .i64) wx M m') ∧ Hid (FitR m' (X.map HsR.mx ++ List.replicate nn (-1)) (afterP (X.map HsR.mx ++ List.replicate nn (-1)) (pl.take k))) ∧ Hid (atV m' (.int .i64 (rn : Nat)) = some (.int .i64 mm)) ∧ Hid (Below w.heap.size w wx) ∧ Hid (Whole1 wx R 31 #[.slice nA nn nc, .slice (some ⟨g, o, none⟩) pn pc, .slice gA gn gc]) ∧ Hid (Whole1 wx Q 3 #[.int .i64 ((E.length : Int) + (nn : Int))]) ∧ Hid (Whole1 wx Y 115 #[.int .i64 (rn : Int), .int .i64 pt, .int .u64 (pv : Int)]))
            case first =>
              cases am with
              | some vm =>
                obtain rfl : vm = .int .i64 mm := by rcases HF4.out with h | ⟨h, _⟩; exact Option.some.inj h; cases h
                simp only [Option.isSome_some]
                go_wp2_with fail
                go_meet
                exact ⟨m, HM4, hfr, HAM, HB4, HR4, HQ4, HN4⟩
              | none =>
                have hm0 : (X.map HsR.mx ++ List.replicate nn (-1))[rn]? = some mm := by rcases HF4.out with h | ⟨_, h⟩; cases h; exact h
                obtain ⟨w5, hrun, hm5, hg5, hz5⟩ := last_store HM4.out (rn : Int) (.int .i64 (-1))
                have t5 : Turn w.heap.size [] true w4 w5 := Turn.of_map HM4.out HMb.out hg5
                have HM5 := hidden hm5
                have HB5 := hidden (HB4.out.trans (t5.below (Nat.le_refl _) HB4.out.size))
                have HR5 := hidden (t5.whole HR4.out (.inr (by simp)))
                have HQ5 := hidden (t5.whole HQ4.out (.inr (by simp)))
                have hn5 := t5.whole HN4.out (.inr (by simp))
                have HN5 := hidden hn5
                have HZ5 := hidden hz5
                have d0a := hn5.cell 0
                have S5 := hidden (fun q => hed_len (w5.drewN q) (HH.out.below (below_drewN HB5.out q)))
                clear hz5 hm5 hg5 t5 hn5
                simp only [Option.isSome_none]
                go_upto_region 23 with (fail)
                clear hrun d0
                go_quiet ((go_at_call 14; refine Calls.quiet_of_same (S5.out _)))
                obtain ⟨w6, hw6⟩ : ∃ w6, w5.drewN nq = w6 := ⟨_, rfl⟩
                have HM6 := hidden (show MapV (IsInt .i64) w6 M _ by rw [← hw6]; exact HM5.out.kept rfl)
                have HB6 := hidden (show Below w.heap.size w w6 by rw [← hw6]; exact below_drewN HB5.out _)
                have HR6 := hidden (show Whole1 w6 R _ _ by rw [← hw6]; exact HR5.out.drewN _)
                have HQ6 := hidden (show Whole1 w6 Q _ _ by rw [← hw6]; exact HQ5.out.drewN _)
                have HN6 := hidden (show Whole1 w6 Y _ _ by rw [← hw6]; exact HN5.out.drewN _)
                rw [hw6]
                clear hw6 HM5 HB5 HR5 HQ5 HN5 HZ5 S5 d0a
                by_cases hE2 : rn < E.length
                · have hE3 : (rn : Int) < (E.length : Int) := by omega
                  obtain ⟨ip, sv, hh6⟩ := HH.out.below HB6.out
                  have hX := hh6.len
                  rw [List.getElem?_append_left (by rw [List.length_map, hX]; exact hE2), List.getElem?_map] at hm0
                  obtain ⟨As, cs, rfl, _, hrow⟩ := own_shape hh6.row
                  rw [List.map_eq_flatMap] at hrow
                  obtain ⟨gs, os, x, rfl, _, hx, hcx⟩ := row_at (enc := fun x : HsR => [x.ptr]) (k := 1) (fun _ => rfl) hrow rfl rn (by rw [hX]; exact hE2)
                  have hxb := (hh6.at_ x (List.mem_of_getElem? hx)).blk
                  rw [hx] at hm0
                  have ch1 := hh6.blk.cell 1
                  rw [hX] at ch1
                  obtain ⟨xb, xmx, xgv, xgo, xsv, xsm⟩ := x
                  obtain rfl : xmx = mm := by simpa using hm0
                  have xc0 := hxb.cell 0
                  have cx0 := hcx 0 (by omega)
                  simp only [HsR.ptr, HsR.cells, List.getElem?_cons_zero, Nat.add_zero, Nat.mul_one] at cx0 xc0
                  have y0 := HN6.out.cell 0
                  have hmD : MapV (IsInt .i64) w6.drew M (putV m (.int .i64 (rn : Nat)) (.int .i64 (-1))) := HM6.out.kept rfl
                  obtain ⟨w7, hrun, hm7, hg7, hz7⟩ := last_store hmD (rn : Int) (.int .i64 xmx)
                  have t7 : Turn w.heap.size [] true w6.drew w7 := Turn.of_map hmD HMb.out hg7
                  have HM7 := hidden hm7
                  have HB7 := hidden ((HB6.out.drew).trans (t7.below (Nat.le_refl _) HB6.out.size))
                  have HR7 := hidden (t7.whole (HR6.out.drewN 1) (.inr (by simp)))
                  have HQ7 := hidden (t7.whole (HQ6.out.drewN 1) (.inr (by simp)))
                  have HN7 := hidden (t7.whole (HN6.out.drewN 1) (.inr (by simp)))
                  have HF7 : Hid (FitR (putV (putV m (.int .i64 (rn : Nat)) (.int .i64 (-1))) (.int .i64 (rn : Nat)) (.int .i64 xmx)) (X.map HsR.mx ++ List.replicate nn (-1)) (afterP (X.map HsR.mx ++ List.replicate nn (-1)) (pl.take k))) := hidden (fun n v hv => by
                    by_cases e : rn = n
                    · subst e
                      obtain rfl : xmx = v := by rw [HMM.out] at hv; exact Option.some.inj hv
                      exact .inl (atV_put_same _ _ _)
                    · rw [atV_put_other _ _ _ (by simp only [ne_eq, Value.int.injEq, true_and]; omega), atV_put_other _ _ _ (by simp only [ne_eq, Value.int.injEq, true_and]; omega)]
                      exact hfr.out n v hv)
                  clear hmD hm7 hg7 hz7 t7 hh6 hrow hcx hxb hx hm0 hE2
                  go_upto_region 24 with (fail)
                  go_region
                  all_goals
                    go_wp2_with fail
                    go_meet
                    exact ⟨_, HM7, HF7, hidden (atV_put_same _ _ _), HB7, HR7, HQ7, HN7⟩
                · have hE3 : ¬ ((rn : Int) < (E.length : Int)) := by omega
                  obtain rfl : mm = -1 := by
                    obtain ⟨_, _, kk⟩ := HH.out
                    rw [List.getElem?_append_right (by rw [List.length_map, kk.len]; omega), List.getElem?_replicate] at hm0
                    split at hm0
                    · exact (Option.some.inj hm0).symm
                    · cases hm0
                  have HF6 := hidden (hfr.out.putS HMM.out)
                  clear hm0 hE2
                  go_wp2_with fail
                  go_meet
                  exact ⟨_, HM6, HF6, hidden (atV_put_same _ _ _), HB6, HR6, HQ6, HN6⟩
            case rest =>
              obtain ⟨m2, HM8, HF8, HAT, HB8, HR8, HQ8, HN8⟩ := hcut
              clear HM4 HB4 HR4 HQ4 HN4 HW4 HYY HF4 hfr d0
              have hn8 := HN8.out
              have d0 := hn8.cell 0
              have d1 := hn8.cell 1
              have hlk := last_look HM8.out (rn : Int) false
              rw [HAT.out] at hlk
              simp only [Bool.false_eq_true, if_false, Option.getD_some] at hlk
              obtain ⟨w9, hrun, hm9, hg9, hz9⟩ := last_store HM8.out (rn : Int) (.int .i64 pt)
              have t9 : Turn w.heap.size [] true wc w9 := Turn.of_map HM8.out HMb.out hg9
              have HM9b := hidden hm9
              have HB9b := hidden (HB8.out.trans (t9.below (Nat.le_refl _) HB8.out.size))
              have HR9b := hidden (t9.whole HR8.out (.inr (by simp)))
              have HQ9b := hidden (t9.whole HQ8.out (.inr (by simp)))
              have HF9 := hidden (HF8.out.put rn pt)
              clear hm9 hg9 hz9 t9 hn8 HF8 HAT HAM
              go_wp2_with fail
              go_roundw
              case rel => exact ⟨k + 1, _, by go_num, HKT.out, HM9b, hidden (by rw [HSN.out]; exact HF9.out), HB9b, HR9b, HQ9b⟩
              case measure => have := HKT.out; simp [intOf]; omega
          · obtain rfl : pn = k := by omega
            have q2 := hw.out.cell 2
            have hq0 := hq.out.cell 0
            have hrr := HR.out.on hb.out
            have hga : (gl.any fun x => decide ((E.length : Int) + (nn : Int) ≤ x.ref)) = false := by
              rw [List.any_eq_false]
              intro x hx
              have := HF.out.gones x hx
              simp only at this
              simp only [decide_eq_true_eq]
              omega
            have HQF := hidden hq.out
            have HB := hidden hb.out
            have S7 := hidden (IdxGoR.contains_any gA gn gc gl 68 #[.pointer (some ⟨Q, 0, none⟩)] (fun x => decide ((E.length : Int) + (nn : Int) ≤ x.ref)) wr (enters_of Tryz.func68 (by kernel_rfl) rfl) (fun x hx W hW => fits1_any x Q _ W (HQF.out.below hW HQF.out.lt)) hrr.gones.2.2 hrr.gones.2.1 (by have := hrr.few.2.2.1; simp only at this; omega))
            rw [hga] at S7
            clear hrr hga hm hfr hb hw hq hq0
            go_wp2_with fail
            refine S7.out.mono ?_
            rintro e w9 ⟨rfl, b9⟩
            have HF := hidden (HB.out.trans (b9.mono HB.out.size))
            clear S7 b9
            go_wp2_with fail
            go_ret
            exact ⟨rfl, HF.out⟩
end Go.Proofs.YthncochjhbmceaaGreat
