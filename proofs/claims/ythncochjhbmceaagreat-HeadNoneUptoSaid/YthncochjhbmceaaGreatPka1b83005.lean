/- record.Encode, walked: the bytes of a record, or the refusal. Condition: the record is within the bulk. -/
import Derived.Test.YthncochjhbmceaaGreatPk30d82319
namespace Go.Proofs.YthncochjhbmceaaGreat
set_option maxRecDepth 100000
open Go.RowKit Go.Shelf

open Classical in
/-- what Encode answers -/
noncomputable def encRec (r : RecR) : ByteArray × Int := if fitRec r then (⟨(recB r).toArray⟩, 0) else (⟨#[]⟩, 150)

set_option maxHeartbeats 6400000 in
open Classical in
set_option maxHeartbeats 6400000 in
theorem recEnc_any (r : RecR) (w : World) (h : r.At w) :
    Calls Tryz.prog 66 #[r.val] w fun e w' => e = .returned (.tuple #[.string (encRec r).1, .int .i64 (encRec r).2]) ∧ Below w.heap.size w w' := by
  obtain ⟨⟨nA, nn, nc, nl⟩, ⟨pA, pn, pc, pl⟩, ⟨gA, gn, gc, gl⟩⟩ := r
  have hmf : ∀ (fn : Fn) (first cap : Array Value) (w : World), (Instr.makeFunc fn first cap).run Tryz.prog w = .ok (.func fn first cap) w := fun _ _ _ _ => rfl
  have hX0 := Whole1.new w 31 #[.slice nA nn nc, .slice pA pn pc, .slice gA gn gc]
  have hB0 : Below w.heap.size w (w.alloc (.cells #[.slice nA nn nc, .slice pA pn pc, .slice gA gn gc] 31)) := (Below.refl _ _).alloc (Nat.le_refl _) _
  have hnl : nl.length = nn := h.news.2.1
  have hpl : pl.length = pn := h.pts.2.1
  have hgl : gl.length = gn := h.gones.2.1
  obtain ⟨f1, f2, f3, f4⟩ := h.few
  simp only at f1 f2 f3
  have F4 := hidden (show (gl.map fun x => x.sp.n).sum ≤ 4294967296 from f4)
  have HL := hidden (And.intro hnl (And.intro hpl hgl))
  have S0 := hidden (fun W (hW : Below w.heap.size w W) => fit_any ⟨⟨nA, nn, nc, nl⟩, ⟨pA, pn, pc, pl⟩, ⟨gA, gn, gc, gl⟩⟩ W (h.on hW))
  have HV0 : Hid (∀ x ∈ pl, x.v < 18446744073709551616) := hidden fun x hx => (h.ptI x hx).2.2.2.2
  have H := hidden h
  clear h hnl hpl hgl f4
  show Calls Tryz.prog 66 #[.agg #[.slice nA nn nc, .slice pA pn pc, .slice gA gn gc]] w _
  go_enter Tryz.func66, Tryz.ntmps66
  go_upto_region 1 with (fail)
  generalize w.alloc (.cells #[.slice nA nn nc, .slice pA pn pc, .slice gA gn gc] 31) = w1 at hX0 hB0 ⊢
  obtain ⟨x0, hg⟩ : ∃ g, w.heap.size = g := ⟨_, rfl⟩
  have HB := hidden hB0
  have S1 := hidden (S0.out w1 hB0)
  rw [hg] at hX0 ⊢
  have b0 := hX0.cell 0
  have b1 := hX0.cell 1
  have b2 := hX0.cell 2
  have HX := hidden hX0
  clear hX0 hB0 S0
  go_wp2_with fail
  refine S1.out.mono ?_
  rintro e w2 ⟨rfl, k2⟩
  have HB2 := hidden (HB.out.trans (k2.mono HB.out.size))
  have HX2 := hidden (HX.out.below k2 HX.out.lt)
  clear b0 b1 b2 HX S1 k2
  by_cases hf : fitRec ⟨⟨nA, nn, nc, nl⟩, ⟨pA, pn, pc, pl⟩, ⟨gA, gn, gc, gl⟩⟩
  · rw [decide_eq_true hf]
    obtain ⟨hf1, hf2, hf3, hf4⟩ := hf
    simp only at hf1 hf2 hf3 hf4
    have HF := hidden (show fitRec ⟨⟨nA, nn, nc, nl⟩, ⟨pA, pn, pc, pl⟩, ⟨gA, gn, gc, gl⟩⟩ from ⟨hf1, hf2, hf3, hf4⟩)
    have HF1 := hidden hf1
    have HF2 := hidden hf2
    have HF3 := hidden hf3
    clear hf1 hf2 hf3 hf4
    go_upto_region 4 with (fail)
    have T0 := hidden (bst_new w2)
    have kA : Below w2.heap.size w2 (w2.alloc (.cells #[.pointer none, .slice none 0 0] 178)) := (Below.refl _ _).alloc (Nat.le_refl _) _
    generalize w2.alloc (.cells #[.pointer none, .slice none 0 0] 178) = w3 at T0 kA ⊢
    have HX3 := HX2.out.below kA HX2.out.lt
    have hx0 := HX2.out.lt
    obtain ⟨g, hgg⟩ : ∃ g, w2.heap.size = g := ⟨_, rfl⟩
    rw [hgg] at T0 hx0 ⊢
    have c0 := HX3.cell 0
    have hgw : w.heap.size ≤ g := by have := HB2.out.size; omega
    have HXW := hidden (fun pre W (t : BSt w2 g pre W) => HX2.out.below t.below hx0)
    have HBW := hidden (fun pre W (t : BSt w2 g pre W) => HB2.out.trans (t.below.mono hgw))
    have k0 : (0 : Int) ≤ (nn : Int) := by omega
    have S2 := hidden (bst_num1 T0.out (nn : Int) k0 (by omega) (by simp))
    clear kA T0 HX3 HX2 hgg
    go_wp2_with fail
    refine S2.out.mono ?_
    rintro e w4 ⟨rfl, t4, -⟩
    have T4 := hidden (t4.pre_eq (show [] ++ uintL (nn : Int).toNat = uintL nn by simp))
    have c0 := (HXW.out _ _ T4.out).cell 0
    clear S2 t4
    go_wp2_with fail
    clear c0
    go_loopw [28] (fun vi wr => ∃ k : Nat, k ≤ nn ∧ vi = .int .i64 k ∧ Hid (BSt w2 g (uintL nn ++ newsB (nl.take k)) wr)) (fun vi _ => nn - (intOf vi).toNat)
    case atStart => exact ⟨0, Nat.zero_le _, rfl, hidden (T4.out.pre_eq (by simp [newsB]))⟩
    case round =>
      obtain ⟨k, hk, rfl, ht⟩ := hrel
      clear T4
      have k0 : (0 : Int) ≤ (k : Int) := by omega
      have HW := hidden (HBW.out _ _ ht.out)
      have hut := uintL_ten (v := nn) (by omega)
      have hpl : (newsB (nl.take k)).length ≤ 1000 * 4294967296 := by
        have h1 := newsB_len (l := nl.take k) fun y hy => HF1.out y (List.mem_of_mem_take hy)
        rw [List.length_take] at h1; omega
      by_cases hlt : k < nn
      · have k1 : (k : Int) < (nn : Int) := by omega
        have HR := hidden (H.out.on HW.out)
        obtain ⟨gs, o, x, rfl, _, hx, hcl⟩ := row_at newK HR.out.news.2.2 HL.out.1 k hlt
        have c0 : wr.cell? ⟨gs, o + k * 2, none⟩ = some (.int .i64 x.ref) := hcl 0 (by omega)
        have c1 : wr.cell? ⟨gs, o + k * 2 + 1, none⟩ = some (.slice x.lab.A x.lab.n x.lab.c) := hcl 1 (by omega)
        have HXM := hidden (List.mem_of_getElem? hx)
        have HT := hidden (show newsB (nl.take (k + 1)) = newsB (nl.take k) ++ newB x by rw [take_snoc? hx, newsB_snoc])
        clear hx hcl
        go_wp2_with fail
        have X1 := Whole1.new wr 113 #[.int .i64 x.ref, .slice x.lab.A x.lab.n x.lab.c]
        have hbA : Below wr.heap.size wr (wr.alloc (.cells #[.int .i64 x.ref, .slice x.lab.A x.lab.n x.lab.c] 113)) := (Below.refl _ _).alloc (Nat.le_refl _) _
        generalize wr.alloc (.cells #[.int .i64 x.ref, .slice x.lab.A x.lab.n x.lab.c] 113) = wa at X1 hbA ⊢
        obtain ⟨X, hX⟩ : ∃ X, wr.heap.size = X := ⟨_, rfl⟩
        rw [hX] at X1 ⊢
        have TA := hidden (ht.out.on hbA)
        have HBA := hidden (HBW.out _ _ TA.out)
        have d1 := X1.cell 1
        have S3 := hidden (lenc_any x.lab.A x.lab.n x.lab.c x.lab.l wa ((H.out.on HBA.out).labs x HXM.out).1 ((H.out.on HBA.out).labs x HXM.out).2)
        have HXX := hidden X1
        clear c0 c1 X1 hbA ht hX HR HW
        refine S3.out.mono ?_
        rintro e wb ⟨rfl, k2⟩
        have TB := hidden (TA.out.on k2)
        have d0 := (HXX.out.below k2 HXX.out.lt).cell 0
        have HXB := hidden (HXX.out.below k2 HXX.out.lt)
        obtain ⟨fx1, fx2⟩ := HF1.out x HXM.out
        obtain ⟨v8, vx⟩ := valid_small fx2
        have e1 := encB_len vx
        have e2 := uintL_ten (v := x.lab.l.length) (by omega)
        have e3 := uintL_ten (v := x.ref.toNat) (by have := fx1.1; have := fx1.2; omega)
        rw [encLb_ok fx2]
        have S4 := hidden (bst_num1 TB.out x.ref fx1.1 (by have := fx1.2; omega) (by rw [List.length_append]; omega))
        clear S3 d1 TA HXX k2 HBA fx1 vx fx2
        go_wp2_with fail
        refine S4.out.mono ?_
        rintro e wc ⟨rfl, tc, oc⟩
        have S5 := hidden (bst_str tc ⟨(uintL x.lab.l.length ++ encB x.lab.l).toArray⟩ (by simp only [List.length_append, ByteArray.size, List.size_toArray]; omega))
        clear S4 tc oc TB d0 HXB
        go_wp2_with fail
        refine S5.out.mono ?_
        rintro e wd ⟨rfl, td, od⟩
        have TD := hidden (td.pre_eq (show _ = uintL nn ++ newsB (nl.take (k + 1)) by rw [HT.out]; simp [newB]))
        clear S5 td od
        go_wp2_with fail
        go_roundw
        case rel => exact ⟨k + 1, by omega, by go_num, TD⟩
        case measure => simp [intOf]; omega
      · have k2 : ¬ (k : Int) < (nn : Int) := by omega
        have ht1 : nl.take k = nl := List.take_of_length_le (by have := HL.out.1; omega)
        rw [ht1] at ht hpl
        have c1 := (HXW.out _ _ ht.out).cell 1
        clear ht1
        go_wp2_with fail
        obtain ⟨B1, hB1⟩ : ∃ B, uintL nn ++ newsB nl = B := ⟨_, rfl⟩
        have hb1l : B1.length ≤ 1000 * 4294967296 + 10 := by rw [← hB1, List.length_append]; omega
        rw [hB1] at ht
        have HB1 := hidden hB1
        have p0 : (0 : Int) ≤ (pn : Int) := by omega
        have S2 := hidden (bst_num1 ht.out (pn : Int) p0 (by omega) (by omega))
        clear hB1 hpl hut ht c1 hk k0
        refine S2.out.mono ?_
        rintro e w5 ⟨rfl, t5, -⟩
        have T5 := hidden (t5.pre_eq (show B1 ++ uintL (pn : Int).toNat = B1 ++ uintL pn by simp))
        have c1 := (HXW.out _ _ T5.out).cell 1
        clear S2 t5
        go_upto_region 15 with (fail)
        have L0 := hidden (Whole1.new w5 115 #[.int .i64 0, .int .i64 0, .int .u64 0])
        have hbA : Below w5.heap.size w5 (w5.alloc (.cells #[.int .i64 0, .int .i64 0, .int .u64 0] 115)) := (Below.refl _ _).alloc (Nat.le_refl _) _
        generalize w5.alloc (.cells #[.int .i64 0, .int .i64 0, .int .u64 0] 115) = w6 at L0 hbA ⊢
        obtain ⟨L, hL⟩ : ∃ X, w5.heap.size = X := ⟨_, rfl⟩
        rw [hL] at L0 ⊢
        have T6 := hidden (T5.out.on hbA)
        have hgL : g ≤ L := by have := T5.out.le; omega
        have c1 := (HXW.out _ _ T6.out).cell 1
        clear T5 hbA hL
        go_wp2_with fail
        clear c1
        go_loopw [55] (fun vi wr => ∃ k : Nat, k ≤ pn ∧ vi = .int .i64 k ∧ Hid (BSt w2 g (B1 ++ uintL pn ++ pntsB pnt0 (pl.take k)) wr) ∧ Hid (Whole1 wr L 115 (lastP pnt0 (pl.take k)).cells.toArray)) (fun vi _ => pn - (intOf vi).toNat)
        case atStart => exact ⟨0, Nat.zero_le _, rfl, hidden (T6.out.pre_eq (by simp [pntsB])), L0⟩
        case round =>
          obtain ⟨k, hk, rfl, ht, hlw⟩ := hrel
          clear T6 L0
          have k0 : (0 : Int) ≤ (k : Int) := by omega
          have HW := hidden (HBW.out _ _ ht.out)
          have hut := uintL_ten (v := pn) (by omega)
          have hpl : (pntsB pnt0 (pl.take k)).length ≤ 30 * 4294967296 := by
            have h1 := pntsB_len (l := pl.take k) pnt0_fit (by decide) fun y hy => ⟨HF2.out y (List.mem_of_mem_take hy), HV0.out y (List.mem_of_mem_take hy)⟩
            rw [List.length_take] at h1; omega
          by_cases hlt : k < pn
          · have k1 : (k : Int) < (pn : Int) := by omega
            have HR := hidden (H.out.on HW.out)
            obtain ⟨gs, o, x, rfl, _, hx, hcl⟩ := row_at pntK HR.out.pts.2.2 HL.out.2.1 k hlt
            have c0 : wr.cell? ⟨gs, o + k * 3, none⟩ = some (.int .i64 x.ref) := hcl 0 (by omega)
            have c1 : wr.cell? ⟨gs, o + k * 3 + 1, none⟩ = some (.int .i64 x.t) := hcl 1 (by omega)
            have c2 : wr.cell? ⟨gs, o + k * 3 + 2, none⟩ = some (.int .u64 (x.v : Int)) := hcl 2 (by omega)
            have hxm := List.mem_of_getElem? hx
            have hxf := HF2.out x hxm
            have hxv := HV0.out x hxm
            obtain ⟨p, hp⟩ : ∃ p, lastP pnt0 (pl.take k) = p := ⟨_, rfl⟩
            have hpf : fitPnt p ∧ p.v < 18446744073709551616 := by
              rw [← hp]
              rcases lastP_mem pnt0 (pl.take k) with h | h
              · rw [h]; exact ⟨pnt0_fit, by decide⟩
              · exact ⟨HF2.out _ (List.mem_of_mem_take h), HV0.out _ (List.mem_of_mem_take h)⟩
            rw [hp] at hlw
            have HT := hidden (show pntsB pnt0 (pl.take (k + 1)) = pntsB pnt0 (pl.take k) ++ pntB p x by rw [take_snoc? hx, pntsB_snoc, hp])
            have HT2 := hidden (show lastP pnt0 (pl.take (k + 1)) = x by rw [take_snoc? hx, lastP_snoc])
            obtain ⟨⟨xr1, xr2⟩, xt1, xt2⟩ := hxf
            obtain ⟨⟨⟨pr1, pr2⟩, pt1, pt2⟩, pv⟩ := hpf
            clear hx hcl hxm hp
            go_upto_region 18 with (fail)
            have X1 := Whole1.new wr 115 #[.int .i64 x.ref, .int .i64 x.t, .int .u64 (x.v : Int)]
            have hbA : Below wr.heap.size wr (wr.alloc (.cells #[.int .i64 x.ref, .int .i64 x.t, .int .u64 (x.v : Int)] 115)) := (Below.refl _ _).alloc (Nat.le_refl _) _
            have LA := hidden (show Whole1 (wr.alloc (.cells #[.int .i64 x.ref, .int .i64 x.t, .int .u64 (x.v : Int)] 115)) L 115 #[.int .i64 p.ref, .int .i64 p.t, .int .u64 (p.v : Int)] from hlw.out.below hbA hlw.out.lt)
            generalize wr.alloc (.cells #[.int .i64 x.ref, .int .i64 x.t, .int .u64 (x.v : Int)] 115) = wa at X1 hbA LA ⊢
            have hLX : L < wr.heap.size := hlw.out.lt
            obtain ⟨X, hX⟩ : ∃ X, wr.heap.size = X := ⟨_, rfl⟩
            rw [hX] at X1 hLX ⊢
            have TA := hidden (ht.out.on hbA)
            have XA := hidden X1
            have d0 := X1.cell 0
            have l0 := LA.out.cell 0
            have s1 : IntKind.i64.wrap (x.ref - p.ref) = x.ref - p.ref := Go.IntWalk.i64_in _ (by omega)
            have S3 := hidden (int_any (x.ref - p.ref) wa (by omega) (by omega))
            have e1 := uintL_ten (zz_lt (v := x.ref - p.ref) (by omega) (by omega))
            have e2 := uintL_ten (zz_lt (v := x.t - p.t) (by omega) (by omega))
            have e3 := uintL_ten (xor_lt64 pv hxv)
            clear c0 c1 c2 X1 hbA ht hX HR HW hlw
            go_wp2_with fail
            refine S3.out.mono ?_
            rintro e wb ⟨rfl, kb⟩
            have TB := hidden (TA.out.on kb)
            have XB := hidden (XA.out.below kb XA.out.lt)
            have LB := hidden (LA.out.below kb LA.out.lt)
            have S4 := hidden (bst_str TB.out ⟨(intL (x.ref - p.ref)).toArray⟩ (by simp only [List.length_append, ByteArray.size, List.size_toArray, intL]; omega))
            clear S3 d0 l0 TA XA LA kb s1
            go_wp2_with fail
            refine S4.out.mono ?_
            rintro e wc ⟨rfl, tc, oc⟩
            have XC := hidden (XB.out.others oc (by decide) (by decide))
            have LC := hidden (LB.out.others oc (by decide) (by decide))
            have TC := hidden tc
            have d1 := XC.out.cell 1
            have l1 := LC.out.cell 1
            have s1 : IntKind.i64.wrap (x.t - p.t) = x.t - p.t := Go.IntWalk.i64_in _ (by omega)
            have S5 := hidden (int_any (x.t - p.t) wc (by omega) (by omega))
            clear S4 TB XB LB oc tc
            go_wp2_with fail
            refine S5.out.mono ?_
            rintro e wd ⟨rfl, kd⟩
            have TD := hidden (TC.out.on kd)
            have XD := hidden (XC.out.below kd XC.out.lt)
            have LD := hidden (LC.out.below kd LC.out.lt)
            have S6 := hidden (bst_str TD.out ⟨(intL (x.t - p.t)).toArray⟩ (by simp only [List.length_append, ByteArray.size, List.size_toArray, intL]; omega))
            clear S5 d1 l1 TC XC LC kd s1
            go_wp2_with fail
            refine S6.out.mono ?_
            rintro e we ⟨rfl, te, oe⟩
            have XE := hidden (XD.out.others oe (by decide) (by decide))
            have LE := hidden (LD.out.others oe (by decide) (by decide))
            have TE := hidden te
            have d2 := XE.out.cell 2
            have l2 := LE.out.cell 2
            have s1 : bits .xor .u64 (x.v : Int) (p.v : Int) = ((p.v ^^^ x.v : Nat) : Int) := by rw [bits_xor_u64_nat _ _ (by omega) (by omega), Nat.xor_comm]
            have S7 := hidden (uint_any (p.v ^^^ x.v) we (xor_lt64 pv hxv))
            clear S6 TD XD LD oe te
            go_wp2_with fail
            refine S7.out.mono ?_
            rintro e wf ⟨rfl, kf⟩
            have TF := hidden (TE.out.on kf)
            have XF := hidden (XE.out.below kf XE.out.lt)
            have LF := hidden (LE.out.below kf LE.out.lt)
            have S8 := hidden (bst_str TF.out ⟨(uintL (p.v ^^^ x.v)).toArray⟩ (by simp only [List.length_append, ByteArray.size, List.size_toArray, intL]; omega))
            clear S7 d2 l2 TE XE LE kf s1
            go_wp2_with fail
            refine S8.out.mono ?_
            rintro e wg ⟨rfl, tg, og⟩
            have XG := hidden (XF.out.others og (by decide) (by decide))
            have LG := hidden (LF.out.others og (by decide) (by decide))
            have TG := hidden (tg.pre_eq (show _ = B1 ++ uintL pn ++ pntsB pnt0 (pl.take (k + 1)) by rw [HT.out]; simp [pntB]))
            have d0 := XG.out.cell 0
            have d1 := XG.out.cell 1
            have d2 := XG.out.cell 2
            have q0 := LG.out.cell 0
            have q1 := LG.out.cell 1
            have q2 := LG.out.cell 2
            have r0 := LG.out.free 0
            have r1 := LG.out.free 1
            have r2 := LG.out.free 2
            clear S8 TF XF LF og tg
            go_upto_region 22 with (fail)
            have L1 := LG.out.put 0 (.int .i64 x.ref)
            have L2 := L1.put 1 (.int .i64 x.t)
            have LH := hidden (show Whole1 (((wg.setCell ⟨L, 0, none⟩ (.int .i64 x.ref)).setCell ⟨L, 1, none⟩ (.int .i64 x.t)).setCell ⟨L, 2, none⟩ (.int .u64 (x.v : Int))) L 115 x.cells.toArray from L2.put 2 (.int .u64 (x.v : Int)))
            have TH := hidden (((TG.out.put LG.out (by decide) (by decide) hgL 0 (.int .i64 x.ref)).put L1 (by decide) (by decide) hgL 1 (.int .i64 x.t)).put L2 (by decide) (by decide) hgL 2 (.int .u64 (x.v : Int)))
            generalize ((wg.setCell ⟨L, 0, none⟩ (.int .i64 x.ref)).setCell ⟨L, 1, none⟩ (.int .i64 x.t)).setCell ⟨L, 2, none⟩ (.int .u64 (x.v : Int)) = wh at LH TH ⊢
            clear d0 d1 d2 q0 q1 q2 r0 r1 r2 XG LG TG L1 L2
            go_wp2_with fail
            go_roundw
            case rel => exact ⟨k + 1, by omega, by go_num, TH, by rw [HT2.out]; exact LH⟩
            case measure => simp [intOf]; omega
          · have k2 : ¬ (k : Int) < (pn : Int) := by omega
            have ht1 : pl.take k = pl := List.take_of_length_le (by have := HL.out.2.1; omega)
            rw [ht1] at ht hpl
            have c2 := (HXW.out _ _ ht.out).cell 2
            obtain ⟨B2, hB2⟩ : ∃ B, B1 ++ uintL pn ++ pntsB pnt0 pl = B := ⟨_, rfl⟩
            have hb2l : B2.length ≤ 1000 * 4294967296 + 20 + 30 * 4294967296 := by rw [← hB2, List.length_append, List.length_append]; omega
            rw [hB2] at ht
            have HB2' := hidden hB2
            have q0 : (0 : Int) ≤ (gn : Int) := by omega
            have S2 := hidden (bst_num1 ht.out (gn : Int) q0 (by omega) (by omega))
            clear hB2 hpl hut ht1 hlw hk k0
            go_wp2_with fail
            clear c2 ht
            refine S2.out.mono ?_
            rintro e w7 ⟨rfl, t5, -⟩
            have T7 := hidden (t5.pre_eq (show B2 ++ uintL (gn : Int).toNat = B2 ++ uintL gn by simp))
            have c2 := (HXW.out _ _ T7.out).cell 2
            clear S2 t5
            go_wp2_with fail
            clear c2
            go_loopw [91] (fun vi wr => ∃ k : Nat, k ≤ gn ∧ vi = .int .i64 k ∧ Hid (BSt w2 g (B2 ++ uintL gn ++ gonsB (gl.take k)) wr)) (fun vi _ => gn - (intOf vi).toNat)
            case atStart => exact ⟨0, Nat.zero_le _, rfl, hidden (T7.out.pre_eq (by simp [gonsB]))⟩
            case round =>
              obtain ⟨k, hk, rfl, ht⟩ := hrel
              clear T7
              have k0 : (0 : Int) ≤ (k : Int) := by omega
              have HW := hidden (HBW.out _ _ ht.out)
              have hut := uintL_ten (v := gn) (by omega)
              have hpl : (gonsB (gl.take k)).length ≤ 60 * 4294967296 := by
                have h1 := gonsB_len (l := gl.take k) fun y hy => ⟨HF3.out y (List.mem_of_mem_take hy), (H.out.spans y (List.mem_of_mem_take hy)).2, by have e1 := (H.out.spans y (List.mem_of_mem_take hy)).1.2.1; have e2 := few_sp F4.out (List.mem_of_mem_take hy); omega⟩
                have hts := take_sum (l := gl) (fun y hy => (H.out.spans y hy).1.2.1) k
                have f4s := F4.out
                rw [List.length_take] at h1; omega
              by_cases hlt : k < gn
              · have k1 : (k : Int) < (gn : Int) := by omega
                have HR := hidden (H.out.on HW.out)
                obtain ⟨gs, o, x, rfl, _, hx, hcl⟩ := row_at gonRK HR.out.gones.2.2 HL.out.2.2 k hlt
                have c0 : wr.cell? ⟨gs, o + k * 3, none⟩ = some (.int .i64 x.ref) := hcl 0 (by omega)
                have c1 : wr.cell? ⟨gs, o + k * 3 + 1, none⟩ = some (.int .i64 x.res) := hcl 1 (by omega)
                have c2 : wr.cell? ⟨gs, o + k * 3 + 2, none⟩ = some (.slice x.sp.A x.sp.n x.sp.c) := hcl 2 (by omega)
                have HXM := hidden (List.mem_of_getElem? hx)
                have HT := hidden (show gonsB (gl.take (k + 1)) = gonsB (gl.take k) ++ gonB x by rw [take_snoc? hx, gonsB_snoc])
                clear hx hcl
                go_upto_region 27 with (fail)
                have X1 := Whole1.new wr 118 #[.int .i64 x.ref, .int .i64 x.res, .slice x.sp.A x.sp.n x.sp.c]
                have hbA : Below wr.heap.size wr (wr.alloc (.cells #[.int .i64 x.ref, .int .i64 x.res, .slice x.sp.A x.sp.n x.sp.c] 118)) := (Below.refl _ _).alloc (Nat.le_refl _) _
                generalize wr.alloc (.cells #[.int .i64 x.ref, .int .i64 x.res, .slice x.sp.A x.sp.n x.sp.c] 118) = wa at X1 hbA ⊢
                obtain ⟨X, hX⟩ : ∃ X, wr.heap.size = X := ⟨_, rfl⟩
                rw [hX] at X1 ⊢
                have TA := hidden (ht.out.on hbA)
                have XA := hidden X1
                have d0 := X1.cell 0
                have d1 := X1.cell 1
                obtain ⟨⟨fx1, fx2⟩, fx3, fx4, fx5, fx6⟩ := HF3.out x HXM.out
                have HSX := hidden (H.out.spans x HXM.out)
                have e0 := HSX.out.1.2.1
                have hsn := few_sp F4.out HXM.out
                have S3 := hidden (bst_num2 TA.out x.ref x.res fx1 (by omega) fx3 (by omega) (by simp only [List.length_append]; omega))
                have e1 := uintL_ten (v := x.ref.toNat) (by omega)
                have e2 := uintL_ten (v := x.res.toNat) (by omega)
                have e3 := encS_len x.sp.l HSX.out.2
                have e4 := uintL_ten (v := x.sp.l.length) (by omega)
                clear c0 c1 c2 X1 hbA ht hX HR HW fx5
                go_wp2_with fail
                refine S3.out.mono ?_
                rintro e wb ⟨rfl, tb, ob⟩
                have TB := hidden tb
                have XB := hidden (XA.out.others ob (by decide) (by decide))
                have d2 := XB.out.cell 2
                have HSB := hidden ((H.out.on (HBW.out _ _ TB.out)).spans x HXM.out)
                have S4 := hidden (encode_any x.sp.A x.sp.n x.sp.c x.sp.l wb HSB.out.1.2.2 HSB.out.1.2.1 (by omega) (by omega) HSB.out.2)
                clear S3 TA XA d0 d1 tb ob HSB
                go_wp2_with fail
                refine S4.out.mono ?_
                rintro e wc ⟨R, hR, rfl, kc⟩
                have hRe : R = x.sp.l := hR.uniq (OfRes.self fx6) fun _ => rfl
                subst hRe
                have TC := hidden (TB.out.on kc)
                have S5 := hidden (bst_str TC.out ⟨(encL x.sp.l).toArray⟩ (by simp only [List.length_append, ByteArray.size, List.size_toArray, encL]; omega))
                clear S4 TB XB hR kc
                go_wp2_with fail
                refine S5.out.mono ?_
                rintro e wd ⟨rfl, td, od⟩
                have TD := hidden (td.pre_eq (show _ = B2 ++ uintL gn ++ gonsB (gl.take (k + 1)) by rw [HT.out]; simp [gonB]))
                clear S5 td od
                go_wp2_with fail
                go_roundw
                case rel => exact ⟨k + 1, by omega, by go_num, TD⟩
                case measure => simp [intOf]; omega
              · have k2 : ¬ (k : Int) < (gn : Int) := by omega
                have ht1 : gl.take k = gl := List.take_of_length_le (by have := HL.out.2.2; omega)
                rw [ht1] at ht
                have hne : B2 ++ uintL gn ++ gonsB gl ≠ [] := fun h => uintL_ne gn (List.append_eq_nil_iff.1 (List.append_eq_nil_iff.1 h).1).2
                go_wp2_with fail
                refine (bldString_any g g _ wr ht.out.bld hne).mono ?_
                rintro e wz ⟨rfl, hbz⟩
                go_wp2_with fail
                go_ret2
                rw [encRec, if_pos HF.out]
                have HE : recB ⟨⟨nA, nn, nc, nl⟩, ⟨pA, pn, pc, pl⟩, ⟨gA, gn, gc, gl⟩⟩ = B2 ++ uintL gn ++ gonsB gl := by
                  rw [← HB2'.out, ← HB1.out, recB]
                  simp only [HL.out.1, HL.out.2.1, HL.out.2.2]
                refine ⟨?_, HB2.out.trans ((ht.out.below.trans hbz).mono hgw)⟩
                rw [HE, List.append_assoc]
                rfl
  · rw [decide_eq_false hf]
    go_wp2_with fail
    go_ret2
    rw [encRec, if_neg hf]
    exact ⟨rfl, HB2.out⟩
end Go.Proofs.YthncochjhbmceaaGreat
