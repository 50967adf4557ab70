/- MergeMerges: whatever lists are put together, the series are the document's; what is handed in is as before, what is answered is new memory. Condition: what comes in is of bulk at most 1048576 (the '..Upto' form). -/
import Derived.Test.YtohocdbneopooaaMrgMut
namespace Go.Proofs.Ytohocdbneopooaa
set_option maxRecDepth 100000
open Go.RowKit Go.WideShapes Go.ChangeShapes

theorem SLL.ss {w : World} {A : Option Addr} {n : Nat} {LL : List (Sl Ser)} (h : SLL w A n LL) {s : Sl Ser} (hs : s ∈ LL) : SS w s :=
  ⟨⟨(h.at_ s hs).2.2, (h.at_ s hs).2.1, fun x hx => (h.sers s hs x hx).1, fun x hx => ⟨(h.sers s hs x hx).2, by
    have := MR.wsum_mem (List.mem_flatMap.2 ⟨s, hs, hx⟩)
    have := h.sum
    omega⟩, by have := MR.tot_mem hs; have := h.tot; omega⟩, (h.at_ s hs).1⟩

/-- what the writing leaves as it was, and what it may write into -/
structure Mut (wA : World) (lo hi ga : Nat) (cs0 : Array Value) (La : List Ser) (bb : Nat) (vb : Value) (Lb : List Ser) (bw : Nat) (vw : Value) (Lw : List Ser) (w0 : World) (b0 : Nat) (wx : World) : Prop where
  below : Below lo wA wx
  hdr : 0 < La.length → Whole1 wx ga serT cs0
  smp : ∀ y ∈ La, Tgt wx y.smp.A y.smp.n 2 lo hi ga
  lab : ∀ y ∈ La, Tgt wx y.lab.A y.lab.n 2 lo hi ga
  b : MOut wx bb vb Lb
  want : MR.MOut wx bw vw Lw
  wlab : ∀ y ∈ Lw, y.lab.At w0 b0 2 Lbl.cells
theorem Mut.put {wA wx w0 : World} {lo hi ga bb bw b0 q : Nat} {cs0 : Array Value} {La Lb Lw : List Ser} {vb vw : Value} (h : Mut wA lo hi ga cs0 La bb vb Lb bw vw Lw w0 b0 wx) (h1 : lo ≤ q) (h2 : q < hi) (h3 : q ≠ ga) (hb : hi ≤ bb) (hw : hi ≤ bw) (hlo : b0 ≤ lo) (i : Nat) (u : Value) :
    Mut wA lo hi ga cs0 La bb vb Lb bw vw Lw w0 b0 (wx.setCell ⟨q, i, none⟩ u) :=
  ⟨h.below.setCell (p := ⟨q, i, none⟩) h1 u, fun hl => (h.hdr hl).off (fun e => h3 e.symm) u, fun y hy => (h.smp y hy).put q i u, fun y hy => (h.lab y hy).put q i u, h.b.off_put (by omega) i u, MR.MOut.off_put h.want h.wlab (by omega) (by omega) i u, h.wlab⟩

theorem Mut.sl_b {wA wx w0 w1 : World} {lo hi ga bb bw b0 cb : Nat} {cs0 : Array Value} {La Lb Lw : List Ser} {Ab : Option Addr} {vw : Value} (h : Mut wA lo hi ga cs0 La bb (.slice Ab Lb.length cb) Lb bw vw Lw w0 b0 wx) (k : SL w1 Ab Lb.length Lb) : SL wx Ab Lb.length Lb := by
  obtain ⟨A, c, hv, _, hr⟩ := own_shape h.b.row
  injection hv with e1 _ _
  subst e1
  exact ⟨hr, rfl, fun x hx => (h.b.own x hx).at_, k.small, k.few⟩
theorem Mut.sl_w {wA wx w0 w1 : World} {lo hi ga bb bw b0 cw : Nat} {cs0 : Array Value} {La Lb Lw : List Ser} {Aw : Option Addr} {vb : Value} (h : Mut wA lo hi ga cs0 La bb vb Lb bw (.slice Aw Lw.length cw) Lw w0 b0 wx) (k : SL w1 Aw Lw.length Lw) : SL wx Aw Lw.length Lw := by
  obtain ⟨A, c, hv, _, hr⟩ := own_shape h.want.row
  injection hv with e1 _ _
  subst e1
  exact ⟨hr, rfl, fun x hx => (h.want.own x hx).at_, k.small, k.few⟩

set_option maxHeartbeats 12800000 in
theorem mergeMerges_any (A : Option Addr) (n c : Nat) (LL : List (Sl Ser)) (w : World) (h : SLL w A n LL) :
    Calls Try.prog 7 #[.slice A n c] w fun e w' => e = .returned (.bool true) ∧ Below w.heap.size w w' := by
  obtain ⟨i0, hi, hz0, hz1, hz2⟩ := info_parts info_refL
  have H := hidden h
  have hfew := h.few
  have hlen := h.len
  have HLEN := hidden hlen
  clear h hlen
  go_enter Try.func7, Try.ntmps7
  go_wp2_with fail
  go_loopw [3, 16] (fun vo vi wr => ∃ (k : Nat) (v : Value) (GL : List (Sl Ser)), vo = v ∧ vi = .int .i64 k ∧ k ≤ n ∧ GL.length = k ∧ Hid (GSt w wr v GL (LL.take k))) (fun _ vi _ => n - (intOf vi).toNat)
  case atStart => exact ⟨0, _, [], rfl, rfl, Nat.zero_le _, rfl, hidden (GSt.nil w)⟩
  case round =>
    obtain ⟨k, v, GL, rfl, rfl, hk, hgl, hst⟩ := hrel
    by_cases hlt : k < n
    · obtain ⟨g, o, s, hA, hg, hs, hc⟩ := sl_cell H.out.row k hlt
      subst hA
      have c0 : wr.cell? ⟨g, o + k, none⟩ = some (.slice s.A s.n s.c) := (hst.out.below.cell (p := ⟨g, o + k, none⟩) hg).trans hc
      have hss := (H.out.ss (List.mem_of_getElem? hs)).on hst.out.below
      have HTK : Hid (LL.take (k + 1) = LL.take k ++ [s]) := hidden (take_snoc? hs)
      have S1 := hidden (refO_law s.A s.n s.c s.l wr hss.1)
      have b1 : (k : Int) < (n : Int) := by omega
      have b2 : (0 : Int) ≤ (k : Int) := by omega
      have hwr := hst.out.below.size
      clear hg hs hc hss
      go_wp2_with fail
      refine S1.out.mono ?_
      rintro e wy ⟨Ay, cy, Ly, rfl, hsl, hcap, hkk, hby, ho1, ho2⟩
      have HSY := hidden (And.intro hsl hcap : SS wy ⟨Ay, s.n, cy, Ly⟩)
      have HO := hidden (And.intro ho1 ho2)
      have HK := hidden hkk
      have HBY := hidden hby
      have hys := hby.size
      have hst2 := hst.out.on hby
      obtain ⟨A3, c3, rfl, hc3, hr3⟩ := own_shape hst2.row
      have HRW := hidden hst2.row
      have hfr := Row.fresh wy 25 1 1 [.slice Ay s.n cy] rfl
      rw [hgl] at hc3 HRW ⊢
      have HST := hst
      clear hsl hcap hkk hby ho1 ho2 hst2 hr3 S1 hst c0
      go_wp2_with (at_builtin; refine wpList_app _ rfl _ _ 50 rfl w.heap.size 25 i0 _ 1 24 Try.underlying50 hi hz0 hz1 hz2 rfl (by decide) _ _ _ rfl (HRW.out.alloc _) _ _ _ _ _ rfl hfr (by simp [Value.oneCell']) (by unfold maxLen; omega) (by omega) (by simp; omega) ?_; intro v10 w10 hown10 hg10 hat10)
      go_roundw
      case rel =>
        have hmore := HST.out.more (s := ⟨Ay, s.n, cy, Ly⟩) (t := s) HBY.out HSY.out HO.out HK.out (by rw [hgl]; exact hg10) (by rw [hgl]; exact hat10) (by rw [hgl]; exact hown10)
        exact ⟨k + 1, _, GL ++ [⟨Ay, s.n, cy, Ly⟩], rfl, by go_num, by omega, by rw [List.length_append, hgl]; rfl, hidden (by rw [HTK.out]; exact hmore)⟩
      case measure => simp [intOf]; omega
    · obtain rfl : k = n := by omega
      have hst2 := hst.out
      rw [List.take_of_length_le (by rw [HLEN.out]; exact Nat.le_refl _)] at hst2
      obtain ⟨Ag, cg, rfl, hcg, _⟩ := own_shape hst2.row
      rw [hgl] at hst2 ⊢
      obtain ⟨wG, rfl⟩ : ∃ wG : World, wG = wr := ⟨_, rfl⟩
      have HG := hidden hst2
      have hwG := hst2.below.size
      have S2 := hidden (merge_law A k c LL wG (H.out.on hst2.below))
      clear hst hst2
      go_wp2_with fail
      refine S2.out.mono ?_
      rintro e wA ⟨Aa, ca, La, rfl, hMa, hsa, hca, hea, hba, _⟩
      have HMA := hidden hMa
      have HSA := hidden hsa
      have HSMA := hidden hsa.small
      have hfa := hsa.few
      have HCA := hidden hca
      have HEA := hidden hea
      have HBA := hidden hba
      have HGA := hidden (HG.out.on hba)
      have S3 := hidden (merge_law A k c LL wA (H.out.on HGA.out.below))
      clear hMa hsa hca hea hba S2
      go_wp2_with fail
      refine S3.out.mono ?_
      rintro e wB ⟨Ab, cb, Lb, rfl, hMb, hsb, hcb, heb, hbb, _⟩
      have HMB := hidden hMb
      have HSB := hidden hsb
      have HCB := hidden hcb
      have HEB := hidden heb
      have HBB := hidden hbb
      have HGB := hidden (HGA.out.on hbb)
      have HSAB := hidden (HSA.out.on hbb)
      have hlo : ∀ s ∈ GL, ∀ x ∈ s.l, x.lab.At wB wG.heap.size 2 Lbl.cells := fun s hs x hx => (((HG.out.sl s hs).1.at_ x hx).lab.below HBA.out).below (HBB.out.mono HBA.out.size)
      have hall := flat_sks HGB.out.sks
      have S4 := hidden (mergeR_law wG.heap.size Ag k cg GL wB (HGB.out.sll hgl H.out) hlo)
      rw [hall] at S4
      clear hMb hsb hcb heb hbb S3 hlo HSA HGA hall
      go_wp2_with fail
      refine S4.out.mono ?_
      rintro e wC ⟨Aw, cw, Lw, rfl, hsw, hcw, hew, hbw, hstw⟩
      have HBW := hidden hbw
      have HSW := hidden hsw
      have HSTW := hidden hstw
      have hkA : La.map Ser.sk = Lw.map Ser.sk := canon_unique HCA.out hcw (HEA.out.trans hew.symm)
      have hkB : Lb.map Ser.sk = Lw.map Ser.sk := canon_unique HCB.out hcw (HEB.out.trans hew.symm)
      have HKA := hidden hkA
      have HKB := hidden hkB
      have HSAC := hidden (HSAB.out.on hbw)
      have HSBC := hidden (HSB.out.on hbw)
      have HGC := hidden (HGB.out.on hbw)
      clear hsw hcw hew hbw hstw hkA hkB S4 HSAB HSB HGB HCA HCB HEA HEB
      go_wp2_with fail
      refine (mrgWakes_any _).mono ?_
      rintro e wD ⟨rfl, hbD⟩
      have HBD := hidden hbD
      have S5 := hidden (same_law Aa Aw La.length Lw.length ca cw La Lw wD (HSAC.out.on hbD) (HSW.out.on hbD) HKA.out)
      clear hbD HSAC
      go_wp2_with fail
      refine S5.out.mono ?_
      rintro e wE ⟨rfl, hbE⟩
      have HBE := hidden (HBD.out.trans (hbE.mono HBD.out.size))
      have S6 := hidden (same_law Ab Aw Lb.length Lw.length cb cw Lb Lw wE (HSBC.out.on HBE.out) (HSW.out.on HBE.out) HKB.out)
      clear hbE HBD S5
      go_wp2_with fail
      refine S6.out.mono ?_
      rintro e wF ⟨rfl, hbF⟩
      have HBF := hidden (HBE.out.trans (hbF.mono HBE.out.size))
      clear hbF HBE S6
      -- what the writing may touch
      have z1 := HBA.out.size
      have z2 := HBB.out.size
      have z3 := HBW.out.size
      have z4 := HBF.out.size
      have HBAF := hidden ((HBB.out.trans (HBW.out.mono z2)).trans (HBF.out.mono (by omega)) : Below wA.heap.size wA wF)
      obtain ⟨ga, hga⟩ : ∃ ga, 0 < La.length → (Value.slice Aa La.length ca).ownBlock = some ga ∧ Aa = some ⟨ga, 0, none⟩ ∧ ∃ rest, Whole1 wA ga serT (serCells La ++ rest).toArray := by
        rcases Nat.eq_zero_or_pos La.length with h0 | h0
        · exact ⟨0, fun hp => absurd hp (by omega)⟩
        · obtain ⟨g, cp, rest, hv, _, hW, _⟩ := own_whole_g (enc := Ser.cells) SrtSer.hk HMA.out.row h0
          injection hv with h1 h2 h3
          subst h1
          exact ⟨g, fun _ => ⟨rfl, rfl, rest, hW⟩⟩
      obtain ⟨cs0, hcs⟩ : ∃ cs0, 0 < La.length → Aa = some ⟨ga, 0, none⟩ ∧ Whole1 wA ga serT cs0 ∧ ∃ rest, cs0 = (serCells La ++ rest).toArray := by
        rcases Nat.eq_zero_or_pos La.length with h0 | h0
        · exact ⟨#[], fun hp => absurd hp (by omega)⟩
        · obtain ⟨_, h1, rest, h2⟩ := hga h0
          exact ⟨_, fun _ => ⟨h1, h2, rest, rfl⟩⟩
      have HCS := hidden hcs
      have HMUT : Hid (Mut wA wG.heap.size wA.heap.size ga cs0 La wA.heap.size (.slice Ab Lb.length cb) Lb wB.heap.size (.slice Aw Lw.length cw) Lw wB wG.heap.size wF) := hidden
        ⟨HBAF.out.mono z1, fun hl => ((HCS.out hl).2.1).below HBAF.out ((HCS.out hl).2.1.lt), fun y hy => (tgt_smp HMA.out hy (fun hl => (hga hl).1)).1.below HBAF.out, fun y hy => (tgt_smp HMA.out hy (fun hl => (hga hl).1)).2.below HBAF.out,
          HMB.out.below (HBW.out.trans (HBF.out.mono z3)), HSTW.out.out.below HBF.out, HSTW.out.labo⟩
      have HBG : Hid (Below w.heap.size w wA) := hidden (HG.out.below.trans (HBA.out.mono hwG))
      clear hga hcs HMA HMB HSTW HBAF HBW HBF HBB
      go_wp2_with fail
      go_loopw [48] (fun vi wx => ∃ i : Nat, vi = .int .i64 i ∧ i ≤ La.length ∧ Hid (Mut wA wG.heap.size wA.heap.size ga cs0 La wA.heap.size (.slice Ab Lb.length cb) Lb wB.heap.size (.slice Aw Lw.length cw) Lw wB wG.heap.size wx)) (fun vi _ => La.length - (intOf vi).toNat)
      case atStart => exact ⟨0, rfl, Nat.zero_le _, HMUT⟩
      case round =>
        obtain ⟨i, rfl, hil, hm⟩ := hrel
        by_cases hlt2 : i < La.length
        · obtain ⟨y, hy⟩ : ∃ y, La[i]? = some y := ⟨_, List.getElem?_eq_getElem hlt2⟩
          obtain ⟨hA, _, rest, hc0⟩ := HCS.out (by omega)
          subst hA
          have hdr := hm.out.hdr (by omega)
          rw [hc0] at hdr
          obtain ⟨e0, e1, e2⟩ := ser_whole hdr hy
          simp only [Sl.val] at e0 e1 e2
          obtain ⟨sA, hsA⟩ : ∃ sA, y.smp.A = sA := ⟨_, rfl⟩
          obtain ⟨lA, hlA⟩ : ∃ lA, y.lab.A = lA := ⟨_, rfl⟩
          rw [hlA] at e0
          rw [hsA] at e1
          have HsA := hidden hsA
          have HlA := hidden hlA
          have HY := hidden hy
          obtain ⟨hyl, hys⟩ := HSMA.out y (List.mem_of_getElem? hy)
          have HC0 := hidden hc0
          have b1 : (i : Int) < (La.length : Int) := by omega
          have b2 : (0 : Int) ≤ (i : Int) := by omega
          have b3 : i < La.length := hlt2
          clear hsA hlA hy hc0 hdr
          go_wp2_with fail
          go_loopw [57] (fun vj wx => ∃ j : Nat, vj = .int .i64 j ∧ j ≤ y.smp.n ∧ Hid (Mut wA wG.heap.size wA.heap.size ga cs0 La wA.heap.size (.slice Ab Lb.length cb) Lb wB.heap.size (.slice Aw Lw.length cw) Lw wB wG.heap.size wx)) (fun vj _ => y.smp.n - (intOf vj).toNat)
          case atStart => exact ⟨0, rfl, Nat.zero_le _, hm⟩
          case round =>
            obtain ⟨j, rfl, hj, hm2⟩ := hrel
            have hdr := hm2.out.hdr (by omega)
            rw [HC0.out] at hdr
            obtain ⟨x0, x1, _⟩ := ser_whole hdr HY.out
            simp only [Sl.val] at x0 x1
            rw [HlA.out] at x0
            rw [HsA.out] at x1
            clear hdr
            by_cases hjs : j < y.smp.n
            · obtain ⟨g2, t2, cs, hAy, hW, hsz, h1, h2, h3⟩ := (hm2.out.smp y (List.mem_of_getElem? HY.out)) (by omega)
              rw [HsA.out] at hAy
              subst hAy
              obtain ⟨u0, hu0⟩ : ∃ u0, cs[j * 2]? = some u0 := ⟨_, Array.getElem?_eq_getElem (by omega)⟩
              have t0 := (hW.cell (j * 2)).trans hu0
              have f0 := hW.free (j * 2)
              have c1 : (j : Int) < (y.smp.n : Int) := by omega
              have c2 : (0 : Int) ≤ (j : Int) := by omega
              clear hu0 hW hsz
              go_wp2_with fail
              go_roundw
              case rel => exact ⟨j + 1, by go_num, hjs, hidden (hm2.out.put h1 h2 h3 (Nat.le_refl _) z2 (Nat.le_refl _) _ _)⟩
              case measure => simp [intOf]; omega
            · obtain rfl : j = y.smp.n := by omega
              clear hm
              go_wp2_with fail
              go_loopw [75] (fun vj wx => ∃ j : Nat, vj = .int .i64 j ∧ j ≤ y.lab.n ∧ Hid (Mut wA wG.heap.size wA.heap.size ga cs0 La wA.heap.size (.slice Ab Lb.length cb) Lb wB.heap.size (.slice Aw Lw.length cw) Lw wB wG.heap.size wx)) (fun vj _ => y.lab.n - (intOf vj).toNat)
              case atStart => exact ⟨0, rfl, Nat.zero_le _, hm2⟩
              case round =>
                obtain ⟨j, rfl, hj, hm3⟩ := hrel
                have hdr := hm3.out.hdr (by omega)
                rw [HC0.out] at hdr
                obtain ⟨x0, x1, _⟩ := ser_whole hdr HY.out
                simp only [Sl.val] at x0 x1
                rw [HlA.out] at x0
                rw [HsA.out] at x1
                clear hdr
                by_cases hjs : j < y.lab.n
                · obtain ⟨g2, t2, cs, hAy, hW, hsz, h1, h2, h3⟩ := (hm3.out.lab y (List.mem_of_getElem? HY.out)) (by omega)
                  rw [HlA.out] at hAy
                  subst hAy
                  obtain ⟨u0, hu0⟩ : ∃ u0, cs[j * 2]? = some u0 := ⟨_, Array.getElem?_eq_getElem (by omega)⟩
                  have t0 := (hW.cell (j * 2)).trans hu0
                  have f0 := hW.free (j * 2)
                  have c1 : (j : Int) < (y.lab.n : Int) := by omega
                  have c2 : (0 : Int) ≤ (j : Int) := by omega
                  clear hu0 hW hsz
                  go_wp2_with fail
                  go_roundw
                  case rel => exact ⟨j + 1, by go_num, hjs, hidden (hm3.out.put h1 h2 h3 (Nat.le_refl _) z2 (Nat.le_refl _) _ _)⟩
                  case measure => simp [intOf]; omega
                · clear hm2
                  go_wp2_with fail
                  go_roundw
                  case rel => exact ⟨i + 1, by go_num, by omega, hm3⟩
                  case measure => simp [intOf]; omega
        · obtain ⟨wM, rfl⟩ : ∃ wM : World, wM = wr := ⟨_, rfl⟩
          have hbM : Below wG.heap.size wG wM := HBA.out.trans hm.out.below
          have HGM := hidden (HG.out.on hbM)
          have HBM := hidden (Mut.sl_b hm.out HSBC.out)
          have HWM := hidden (Mut.sl_w hm.out HSW.out)
          have HbM := hidden (HGM.out.below)
          clear hm hbM
          go_wp2_with fail
          go_loopw [90] (fun vi wx => ∃ i : Nat, vi = .int .i64 i ∧ i ≤ k ∧ Hid (Below wM.heap.size wM wx)) (fun vi _ => k - (intOf vi).toNat)
          case atStart => exact ⟨0, rfl, Nat.zero_le _, hidden (Below.refl _ _)⟩
          case round =>
            obtain ⟨i, rfl, hik, hbx⟩ := hrel
            have hGX := HGM.out.on hbx.out
            by_cases hlt3 : i < k
            · obtain ⟨g, o, s, hA, hg, hs, hc⟩ := sl_cell H.out.row i hlt3
              have hwx := HbM.out.trans (hbx.out.mono HbM.out.size)
              have c0 : wr.cell? ⟨g, o + i, none⟩ = some (.slice s.A s.n s.c) := (hwx.cell (p := ⟨g, o + i, none⟩) hg).trans hc
              have hrg := hGX.row
              rw [hgl] at hrg
              obtain ⟨g3, o3, s3, hA3, hg3, hs3, hc3⟩ := sl_cell (Row.of_own hrg) i hlt3
              have hss := (H.out.ss (List.mem_of_getElem? hs)).on hwx
              have hss3 := hGX.sl s3 (List.mem_of_getElem? hs3)
              have hsk3 : s.l.map Ser.sk = s3.l.map Ser.sk := by
                have := congrArg (fun l => l[i]?) HG.out.sks
                simp only [List.getElem?_map, hs, hs3, Option.map_some, Option.some.injEq] at this
                exact this.symm
              have S7 := hidden (same_law s.A s3.A s.n s3.n s.c s3.c s.l s3.l wr hss.1 hss3.1 hsk3)
              subst hA
              subst hA3
              have d0 : wr.cell? ⟨g3, o3 + i, none⟩ = some (.slice s3.A s3.n s3.c) := hc3
              have b1 : (i : Int) < (k : Int) := by omega
              have b2 : (0 : Int) ≤ (i : Int) := by omega
              clear hg hs hc hrg hg3 hs3 hc3 hss hss3 hsk3 hGX hwx
              go_wp2_with fail
              refine S7.out.mono ?_
              rintro e wy ⟨rfl, hby⟩
              have HBY := hidden (hbx.out.trans (hby.mono hbx.out.size))
              clear hby S7 c0 d0
              go_wp2_with fail
              go_roundw
              case rel => exact ⟨i + 1, by go_num, by omega, HBY⟩
              case measure => simp [intOf]; omega
            · have S8 := hidden (same_law Ab Aw Lb.length Lw.length cb cw Lb Lw wr (HBM.out.on hbx.out) (HWM.out.on hbx.out) HKB.out)
              have HBX := hidden (HbM.out.trans (hbx.out.mono HbM.out.size))
              clear hGX
              go_wp2_with fail
              refine S8.out.mono ?_
              rintro e wy ⟨rfl, hby⟩
              have HBY := hidden (HBX.out.trans (hby.mono HBX.out.size))
              clear hby S8
              go_wp2_with fail
              go_ret
              exact ⟨rfl, HBY.out⟩

theorem lists_sum : ∀ (LL : List (Sl Ser)), (∀ s ∈ LL, s.l.length = s.n) → (LL.map fun s => (s.l.map fun x => x.smp.n + x.win.n + 1).sum).sum = wsum (LL.flatMap Sl.l) + total LL
  | [], _ => rfl
  | s :: LL, h => by
    have ih := lists_sum LL fun z hz => h z (List.mem_cons_of_mem _ hz)
    have h1 := h s (List.mem_cons_self ..)
    have h2 := wsum_le s.l
    have e1 : wsum ((s :: LL).flatMap Sl.l) = wsum s.l + wsum (LL.flatMap Sl.l) := by
      rw [List.flatMap_cons]
      unfold wsum
      rw [List.map_append, List.sum_append]
    have e2 : total (s :: LL) = s.n + total LL := by simp [total]
    rw [List.map_cons, List.sum_cons, ih, e1, e2, ← h2, h1]
    omega
theorem flat_one (LL : List (Sl Ser)) : LL.flatMap (fun s => [s.val]) = LL.map Sl.val := by
  induction LL with
  | nil => rfl
  | cons a l ih => rw [List.flatMap_cons, ih]; rfl

theorem mergeMerges_walk {H : Type} (enc : TypeId × Value → H) : LawWalk enc Try.prog 7 Try.f7 (fun ds => Rows.uptoBulkAll ds ≤ 1048576) := by
  intro W base args ds p hval hA hlt hsz hbulk
  rw [Try.params7] at hval hA hsz
  obtain ⟨v0, vs0, d0, ds0, p0, q0, hargs, rfl, rfl, h0, r0⟩ := trodAll_cons hA
  obtain ⟨rfl, rfl, rfl⟩ := trodAll_nil r0
  obtain rfl : args = #[v0] := by cases args; simp_all
  obtain ⟨s, rfl, ⟨hs, hok, _, hn⟩, hw⟩ := open_arg_slice_b (k := 1) (f := fun s : Sl Ser => [s.val]) Try.underlying49 (by kernel_rfl) (by decide) (fun _ => rfl) opens_sers_b (hval 0 49 v0 rfl rfl) h0 (arg_fits (j := 0) rfl rfl (fun x hx => hlt x (by simp [hx])) hsz hbulk)
  have hrow := hs.2.2
  rw [flat_one] at hrow
  rw [lists_sum s.l fun z hz => (hok z hz).1.2.1] at hw
  exact mergeMerges_any s.A s.n s.c s.l W ⟨hrow, hs.2.1, fun z hz => (hok z hz).1, fun z hz x hx => ⟨((hok z hz).2.1 x hx).1, by have := ((hok z hz).2.1 x hx).2.few; omega⟩, by omega, by omega, by omega⟩

namespace mergeMergesUpto
set_option maxRecDepth 100000 in
theorem lifted (os : Os) (started : os.Started) (H : Type) (enc : TypeId × Value → H) (F : Stop.Interp) :
    ReturnsInHanded {} Try.checked os 7 .any ((Rows.OpenSpec.upto Rows.mergeMergesSpec).pre6 enc Try.prog Try.f7 Rows.mergeMergesUptoRow.domain false) (((Rows.OpenSpec.upto Rows.mergeMergesSpec).at F).post enc Try.prog Try.f7 false true false false) :=
  law_upto (C := Try.checked) (s := Rows.mergeMergesSpec) (tb := 4) own_prog started (by kernel_rfl) Try.func7
    (OpenSpec.witness (enc := enc) (C := Try.checked) (s := Rows.OpenSpec.upto Rows.mergeMergesSpec) (k := Rows.uptoSmall) rfl false ⟨#[], #[.slice none 0 0], []⟩ 8 (by kernel_rfl) (by kernel_rfl) (by kernel_rfl)
      (x := ([.nil], [], [])) (by kernel_rfl) rfl (by kernel_rfl))
    laidOut (by kernel_rfl) rfl Try.underlying4 ⟨rfl, fun H ds h => match ds, h with | [_], _ => ⟨rfl, rfl, rfl⟩⟩ (mergeMerges_walk enc)

theorem proved : Rows.MergeMergesUptoSaid :=
  OpenClaim.holds_of_cond 7 Try.f7 rfl rfl rfl rfl rfl rfl rfl ⟨rfl, rfl, rfl, rfl, rfl⟩ rfl rfl rfl rfl rfl (by kernel_rfl) Try.func7 (by kernel_rfl)
    (of_decide_eq_true (by kernel_rfl)) (by unfold Func.isWrapper; first | (rw [if_pos (by decide +kernel)]; kernel_rfl) | (rw [if_neg (by decide +kernel)]; exact ⟨rfl, rfl⟩))
    (fun os started H enc _ F => lifted os started H enc F)
#print axioms proved
end mergeMergesUpto

end Go.Proofs.Ytohocdbneopooaa
