/- head.Max, and Raw's samples counted, walked. Condition: the head is one. The law's own entry, walked. No condition. The law's helper wakes (chapter 18): a head at one batch. No condition. Batches of entries, and calls that hold them, opened (almanaclaw18). No condition. A head that plans made, and how many entries the first calls bring. No program is walked here. -/
import Derived.Test.YthncochjhbmceaaGreatPk83f76e93
import Derived.Test.YthncochjhbmceaaGreatPkf9befb46
import Derived.Test.YthncochjhbmceaaGreatPk9a2138a0
import Derived.Test.YthncochjhbmceaaGreatPkf33574ff
import Derived.Test.YthncochjhbmceaaGreatPk1dcfe404
import Derived.Laws.IdiomArrays
namespace Go.Proofs.YthncochjhbmceaaGreat
set_option maxRecDepth 100000
open Go.RowKit

def maxL (l : List Int) : Int := l.foldl (fun a b => max a b) (-1)
theorem maxL_snoc (l : List Int) (x : Int) : maxL (l ++ [x]) = max (maxL l) x := by simp [maxL]
set_option maxHeartbeats 3200000 in
theorem hed_max (w : World) {base h : Nat} {E : List (List Lbl)} {X : List HsR} (hh : Hed w base h E X) (hE : E.length ≤ 1048576) :
    Calls Tryz.prog 15 #[.pointer (some ⟨h, 0, none⟩)] w fun e w' => e = .returned (.int .i64 (maxL (X.map HsR.mx))) ∧ Below w.heap.size w w' := by
  have S1 := hidden (hed_len w hh)
  obtain ⟨ip, sv, hh⟩ := hh
  have HH := hidden hh
  have hXE := hh.len
  obtain ⟨As, cs, rfl, _, hrow⟩ := own_shape hh.row
  rw [List.map_eq_flatMap] at hrow
  have HROW := hidden hrow
  have ch1 := hh.blk.cell 1
  rw [hXE] at ch1
  have HXE := hidden hXE
  clear hh hrow hXE
  go_enter Tryz.func15, Tryz.ntmps15
  go_wp2_with fail
  refine S1.out.mono ?_
  rintro e w1 ⟨rfl, rfl⟩
  go_wp2_with fail
  go_loopw [3, 7] (fun vm vi wr => ∃ k : Nat, vi = .int .i64 (k : Int) ∧ k ≤ E.length ∧ vm = .int .i64 (maxL ((X.take k).map HsR.mx)) ∧ wr = w1) (fun _ vi _ => E.length - (intOf vi).toNat)
  case atStart => exact ⟨0, rfl, Nat.zero_le _, rfl, rfl⟩
  case round =>
    obtain ⟨k, rfl, hk, rfl, rfl⟩ := hrel
    have k0 : (0 : Int) ≤ (k : Int) := by omega
    by_cases hlt : k < E.length
    · have k1 : (k : Int) < (E.length : Int) := by omega
      have fwk : IntKind.i64.wrap ((k : Int) + 1) = (k : Int) + 1 := Go.IntWalk.i64_in _ (by omega)
      obtain ⟨gs, os, x, rfl, _, hx, hcx⟩ := row_at (enc := fun x : HsR => [x.ptr]) (k := 1) (fun _ => rfl) HROW.out rfl k (by rw [HXE.out]; exact hlt)
      have hxb := (HH.out.at_ x (List.mem_of_getElem? hx)).blk
      have hms := maxL_snoc ((X.take k).map HsR.mx) x.mx
      have htk := take_snoc? hx
      obtain ⟨xb, xmx, xgv, xgo, xsv, xsm⟩ := x
      have xc0 := hxb.cell 0
      have cx0 := hcx 0 (by omega)
      simp only [HsR.ptr, HsR.cells, List.getElem?_cons_zero, Nat.add_zero, Nat.mul_one] at cx0 xc0
      have HTK := hidden htk
      have HMS := hidden hms
      generalize maxL ((X.take k).map HsR.mx) = m at *
      clear hxb hcx htk hms hx
      go_wp2_with fail
      refine ⟨⟨k + 1, by simp, hlt, ?_, trivial⟩, ?_⟩
      · rw [HTK.out, List.map_append, List.map_singleton]
        simp only [HMS.out]
      · simp only [intOf]; omega
    · obtain rfl : E.length = k := by omega
      have hX : (X.take E.length).map HsR.mx = X.map HsR.mx := by rw [List.take_of_length_le (by rw [HXE.out]; exact Nat.le_refl _)]
      rw [hX]
      clear hX
      go_wp2_with fail
      go_ret
      exact ⟨rfl, Below.refl _ _⟩
/-- how many samples these series have -/
def sumS (L : List Ser) : Nat := (L.map fun x => x.smp.l.length).sum
end Go.Proofs.YthncochjhbmceaaGreat

namespace Go.Proofs.YthncochjhbmceaaGreat
set_option maxRecDepth 100000
open Go.RowKit

set_option maxHeartbeats 3200000 in
theorem entry_any (s : ByteArray) (t : Int) (w : World) :
    Calls Tryz.prog 26 #[.string s, .int .i64 t] w fun e w' => ∃ g, e = .returned (.agg #[.slice (some ⟨g, 0, none⟩) 1 1, .int .i64 t, .int .u64 7]) ∧ Whole1 w' g 70 #[.string ⟨#[97]⟩, .string s] ∧ w.heap.size ≤ g ∧ Below w.heap.size w w' := by
  go_enter Tryz.func26, Tryz.ntmps26
  go_wp2_with fail
  have hA := (Whole1.new w 93 #[.slice (some ⟨w.heap.size + 1, 0, none⟩) 1 1, .int .i64 t, .int .u64 7]).alloc (.cells #[.string ⟨#[97]⟩, .string s] 70)
  have hL := Whole1.new (w.alloc (.cells #[.slice (some ⟨w.heap.size + 1, 0, none⟩) 1 1, .int .i64 t, .int .u64 7] 93)) 70 #[.string ⟨#[97]⟩, .string s]
  rw [World.size_alloc] at hL
  have d0 := hA.cell 0
  have d1 := hA.cell 1
  have d2 := hA.cell 2
  refine bodyPost_ret (v := .agg #[.slice (some ⟨w.heap.size + 1, 0, none⟩) 1 1, .int .i64 t, .int .u64 7]) (by simp [results, Tryz.results26, go_sem, d0, d1, d2]) rfl ⟨w.heap.size + 1, rfl, hL, by omega, ((Below.refl _ _).alloc (Nat.le_refl _) _).alloc (by simp) _⟩
end Go.Proofs.YthncochjhbmceaaGreat

namespace Go.Proofs.YthncochjhbmceaaGreat
set_option maxRecDepth 100000
open Go.RowKit

/-- one label a=b -/
def oneH (b : UInt8) : List Lbl := [⟨⟨#[97]⟩, ⟨#[b]⟩⟩]
theorem validH_x : validP (oneH 120) := ⟨by decide +kernel, List.pairwise_singleton _ _⟩
theorem validH_y : validP (oneH 121) := ⟨by decide +kernel, List.pairwise_singleton _ _⟩
theorem oneH_ne : ¬ oneH 121 = oneH 120 := fun h => by
  injection h with h1 h2
  injection h1 with h3 h4
  exact absurd h4 (by decide)
def wakB : List EntP := [⟨oneH 120, 5, 7⟩, ⟨oneH 120, 5, 7⟩, ⟨oneH 121, 7, 7⟩]
theorem wak_plan : planB [] wakB = ⟨[(oneH 120, 5), (oneH 121, 7)], [oneH 120, oneH 121], [⟨0, 5, 7⟩, ⟨1, 7, 7⟩], [0, 270, 0]⟩ := by
  have e1 : entE ⟨oneH 120, 5, 7⟩ = 0 := by
    unfold entE
    rw [if_neg (by simp [enc_fit.2 validH_x]), if_neg (by simp)]
  have e2 : entE ⟨oneH 121, 7, 7⟩ = 0 := by
    unfold entE
    rw [if_neg (by simp [enc_fit.2 validH_y]), if_neg (by simp)]
  have s1 : planStep ⟨[], [], [], []⟩ ⟨oneH 120, 5, 7⟩ = ⟨[(oneH 120, 5)], [oneH 120], [⟨0, 5, 7⟩], [0]⟩ := by
    unfold planStep
    rw [if_neg (by simp [e1]), show atE (([] : List (List Lbl × Int)).map (·.1)) (oneH 120) = none from rfl]
    rfl
  have a1 : atE ([(oneH 120, (5 : Int))].map (·.1)) (oneH 120) = some 0 := by simp [atE]
  have s2 : planStep ⟨[(oneH 120, 5)], [oneH 120], [⟨0, 5, 7⟩], [0]⟩ ⟨oneH 120, 5, 7⟩ = ⟨[(oneH 120, 5)], [oneH 120], [⟨0, 5, 7⟩], [0, 270]⟩ := by
    unfold planStep
    rw [if_neg (by simp [e1])]
    simp only [a1]
    rw [if_pos (by simp [lastT])]
    rfl
  have a2 : atE ([(oneH 120, (5 : Int))].map (·.1)) (oneH 121) = none := by
    rw [atE_none]
    simp only [List.map_cons, List.map_nil, List.mem_singleton]
    exact oneH_ne
  have s3 : planStep ⟨[(oneH 120, 5)], [oneH 120], [⟨0, 5, 7⟩], [0, 270]⟩ ⟨oneH 121, 7, 7⟩ = ⟨[(oneH 120, 5), (oneH 121, 7)], [oneH 120, oneH 121], [⟨0, 5, 7⟩, ⟨1, 7, 7⟩], [0, 270, 0]⟩ := by
    unfold planStep
    rw [if_neg (by simp [e2])]
    simp only [a2]
    rfl
  simp only [planB, wakB, List.foldl_cons, List.foldl_nil, s1, s2, s3]
/-- an entry of the law's -/
def entH (g : Nat) (b : UInt8) (t : Int) : EntR := ⟨⟨some ⟨g, 0, none⟩, 1, 1, oneH b⟩, t, 7⟩
theorem lbf_one {w : World} {g : Nat} {b : UInt8} (h : Whole1 w g 70 #[.string ⟨#[97]⟩, .string ⟨#[b]⟩]) : LbF w (some ⟨g, 0, none⟩) 1 (oneH b) :=
  ⟨⟨rfl, fun _ => ⟨g, 0, rfl, h.lt, fun j _ => by rw [h.cell, Nat.zero_add]; simp [oneH, Lbl.cells]⟩⟩, rfl, by decide, fun x hx => by simp only [oneH, List.mem_singleton] at hx; subst hx; exact ⟨show 1 ≤ 140737488355328 from by decide, show 1 ≤ 140737488355328 from by decide⟩⟩
set_option maxHeartbeats 6400000 in
theorem wakes18_any (w : World) : Calls Tryz.prog 6 #[] w fun e w' => e = .returned (.bool true) ∧ Below w.heap.size w w' := by
  have S1 := hidden (hed_new w (base := w.heap.size) (Nat.le_refl _))
  go_enter Tryz.func6, Tryz.ntmps6
  go_wp2_with fail
  refine S1.out.mono ?_
  rintro e w1 ⟨h, rfl, hh1, b1⟩
  have HH1 := hidden hh1
  have HB1 := hidden b1
  have S2 := hidden (entry_any ⟨#[120]⟩ 5 w1)
  clear S1 hh1 b1
  go_wp2_with fail
  refine S2.out.mono ?_
  rintro e w2 ⟨g2, rfl, hg2, hl2, b2⟩
  have HG2 := hidden hg2
  have HH2 := hidden (HH1.out.below b2)
  have HB2 := hidden (HB1.out.trans (b2.mono HB1.out.size))
  have S3 := hidden (entry_any ⟨#[120]⟩ 5 w2)
  clear S2 hg2 hl2 b2 HH1 HB1
  go_wp2_with fail
  refine S3.out.mono ?_
  rintro e w3 ⟨g3, rfl, hg3, hl3, b3⟩
  have HG3 := hidden hg3
  have HG2 := hidden (HG2.out.below b3 HG2.out.lt)
  have HH3 := hidden (HH2.out.below b3)
  have HB3 := hidden (HB2.out.trans (b3.mono HB2.out.size))
  have S4 := hidden (entry_any ⟨#[121]⟩ 7 w3)
  clear S3 hg3 hl3 b3 HH2 HB2
  go_wp2_with fail
  refine S4.out.mono ?_
  rintro e w4 ⟨g4, rfl, hg4, hl4, b4⟩
  have HG4 := hidden hg4
  have HG2 := hidden (HG2.out.below b4 HG2.out.lt)
  have HG3 := hidden (HG3.out.below b4 HG3.out.lt)
  have HH4 := hidden (HH3.out.below b4)
  have HB4 := hidden (HB3.out.trans (b4.mono HB3.out.size))
  clear S4 hg4 hl4 b4 HH3 HB3
  obtain ⟨w5, hw5⟩ : ∃ w5, w4.alloc (.cells #[.slice (some ⟨g2, 0, none⟩) 1 1, .int .i64 5, .int .u64 7, .slice (some ⟨g3, 0, none⟩) 1 1, .int .i64 5, .int .u64 7, .slice (some ⟨g4, 0, none⟩) 1 1, .int .i64 7, .int .u64 7] 93) = w5 := ⟨_, rfl⟩
  have hb5 : Below w4.heap.size w4 w5 := hw5 ▸ (Below.refl _ _).alloc (Nat.le_refl _) _
  have hr5 : Row w5 w5.heap.size 3 (some ⟨w4.heap.size, 0, none⟩) 3 ([entH g2 120 5, entH g3 120 5, entH g4 121 7].flatMap EntR.cells) := by
    have := Row.fresh w4 93 3 3 [.slice (some ⟨g2, 0, none⟩) 1 1, .int .i64 5, .int .u64 7, .slice (some ⟨g3, 0, none⟩) 1 1, .int .i64 5, .int .u64 7, .slice (some ⟨g4, 0, none⟩) 1 1, .int .i64 7, .int .u64 7] rfl
    rw [hw5] at this
    exact this.more (by rw [← hw5]; simp)
  have hE5 : EntF w5 (some ⟨w4.heap.size, 0, none⟩) 3 [entH g2 120 5, entH g3 120 5, entH g4 121 7] := by
    refine ⟨hr5, rfl, by decide, fun x hx => ?_, fun x hx => ?_⟩
    · simp only [List.mem_cons, List.not_mem_nil, or_false] at hx
      rcases hx with rfl | rfl | rfl
      · exact ⟨(lbf_one HG2.out).on hb5, Nat.le_refl _⟩
      · exact ⟨(lbf_one HG3.out).on hb5, Nat.le_refl _⟩
      · exact ⟨(lbf_one HG4.out).on hb5, Nat.le_refl _⟩
    · simp only [List.mem_cons, List.not_mem_nil, or_false] at hx
      rcases hx with rfl | rfl | rfl <;> simp [entH]
  have S5 := hed_plan (some ⟨w4.heap.size, 0, none⟩) 3 3 _ w5 (HH4.out.below hb5) hE5 (by simp)
  rw [show T0 [] [] = [] from rfl, show [entH g2 120 5, entH g3 120 5, entH g4 121 7].map EntR.p = wakB from rfl, wak_plan] at S5
  have S5 := hidden S5
  have HH5 := hidden (HH4.out.below hb5)
  have HB5 := hidden (HB4.out.trans (hb5.mono HB4.out.size))
  clear hr5 hE5 hb5 HH4 HB4 HG2 HG3 HG4
  have I : PlanI (T0 [] []) ([entH g2 120 5, entH g3 120 5, entH g4 121 7].map EntR.p) ⟨[(oneH 120, 5), (oneH 121, 7)], [oneH 120, oneH 121], [⟨0, 5, 7⟩, ⟨1, 7, 7⟩], [0, 270, 0]⟩ := by
    rw [← wak_plan]
    exact planI (by simp [T0]) _
  have HI := hidden I
  clear I
  go_wp2_with fail
  refine S5.out.mono ?_
  rintro e w6 ⟨nv, pv, vv, L, rfl, hn, hp, hv, b6⟩
  obtain ⟨r, hrv, hr⟩ := planRec (w0 := w5) (E := []) (X := []) (xs := [entH g2 120 5, entH g3 120 5, entH g4 121 7]) hn hp HI.out rfl (by simp) (fun x hx => by
    simp only [List.mem_cons, List.not_mem_nil, or_false] at hx
    rcases hx with rfl | rfl | rfl <;> simp [entH])
  obtain ⟨Av, cv, rfl, _, hvr⟩ := own_shape hv
  obtain ⟨gv, ov, rfl, _, hvc⟩ := hvr.at_ (by simp)
  obtain ⟨⟨nA, nn, nc, nl⟩, ⟨pA, pn, pc, pl⟩, ⟨gA, gn, gc, gl⟩⟩ := r
  simp only [RecR.val, Sl.val, Value.agg.injEq, Array.mk.injEq, List.cons.injEq, and_true] at hrv
  obtain ⟨rfl, rfl, hgv⟩ := hrv
  simp only [Value.slice.injEq] at hgv
  obtain ⟨rfl, rfl, rfl⟩ := hgv
  have hnn : nn = 2 := hr.newsN
  have hpn : pn = 2 := hr.ptsN
  subst hnn hpn
  have v0 : w6.cell? ⟨gv, ov, none⟩ = some (.int .i64 0) := hvc 0 (by simp)
  have v1 : w6.cell? ⟨gv, ov + 1, none⟩ = some (.int .i64 270) := hvc 1 (by simp)
  have v2 : w6.cell? ⟨gv, ov + 2, none⟩ = some (.int .i64 0) := hvc 2 (by simp)
  have b7 : Below w6.heap.size w6 (w6.alloc (.cells #[.slice nA 2 nc, .slice pA 2 pc, .slice none 0 0] 31)) := (Below.refl _ _).alloc (Nat.le_refl _) _
  have hw7 := Whole1.new w6 31 #[.slice nA 2 nc, .slice pA 2 pc, .slice none 0 0]
  obtain ⟨w7, hw7e⟩ : ∃ w7, w6.alloc (.cells #[.slice nA 2 nc, .slice pA 2 pc, .slice none 0 0] 31) = w7 := ⟨_, rfl⟩
  obtain ⟨Z, hZ⟩ : ∃ Z, w6.heap.size = Z := ⟨_, rfl⟩
  rw [hw7e] at b7 hw7
  rw [hZ] at hw7
  have HH7 := hidden ((HH5.out.below b6).below b7)
  have HB7 := hidden ((HB5.out.trans (b6.mono HB5.out.size)).trans (b7.mono (Nat.le_trans HB5.out.size b6.size)))
  have HR7 := hidden (hr.turn (Turn.of_below b7 0 [] false) (by simp) (by simp) (by simp) (by simp))
  have u0 := (b7.cell (World.block_lt_of_cell? w6 _ v0)).trans v0
  have u1 := (b7.cell (World.block_lt_of_cell? w6 _ v1)).trans v1
  have u2 := (b7.cell (World.block_lt_of_cell? w6 _ v2)).trans v2
  have r0 := hw7.cell 0
  have r1 := hw7.cell 1
  have r2 := hw7.cell 2
  have S6 := apply_plan w7 HH7.out HB7.out.size (s := ⟨[(oneH 120, 5), (oneH 121, 7)], [oneH 120, oneH 121], [⟨0, 5, 7⟩, ⟨1, 7, 7⟩], [0, 270, 0]⟩) ⟨⟨nA, 2, nc, nl⟩, ⟨pA, 2, pc, pl⟩, ⟨none, 0, 0, gl⟩⟩ HR7.out HI.out (by simp) (by simp [cntP])
  have S6 := hidden S6
  simp only [RecR.val, Sl.val] at S6
  have HW7 := hidden hw7e
  have HZ := hidden hZ
  clear S5 hn hp hv hvr hvc b6 hr v0 v1 v2 b7 hw7 HH5 HB5 HR7 hw7e hZ
  go_upto_region 3 with (fail)
  rw [HW7.out, HZ.out]
  go_wp2_with fail
  refine S6.out.mono ?_
  rintro e w8 ⟨X8, he, hh8, hp8, t8⟩
  obtain rfl : e = .returned (.int .i64 0) := by simpa using he
  have hmx : X8.map HsR.mx = [5, 7] := by
    have h1 := congrArg (List.map SerP.mx) hp8
    rw [List.map_map] at h1
    refine h1.trans ?_
    unfold afterS
    rw [putsP_mx]
    rfl
  have S7 := hed_max w8 hh8 (by simp)
  rw [hmx] at S7
  have S7 := hidden S7
  have HH8 := hidden hh8
  have HB8 := hidden (HB7.out.trans (t8.below (Nat.le_refl _) HB7.out.size))
  clear S6 he hh8 hp8 t8 hmx u0 u1 u2 r0 r1 r2
  go_wp2_with fail
  refine S7.out.mono ?_
  rintro e w9 ⟨rfl, b9⟩
  have HB9 := hidden (HB8.out.trans (b9.mono HB8.out.size))
  have S8 := hidden (hed_len w9 (HH8.out.below b9))
  have hm7 : maxL [5, 7] = 7 := rfl
  rw [hm7]
  clear S7 b9 hm7
  go_wp2_with fail
  refine S8.out.mono ?_
  rintro e w10 ⟨rfl, rfl⟩
  go_wp2_with fail
  go_ret
  exact ⟨rfl, HB9.out⟩
end Go.Proofs.YthncochjhbmceaaGreat

namespace Go.Proofs.YthncochjhbmceaaGreat
set_option maxRecDepth 100000
open Go.RowKit Go.WideShapes

instance : Inhabited EntR := ⟨⟨Sl.nil, 0, 0⟩⟩
/-- a slice's value alone -/
structure SlV where
  A : Option Addr
  n : Nat
  c : Nat
def SlV.val (s : SlV) : Value := .slice s.A s.n s.c
/-- a call of a script, as it lies: its kind, its batch, and what else it holds -/
structure OpR where
  kind : Int
  bat : Sl EntR
  s2 : SlV
  s3 : SlV
  s4 : SlV
  i5 : Int
  i6 : Int
  i7 : Int
  i8 : Int
  i9 : Int
  i10 : Int
  i11 : Int
  i12 : Int
  s13 : SlV
def OpR.cells (x : OpR) : List Value := [.int .i64 x.kind, x.bat.val, x.s2.val, x.s3.val, x.s4.val, .int .i64 x.i5, .int .i64 x.i6, .int .i64 x.i7, .int .i64 x.i8, .int .i64 x.i9, .int .i64 x.i10, .int .i64 x.i11, .int .i64 x.i12, x.s13.val]
instance : Inhabited OpR := ⟨⟨0, Sl.nil, ⟨none, 0, 0⟩, ⟨none, 0, 0⟩, ⟨none, 0, 0⟩, 0, 0, 0, 0, 0, 0, 0, 0, ⟨none, 0, 0⟩⟩⟩
def EntR.fit (w : World) (x : EntR) : Prop := (LbF w x.lab.A x.lab.n x.lab.l ∧ x.lab.n ≤ x.lab.c) ∧ -9223372036854775808 ≤ x.t ∧ x.t < 9223372036854775808 ∧ x.v < 18446744073709551616
/-- a script's calls -/
structure OpsF (w : World) (A : Option Addr) (n : Nat) (os : List OpR) : Prop where
  row : Row w w.heap.size 14 A n (os.flatMap OpR.cells)
  len : os.length = n
  few : n ≤ 1048576
  ent : ∀ o ∈ os, EntF w o.bat.A o.bat.n o.bat.l
theorem OpsF.on {w w' : World} {A : Option Addr} {n : Nat} {os : List OpR} (h : OpsF w A n os) (hb : Below w.heap.size w w') : OpsF w' A n os :=
  ⟨(h.row.below hb).more hb.size, h.len, h.few, fun o ho => (h.ent o ho).on hb⟩

section
variable {H : Type} {enc : TypeId × Value → H} {W : World} {b : Nat}
theorem opens_ent : Opens enc Tryz.prog W b 93 EntR.cells (fun x => x.fit W) := by
  intro fuel cs x h hf
  obtain ⟨n, hl, hp⟩ := open_ones Tryz.underlying93 (by kernel_rfl) (by kernel_rfl) h hf
  obtain ⟨u0, y0, c0, t0, f0⟩ := hp 0 _ rfl
  obtain ⟨u1, y1, c1, t1, f1⟩ := hp 1 _ rfl
  obtain ⟨u2, y2, c2, t2, f2⟩ := hp 2 _ rfl
  obtain ⟨s0, e0, ⟨h1, h2, h3⟩, h4, h5, _⟩ := opens_slice (k := 2) (f := Lbl.cells) Tryz.underlying61 (by kernel_rfl) (by decide) (fun _ => rfl) opens_lblS _ _ _ t0 f0
  obtain ⟨s1, e1, g1⟩ := opens_int Tryz.underlying2 _ _ _ t1 f1
  obtain ⟨s2, e2, g2⟩ := opens_int Tryz.underlying66 _ _ _ t2 f2
  simp only [List.cons.injEq, and_true] at e0 e1 e2
  subst e0 e1 e2
  rw [show Tryz.prog.bytesOf 70 = 32 from by kernel_rfl] at h5
  unfold reachBytes at h5
  have w1 := wf_i64 g1
  have w2 := wf_u64 g2
  match cs, hl with
  | [a, c, d], _ =>
    simp only [List.getElem?_cons_zero, List.getElem?_cons_succ, Option.some.injEq] at c0 c1 c2
    refine ⟨⟨s0, s1, s2.toNat⟩, ?_, ⟨⟨h3, h2, by simp only; omega, h4⟩, h1⟩, w1.1, w1.2, ?_⟩
    · have : ((s2.toNat : Nat) : Int) = s2 := by omega
      rw [c0, c1, c2]
      show _ = [s0.val, Value.int .i64 s1, Value.int .u64 ((s2.toNat : Nat) : Int)]
      rw [this]
    · show s2.toNat < _
      omega
/-- a batch, with its bulk -/
theorem opens_bat : OpensB enc Tryz.prog W b 23 (fun s : Sl EntR => [s.val]) (fun s => s.At W W.heap.size 3 EntR.cells ∧ (∀ a ∈ s.l, a.fit W) ∧ s.n * Tryz.prog.bytesOf 93 ≤ reachBytes ∧ s.n ≤ b) (fun s => (s.l.map fun _ => 1).sum) :=
  opens_slice_b (k := 3) (f := EntR.cells) Tryz.underlying23 (by kernel_rfl) (by decide) (fun _ => rfl) opens_ent.one
theorem ones_sum {α : Type} (l : List α) : (l.map fun _ => 1).sum = l.length := by
  induction l with
  | nil => rfl
  | cons a l ih => simp only [List.map_cons, List.sum_cons, List.length_cons, ih]; omega
theorem entF_of {s : Sl EntR} (h : s.At W W.heap.size 3 EntR.cells) (hf : ∀ a ∈ s.l, a.fit W) (hn : s.n ≤ 1048576) : EntF W s.A s.n s.l :=
  ⟨h.2.2, h.2.1, hn, fun x hx => (hf x hx).1, fun x hx => (hf x hx).2⟩
theorem open_shape {P : Program} {t e : TypeId} {fuel : Nat} {cs : List Value} {x : DataW H × List MemPlace} (ht : P.underlying t = some (.slice e)) (h : DataW.trod enc P W 0 (fun _ => true) true fuel t cs = some x) : ∃ s : SlV, cs = [s.val] := by
  rcases Deep.open_slice ht h with ⟨hcs, _⟩ | ⟨a, len, cap, _, _, _, _, hcs, _⟩
  · exact ⟨⟨none, 0, 0⟩, hcs⟩
  · exact ⟨⟨some a, len, cap⟩, hcs⟩
/-- three numbers in a row -/
theorem open_three {fuel : Nat} {c0 c1 c2 : Value} {x : DataW H × List MemPlace} (h : DataW.trod enc Tryz.prog W 0 (fun _ => true) true fuel 34 [c0, c1, c2] = some x) :
    ∃ x0 x1 x2 : Int, c0 = .int .i64 x0 ∧ c1 = .int .i64 x1 ∧ c2 = .int .i64 x2 := by
  obtain ⟨y0, y1, y2, n, rfl, h0, h1, h2⟩ := Go.ChangeShapes.trod_array3 Tryz.underlying34 (by kernel_rfl) h
  obtain ⟨s0, e0, _⟩ := DataW.trod_int Tryz.underlying2 h0
  obtain ⟨s1, e1, _⟩ := DataW.trod_int Tryz.underlying2 h1
  obtain ⟨s2, e2, _⟩ := DataW.trod_int Tryz.underlying2 h2
  simp only [List.cons.injEq, and_true] at e0 e1 e2
  exact ⟨s0, s1, s2, e0, e1, e2⟩
theorem opens_op (hb : b ≤ 1048576) : OpensB enc Tryz.prog W b 37 OpR.cells (fun o => EntF W o.bat.A o.bat.n o.bat.l) (fun o => o.bat.n) := by
  intro fuel cs x h hf
  obtain ⟨n, hl, hp⟩ := open_parts (b := Rows.uptoBulk x.1) Tryz.underlying37 h ⟨hf.old, hf.light, Nat.le_refl _⟩
  obtain ⟨y0, t0, f0⟩ := hp 0 _ rfl
  obtain ⟨y1, t1, f1⟩ := hp 1 _ rfl
  obtain ⟨y2, t2, f2⟩ := hp 2 _ rfl
  obtain ⟨y3, t3, f3⟩ := hp 3 _ rfl
  obtain ⟨y4, t4, f4⟩ := hp 4 _ rfl
  obtain ⟨y5, t5, f5⟩ := hp 5 _ rfl
  obtain ⟨y6, t6, f6⟩ := hp 6 _ rfl
  rw [show Tryz.prog.cellsOf 37 = 14 from by kernel_rfl] at hl
  match cs, hl with
  | [a0, a1, a2, a3, a4, a5, a6, a7, a8, a9, a10, a11, a12, a13], _ =>
    have k0 : DataW.trod enc Tryz.prog W 0 (fun _ => true) true n 3 (([a0, a1, a2, a3, a4, a5, a6, a7, a8, a9, a10, a11, a12, a13].drop 0).take (Tryz.prog.cellsOf 3)) = some y0 := t0
    have k1 : DataW.trod enc Tryz.prog W 0 (fun _ => true) true n 23 (([a0, a1, a2, a3, a4, a5, a6, a7, a8, a9, a10, a11, a12, a13].drop 1).take (Tryz.prog.cellsOf 23)) = some y1 := t1
    have k2 : DataW.trod enc Tryz.prog W 0 (fun _ => true) true n 31 (([a0, a1, a2, a3, a4, a5, a6, a7, a8, a9, a10, a11, a12, a13].drop 2).take (Tryz.prog.cellsOf 31)) = some y2 := t2
    have k3 : DataW.trod enc Tryz.prog W 0 (fun _ => true) true n 33 (([a0, a1, a2, a3, a4, a5, a6, a7, a8, a9, a10, a11, a12, a13].drop 5).take (Tryz.prog.cellsOf 33)) = some y3 := t3
    have k4 : DataW.trod enc Tryz.prog W 0 (fun _ => true) true n 34 (([a0, a1, a2, a3, a4, a5, a6, a7, a8, a9, a10, a11, a12, a13].drop 7).take (Tryz.prog.cellsOf 34)) = some y4 := t4
    have k5 : DataW.trod enc Tryz.prog W 0 (fun _ => true) true n 34 (([a0, a1, a2, a3, a4, a5, a6, a7, a8, a9, a10, a11, a12, a13].drop 10).take (Tryz.prog.cellsOf 34)) = some y5 := t5
    have k6 : DataW.trod enc Tryz.prog W 0 (fun _ => true) true n 35 (([a0, a1, a2, a3, a4, a5, a6, a7, a8, a9, a10, a11, a12, a13].drop 13).take (Tryz.prog.cellsOf 35)) = some y6 := t6
    rw [show Tryz.prog.cellsOf 3 = 1 from by kernel_rfl] at k0
    rw [show Tryz.prog.cellsOf 23 = 1 from by kernel_rfl] at k1
    rw [show Tryz.prog.cellsOf 31 = 3 from by kernel_rfl] at k2
    rw [show Tryz.prog.cellsOf 33 = 2 from by kernel_rfl] at k3
    rw [show Tryz.prog.cellsOf 34 = 3 from by kernel_rfl] at k4 k5
    rw [show Tryz.prog.cellsOf 35 = 1 from by kernel_rfl] at k6
    simp only [List.drop_zero, List.drop_succ_cons, List.take_succ_cons, List.take_zero] at k0 k1 k2 k3 k4 k5 k6
    clear t0 t1 t2 t3 t4 t5 t6
    obtain ⟨s0, e0, _⟩ := opens_int Tryz.underlying3 _ _ _ k0 f0
    obtain ⟨s1, e1, ⟨h1, h2, _, h4⟩, hw⟩ := opens_bat _ _ _ k1 f1
    obtain ⟨m, hlm, hq⟩ := open_ones Tryz.underlying31 (by kernel_rfl) (by kernel_rfl) k2 f2
    obtain ⟨u0, z0, c0, q0, _⟩ := hq 0 _ rfl
    obtain ⟨u1, z1, c1, q1, _⟩ := hq 1 _ rfl
    obtain ⟨u2, z2, c2, q2, _⟩ := hq 2 _ rfl
    obtain ⟨r0, j0⟩ := open_shape Tryz.underlying27 q0
    obtain ⟨r1, j1⟩ := open_shape Tryz.underlying28 q1
    obtain ⟨r2, j2⟩ := open_shape Tryz.underlying29 q2
    obtain ⟨m2, hlm2, hq2⟩ := open_ones Tryz.underlying33 (by kernel_rfl) (by kernel_rfl) k3 f3
    obtain ⟨u3, z3, c3, q3, m3⟩ := hq2 0 _ rfl
    obtain ⟨u4, z4, c4, q4, m4⟩ := hq2 1 _ rfl
    obtain ⟨p3, j3, _⟩ := opens_int Tryz.underlying2 _ _ _ q3 m3
    obtain ⟨p4, j4, _⟩ := opens_int Tryz.underlying2 _ _ _ q4 m4
    obtain ⟨l0, l1, l2, rfl, rfl, rfl⟩ := open_three k4
    obtain ⟨d0, d1, d2, rfl, rfl, rfl⟩ := open_three k5
    obtain ⟨r6, j6⟩ := open_shape Tryz.underlying35 k6
    simp only [List.cons.injEq, and_true] at e0 e1 j0 j1 j2 j3 j4 j6
    simp only [List.getElem?_cons_zero, List.getElem?_cons_succ, Option.some.injEq] at c0 c1 c2 c3 c4
    subst e0 e1 j6
    have hw2 : (s1.l.map fun _ => 1).sum ≤ Rows.uptoBulk y1.1 := hw
    rw [ones_sum, h1.2.1] at hw2
    have h5 := f1.small
    have h6 := hf.small
    refine ⟨⟨s0, s1, r0, r1, r2, p3, p4, l0, l1, l2, d0, d1, d2, r6⟩, ?_, entF_of h1 h2 (by simp only at *; omega), Nat.le_trans hw2 h5⟩
    rw [c0, c1, c2, c3, c4, j0, j1, j2, j3, j4]
    rfl
theorem open_ops {base : Nat} {v : Value} {d : DataW H} {ps : List MemPlace} (hd : Rows.uptoBulk d ≤ 1048576) (hv : Value.okWide Tryz.prog W .any base 22 v) (h : DataW.Trod enc Tryz.prog W 0 (fun _ => true) true 22 v d ps) (hF : Fits Tryz.prog W b 22 (d, ps)) :
    ∃ (A : Option Addr) (n c : Nat) (os : List OpR), v = .slice A n c ∧ OpsF W A n os ∧ (os.map fun o => o.bat.n).sum ≤ Rows.uptoBulk d := by
  have hF2 : Fits Tryz.prog W (Rows.uptoBulk d) 22 (d, ps) := ⟨hF.old, hF.light, Nat.le_refl _⟩
  obtain ⟨s, rfl, ⟨⟨h1, h2, h3⟩, h4, h5, h6⟩, hw⟩ := open_arg_slice_b (k := 14) (f := OpR.cells) Tryz.underlying22 (by kernel_rfl) (by decide) (fun _ => rfl) (opens_op hd) hv h hF2
  exact ⟨s.A, s.n, s.c, s.l, rfl, ⟨h3, h2, by omega, h4⟩, hw⟩
end
end Go.Proofs.YthncochjhbmceaaGreat

namespace Go.Proofs.YthncochjhbmceaaGreat
set_option maxRecDepth 100000
open Go.RowKit Go.WideShapes Go.ChangeShapes

/-- how many entries the first k calls bring -/
def usedN (os : List OpR) (k : Nat) : Nat := ((os.take k).map fun o => o.bat.n).sum
theorem usedN_snoc {os : List OpR} {k : Nat} {o : OpR} (h : os[k]? = some o) : usedN os (k + 1) = usedN os k + o.bat.n := by
  unfold usedN
  rw [take_snoc? h]
  simp
theorem usedN_le (os : List OpR) (k : Nat) : usedN os k ≤ (os.map fun o => o.bat.n).sum := by
  have h : (os.map fun o => o.bat.n).sum = usedN os k + ((os.drop k).map fun o => o.bat.n).sum := by
    unfold usedN
    rw [← List.sum_append, ← List.map_append, List.take_append_drop]
  omega
/-- a head that plans made of so many entries -/
structure MadeH (w : World) (base h : Nat) (E : List (List Lbl)) (X : List HsR) (c : Nat) : Prop where
  hed : Hed w base h E X
  inv : HInv (X.map HsR.p)
  few : E.length ≤ c
  cnt : cntP (X.map HsR.p) ≤ c
theorem MadeH.below {w w' : World} {base h c : Nat} {E : List (List Lbl)} {X : List HsR} (k : MadeH w base h E X c) (hb : Below w.heap.size w w') : MadeH w' base h E X c := ⟨k.hed.below hb, k.inv, k.few, k.cnt⟩
theorem MadeH.more {w : World} {base h c c' : Nat} {E : List (List Lbl)} {X : List HsR} (k : MadeH w base h E X c) (hc : c ≤ c') : MadeH w base h E X c' := ⟨k.hed, k.inv, Nat.le_trans k.few hc, Nat.le_trans k.cnt hc⟩
/-- a plan over a head that plans made -/
theorem MadeH.plan {w : World} {base h c : Nat} {E : List (List Lbl)} {X : List HsR} (k : MadeH w base h E X c) (xs : List EntR) : PlanI (T0 E X) (xs.map EntR.p) (planB (T0 E X) (xs.map EntR.p)) := by
  obtain ⟨_, _, hb⟩ := k.hed
  have h1 : (T0 E X).map (·.1) = E := by unfold T0; exact List.map_fst_zip (by rw [List.length_map, hb.len]; exact Nat.le_refl _)
  exact planI (by rw [h1]; exact hb.idx.valid.2) _
theorem MadeH.tk {w : World} {base h c : Nat} {E : List (List Lbl)} {X : List HsR} (k : MadeH w base h E X c) {xs : List EntR} (hx : ∀ x ∈ xs, x.v < 18446744073709551616) : TookP E (X.map HsR.p) (xs.map EntR.p) (planB (T0 E X) (xs.map EntR.p)) := by
  obtain ⟨_, _, hb⟩ := k.hed
  have := Go.Proofs.YthncochjhbmceaaGreat.took (E := E) (S := X.map HsR.p) k.inv (by rw [List.length_map]; exact hb.len) hb.idx.valid.2 (xs.map EntR.p) (fun x hx2 => by obtain ⟨y, hy, rfl⟩ := List.mem_map.1 hx2; exact hx y hy)
  rw [← t0_of] at this
  exact this
/-- what a plan that took effect made -/
theorem MadeH.applied {w w' : World} {base h c n : Nat} {E : List (List Lbl)} {X X' : List HsR} (k : MadeH w base h E X c) {xs : List EntR} (hx : ∀ x ∈ xs, x.v < 18446744073709551616) (hn : xs.length = n)
    (hh : Hed w' base h (E ++ (planB (T0 E X) (xs.map EntR.p)).N) X') (hp : X'.map HsR.p = afterS (X.map HsR.p) (planB (T0 E X) (xs.map EntR.p))) : MadeH w' base h (E ++ (planB (T0 E X) (xs.map EntR.p)).N) X' (c + n) := by
  have ht := k.tk hx
  have I := k.plan xs
  have h1 := I.few
  have h2 := plan_few I
  rw [List.length_map, hn] at h2
  refine ⟨hh, by rw [hp]; exact ht.inv, ?_, ?_⟩
  · rw [List.length_append]; have := k.few; omega
  · rw [hp, ht.cnt]; have := k.cnt; omega
end Go.Proofs.YthncochjhbmceaaGreat
