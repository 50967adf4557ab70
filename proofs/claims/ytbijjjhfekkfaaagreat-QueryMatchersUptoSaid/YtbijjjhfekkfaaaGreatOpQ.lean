/- A query's case, opened (almanaclaw26). No condition. -/
import Derived.Test.YtbijjjhfekkfaaaGreatOpA26
import Derived.Test.YtbijjjhfekkfaaaGreatPkf1d7150c
import Derived.Test.YtbijjjhfekkfaaaGreatLabOp
import Derived.Test.YtbijjjhfekkfaaaGreatPkc02694b5
namespace Go.Proofs.YtbijjjhfekkfaaaGreat
set_option maxRecDepth 100000
open Go.RowKit Go.WideShapes

/-- a query's case, as it lies -/
structure CaseV where
  r : Int
  fr : Int
  tt : Int
  ask : Sl Ask
  lo0 : Int
  lo1 : Int
  lo2 : Int
  rd0 : Int
  rd1 : Int
  rd2 : Int
  gon : Sl Gon
  src : Sl (Sl Ser)
def CaseV.val (x : CaseV) : Value := .agg #[.int .i64 x.r, .int .i64 x.fr, .int .i64 x.tt, x.ask.val, .int .i64 x.lo0, .int .i64 x.lo1, .int .i64 x.lo2, .int .i64 x.rd0, .int .i64 x.rd1, .int .i64 x.rd2, x.gon.val, x.src.val]
/-- what a case must be -/
structure CaseV.Ok (w : World) (x : CaseV) : Prop where
  fr : -9223372036854775808 ≤ x.fr ∧ x.fr < 9223372036854775808
  tt : -9223372036854775808 ≤ x.tt ∧ x.tt < 9223372036854775808
  rds : ∀ y ∈ [x.rd0, x.rd1, x.rd2], -9223372036854775808 ≤ y ∧ y < 9223372036854775808
  ask : AskF w x.ask.A x.ask.n x.ask.l
  askn : x.ask.n ≤ 1048576
  gon : GonsAt w x.gon.A x.gon.n x.gon.l
  src : SLL w x.src.A x.src.n x.src.l
  few : wsum (x.src.l.flatMap Sl.l) + total x.src.l ≤ 1048576
  lbl : ∀ s ∈ x.src.l, ∀ y ∈ s.l, ∀ z ∈ y.lab.l, z.name.size ≤ 140737488355328 ∧ z.value.size ≤ 140737488355328
theorem CaseV.Ok.on {w w' : World} {x : CaseV} (h : x.Ok w) (hb : Below w.heap.size w w') : x.Ok w' := ⟨h.fr, h.tt, h.rds, h.ask.on hb, h.askn, h.gon.on hb, h.src.on hb, h.few, h.lbl⟩
theorem wsum_leQ : ∀ (l : List Ser), wsum l + l.length = (l.map fun x => x.smp.n + x.win.n + 1).sum
  | [] => rfl
  | x :: l => by
    have ih := wsum_leQ l
    have e : wsum (x :: l) = x.smp.n + x.win.n + wsum l := by simp [wsum]
    rw [e, List.length_cons, List.map_cons, List.sum_cons, ← ih]
    omega
theorem lists_sumQ : ∀ (LL : List (Sl Ser)), (∀ s ∈ LL, s.l.length = s.n) → (LL.map fun s => (s.l.map fun x => x.smp.n + x.win.n + 1).sum).sum = wsum (LL.flatMap Sl.l) + total LL
  | [], _ => rfl
  | s :: LL, h => by
    have ih := lists_sumQ LL fun z hz => h z (List.mem_cons_of_mem _ hz)
    have h1 := h s (by simp)
    have h2 := wsum_leQ s.l
    have e1 : wsum ((s :: LL).flatMap Sl.l) = wsum s.l + wsum (LL.flatMap Sl.l) := by simp [wsum]
    have e2 : total (s :: LL) = s.n + total LL := rfl
    rw [List.map_cons, List.sum_cons, ih, e1, e2, ← h2]
    omega
theorem flat_oneQ (LL : List (Sl Ser)) : LL.flatMap (fun s => [s.val]) = LL.map Sl.val := by
  induction LL with
  | nil => rfl
  | cons a l ih => rw [List.flatMap_cons, ih]; rfl

section
variable {H : Type} {enc : TypeId × Value → H} {W : World} {b : Nat}
theorem opens_serQ : OpensB enc Tryz.prog W b 57 Ser.cells (fun s => (s.At W W.heap.size ∧ s.Ok b) ∧ ∀ y ∈ s.lab.l, y.name.size ≤ 140737488355328 ∧ y.value.size ≤ 140737488355328) (fun s => s.smp.n + s.win.n + 1) := by
  intro fuel cs x h hf
  obtain ⟨n, ys, hl, hyl, hsum, hp⟩ := open_ones_b Tryz.underlying57 (by kernel_rfl) (by kernel_rfl) h hf
  obtain ⟨u0, y0, c0, z0, t0, f0⟩ := hp 0 _ rfl
  obtain ⟨u1, y1, c1, z1, t1, f1⟩ := hp 1 _ rfl
  obtain ⟨u2, y2, c2, z2, t2, f2⟩ := hp 2 _ rfl
  obtain ⟨s0, e0, g0, _⟩ := opens_slice_b (k := 2) (f := Lbl.cells) Tryz.underlying53 (by kernel_rfl) (by decide) (fun _ => rfl) opens_lblS.one _ _ _ t0 f0
  obtain ⟨s1, e1, g1, w1⟩ := opens_slice_b (k := 2) (f := Smp.cells) Tryz.underlying54 (by kernel_rfl) (by decide) (fun _ => rfl) opens_smp.one _ _ _ t1 f1
  obtain ⟨s2, e2, g2, w2⟩ := opens_slice_b (k := 6) (f := Win.cells) Tryz.underlying55 (by kernel_rfl) (by decide) (fun _ => rfl) opens_win.one _ _ _ t2 f2
  simp only [List.cons.injEq, and_true] at e0 e1 e2
  subst e0 e1 e2
  have hone : ∀ {α : Type} (l : List α), (l.map fun _ => 1).sum = l.length := fun l => by
    induction l with
    | nil => rfl
    | cons a l ih => simp only [List.map_cons, List.sum_cons, List.length_cons, ih]; omega
  simp only [hone] at w1 w2
  have a1 := g1.1.2.1
  have a2 := g2.1.2.1
  match cs, hl, ys, hyl with
  | [a, c, d], _, [p, q, r], _ =>
    simp only [List.getElem?_cons_zero, List.getElem?_cons_succ, Option.some.injEq] at c0 c1 c2 z0 z1 z2
    subst z0 z1 z2
    have hb0 := bulk_pos p.1
    simp only [List.map_cons, List.map_nil, Rows.uptoBulkAll] at hsum
    refine ⟨⟨s0, s1, s2⟩, by rw [c0, c1, c2]; rfl, ⟨⟨⟨g0.1, g1.1, g2.1⟩, g1.2.1, g2.2.1, g0.2.2.1, g1.2.2.1, g2.2.2.1, g0.2.2.2, g1.2.2.2, g2.2.2.2⟩, g0.2.1⟩, ?_⟩
    show s1.n + s2.n + 1 ≤ _
    omega
theorem opens_sersQ : OpensB enc Tryz.prog W b 43 (fun s : Sl Ser => [s.val]) (fun s => s.At W W.heap.size 3 Ser.cells ∧ (∀ x ∈ s.l, (x.At W W.heap.size ∧ x.Ok b) ∧ ∀ y ∈ x.lab.l, y.name.size ≤ 140737488355328 ∧ y.value.size ≤ 140737488355328) ∧ s.n * Tryz.prog.bytesOf 57 ≤ reachBytes ∧ s.n ≤ b) (fun s => (s.l.map fun x => x.smp.n + x.win.n + 1).sum) :=
  opens_slice_b (k := 3) (f := Ser.cells) Tryz.underlying43 (by kernel_rfl) (by decide) (fun _ => rfl) opens_serQ
/-- three numbers in a row -/
theorem open_nums3 {fuel : Nat} {c0 c1 c2 : Value} {x : DataW H × List MemPlace} (h : DataW.trod enc Tryz.prog W 0 (fun _ => true) true fuel 36 [c0, c1, c2] = some x) (hf : Fits Tryz.prog W b 36 x) :
    ∃ x0 x1 x2 : Int, (c0 = .int .i64 x0 ∧ c1 = .int .i64 x1 ∧ c2 = .int .i64 x2) ∧ ∀ y ∈ [x0, x1, x2], -9223372036854775808 ≤ y ∧ y < 9223372036854775808 := by
  obtain ⟨m, z0, z1, z2, ⟨r0, q0⟩, ⟨r1, q1⟩, ⟨r2, q2⟩⟩ := open_arr3 Tryz.underlying36 (by kernel_rfl) h hf
  obtain ⟨s0, e0, g0⟩ := opens_int Tryz.underlying2 _ _ _ r0 q0
  obtain ⟨s1, e1, g1⟩ := opens_int Tryz.underlying2 _ _ _ r1 q1
  obtain ⟨s2, e2, g2⟩ := opens_int Tryz.underlying2 _ _ _ r2 q2
  simp only [List.cons.injEq, and_true] at e0 e1 e2
  refine ⟨s0, s1, s2, ⟨e0, e1, e2⟩, fun y hy => ?_⟩
  have w0 := wf_i64 g0
  have w1 := wf_i64 g1
  have w2 := wf_i64 g2
  simp only [List.mem_cons, List.not_mem_nil, or_false] at hy
  rcases hy with rfl | rfl | rfl
  · exact w0
  · exact w1
  · exact w2
theorem open_case {base : Nat} {v : Value} {d : DataW H} {ps : List MemPlace} (hv : Value.okWide Tryz.prog W .any base 42 v) (h : DataW.Trod enc Tryz.prog W 0 (fun _ => true) true 42 v d ps) (hF : Fits Tryz.prog W 1048576 42 (d, ps)) :
    ∃ x : CaseV, v = x.val ∧ x.Ok W := by
  obtain ⟨cs, rfl, hcs⟩ := okWide_struct Tryz.underlying42 hv
  obtain ⟨fuel, hf⟩ := h
  obtain ⟨n, hl, hp⟩ := open_parts Tryz.underlying42 hf hF
  obtain ⟨y0, t0, f0⟩ := hp 0 _ rfl
  obtain ⟨y1, t1, f1⟩ := hp 1 _ rfl
  obtain ⟨y2, t2, f2⟩ := hp 2 _ rfl
  obtain ⟨y3, t3, f3⟩ := hp 3 _ rfl
  obtain ⟨y4, t4, f4⟩ := hp 4 _ rfl
  obtain ⟨y5, t5, f5⟩ := hp 5 _ rfl
  obtain ⟨y6, t6, f6⟩ := hp 6 _ rfl
  rw [show Tryz.prog.cellsOf 42 = 12 from by kernel_rfl] at hl
  obtain ⟨l⟩ := cs
  simp only [Value.cells] at t0 t1 t2 t3 t4 t5 t6 hl
  clear hp hf hcs hv
  match l, hl with
  | [a0, a1, a2, a3, a4, a5, a6, a7, a8, a9, a10, a11], _ =>
    have k0 : DataW.trod enc Tryz.prog W 0 (fun _ => true) true n 3 (([a0, a1, a2, a3, a4, a5, a6, a7, a8, a9, a10, a11].drop 0).take (Tryz.prog.cellsOf 3)) = some y0 := t0
    have k1 : DataW.trod enc Tryz.prog W 0 (fun _ => true) true n 2 (([a0, a1, a2, a3, a4, a5, a6, a7, a8, a9, a10, a11].drop 1).take (Tryz.prog.cellsOf 2)) = some y1 := t1
    have k2 : DataW.trod enc Tryz.prog W 0 (fun _ => true) true n 2 (([a0, a1, a2, a3, a4, a5, a6, a7, a8, a9, a10, a11].drop 2).take (Tryz.prog.cellsOf 2)) = some y2 := t2
    have k3 : DataW.trod enc Tryz.prog W 0 (fun _ => true) true n 35 (([a0, a1, a2, a3, a4, a5, a6, a7, a8, a9, a10, a11].drop 3).take (Tryz.prog.cellsOf 35)) = some y3 := t3
    have k4 : DataW.trod enc Tryz.prog W 0 (fun _ => true) true n 38 (([a0, a1, a2, a3, a4, a5, a6, a7, a8, a9, a10, a11].drop 4).take (Tryz.prog.cellsOf 38)) = some y4 := t4
    have k5 : DataW.trod enc Tryz.prog W 0 (fun _ => true) true n 39 (([a0, a1, a2, a3, a4, a5, a6, a7, a8, a9, a10, a11].drop 10).take (Tryz.prog.cellsOf 39)) = some y5 := t5
    have k6 : DataW.trod enc Tryz.prog W 0 (fun _ => true) true n 40 (([a0, a1, a2, a3, a4, a5, a6, a7, a8, a9, a10, a11].drop 11).take (Tryz.prog.cellsOf 40)) = some y6 := t6
    rw [show Tryz.prog.cellsOf 3 = 1 from by kernel_rfl] at k0
    rw [show Tryz.prog.cellsOf 2 = 1 from by kernel_rfl] at k1 k2
    rw [show Tryz.prog.cellsOf 35 = 1 from by kernel_rfl] at k3
    rw [show Tryz.prog.cellsOf 38 = 6 from by kernel_rfl] at k4
    rw [show Tryz.prog.cellsOf 39 = 1 from by kernel_rfl] at k5
    rw [show Tryz.prog.cellsOf 40 = 1 from by kernel_rfl] at k6
    simp only [List.drop_zero, List.drop_succ_cons, List.take_succ_cons, List.take_zero] at k0 k1 k2 k3 k4 k5 k6
    clear t0 t1 t2 t3 t4 t5 t6
    obtain ⟨s0, e0, _⟩ := opens_int Tryz.underlying3 _ _ _ k0 f0
    obtain ⟨s1, e1, g1⟩ := opens_int Tryz.underlying2 _ _ _ k1 f1
    obtain ⟨s2, e2, g2⟩ := opens_int Tryz.underlying2 _ _ _ k2 f2
    obtain ⟨s3, e3, h31, h32, h33, h34⟩ := opens_slice (k := 3) (f := Ask.cells) Tryz.underlying35 (by kernel_rfl) (by decide) (fun _ => rfl) OpA26.opens_ask _ _ _ k3 f3
    obtain ⟨m, hlm, hq⟩ := open_parts Tryz.underlying38 k4 f4
    obtain ⟨z0, q0, m0⟩ := hq 0 _ rfl
    obtain ⟨z1, q1, m1⟩ := hq 1 _ rfl
    have r0 : DataW.trod enc Tryz.prog W 0 (fun _ => true) true m 36 (([a4, a5, a6, a7, a8, a9].drop 0).take (Tryz.prog.cellsOf 36)) = some z0 := q0
    have r1 : DataW.trod enc Tryz.prog W 0 (fun _ => true) true m 36 (([a4, a5, a6, a7, a8, a9].drop 3).take (Tryz.prog.cellsOf 36)) = some z1 := q1
    rw [show Tryz.prog.cellsOf 36 = 3 from by kernel_rfl] at r0 r1
    simp only [List.drop_zero, List.drop_succ_cons, List.take_succ_cons, List.take_zero] at r0 r1
    obtain ⟨l0, l1, l2, ⟨rfl, rfl, rfl⟩, hlo⟩ := open_nums3 r0 m0
    obtain ⟨d0, d1, d2, ⟨rfl, rfl, rfl⟩, hrd⟩ := open_nums3 r1 m1
    obtain ⟨s5, e5, h51, h52, h53, h54⟩ := opens_slice (k := 4) (f := Gon.cells) Tryz.underlying39 (by kernel_rfl) (by decide) (fun _ => rfl) opens_gon _ _ _ k5 f5
    obtain ⟨s6, e6, ⟨h61, h62, h63, h64⟩, hw⟩ := opens_slice_b (k := 1) (f := fun s : Sl Ser => [s.val]) Tryz.underlying40 (by kernel_rfl) (by decide) (fun _ => rfl) opens_sersQ _ _ _ k6 f6
    simp only [List.cons.injEq, and_true] at e0 e1 e2 e3 e5 e6
    subst e0 e1 e2 e3 e5 e6
    have hw2 : (s6.l.map fun s => (s.l.map fun x => x.smp.n + x.win.n + 1).sum).sum ≤ 1048576 := Nat.le_trans hw f6.small
    rw [lists_sumQ s6.l fun z hz => (h62 z hz).1.2.1] at hw2
    rw [show Tryz.prog.bytesOf 170 = 40 from by kernel_rfl] at h33
    rw [show Tryz.prog.bytesOf 359 = 96 from by kernel_rfl] at h53
    have hrow := h61.2.2
    rw [flat_oneQ] at hrow
    unfold reachBytes at h33 h53
    refine ⟨⟨s0, s1, s2, s3, l0, l1, l2, d0, d1, d2, s5, s6⟩, rfl, ⟨wf_i64 g1, wf_i64 g2, hrd, ⟨h31.2.2, h31.2.1, by simp only; omega, h32⟩, h34, ⟨h51.2.2, h51.2.1, fun x hx => (h52 x hx).1, by simp only; omega, fun x hx => ?_⟩, ⟨hrow, h61.2.1, fun z hz => (h62 z hz).1, fun z hz x hx => ⟨((h62 z hz).2.1 x hx).1.1, by have := ((h62 z hz).2.1 x hx).1.2.few; omega⟩, by simp only; omega, by simp only; omega, by simp only; omega⟩, hw2, fun s hs y hy => ((h62 s hs).2.1 y hy).2⟩⟩
    obtain ⟨_, f0, f1, f2, f3⟩ := h52 x hx
    omega
end
end Go.Proofs.YtbijjjhfekkfaaaGreat
