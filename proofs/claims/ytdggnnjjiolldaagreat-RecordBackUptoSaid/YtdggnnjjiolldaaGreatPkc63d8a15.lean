/- What came in, opened, with its bulk in sum. No condition. Records that came in, opened; a record read back; the law's example. Condition: the arguments are within the bulk that the statement names. almanaclaw15's example, walked. No condition. -/
import Derived.Test.YtdggnnjjiolldaaGreatPkd59f2b6f
import Derived.Test.YtdggnnjjiolldaaGreatPke15da037
import Derived.Test.YtdggnnjjiolldaaGreatPkc3d5aacd
namespace Go.Proofs.YtdggnnjjiolldaaGreat
set_option maxRecDepth 100000
open Go.RowKit Go.WideShapes

section
variable {H : Type} {enc : TypeId × Value → H} {P : Program} {W : World} {b : Nat}

/-- A value of type t reads as one of f's values, its weight at most its bulk. -/
def OpensB (enc : TypeId × Value → H) (P : Program) (W : World) (b : Nat) (t : TypeId) {α : Type} (f : α → List Value) (G : α → Prop) (wt : α → Nat) : Prop :=
  ∀ (fuel : Nat) (cs : List Value) (x : DataW H × List MemPlace), DataW.trod enc P W 0 (fun _ => true) true fuel t cs = some x → Fits P W b t x → ∃ a, cs = f a ∧ G a ∧ wt a ≤ Rows.uptoBulk x.1
theorem Opens.one {t : TypeId} {α : Type} {f : α → List Value} {G : α → Prop} (h : Opens enc P W b t f G) : OpensB enc P W b t f G (fun _ => 1) := by
  intro fuel cs x hx hf
  obtain ⟨a, h1, h2⟩ := h fuel cs x hx hf
  exact ⟨a, h1, h2, bulk_pos _⟩
theorem bulk_sum {α : Type} {wt : α → Nat} {R : Nat → α} {D : Nat → DataW H} : ∀ (n : Nat), (∀ i, i < n → wt (R i) ≤ Rows.uptoBulk (D i)) → (((List.range n).map R).map wt).sum ≤ Rows.uptoBulkAll ((List.range n).map D) := by
  have happ : ∀ (l : List (DataW H)) (d : DataW H), Rows.uptoBulkAll (l ++ [d]) = Rows.uptoBulkAll l + Rows.uptoBulk d := by
    intro l d
    induction l with
    | nil => simp [Rows.uptoBulkAll]
    | cons x l ih => simp only [List.cons_append, Rows.uptoBulkAll]; omega
  intro n
  induction n with
  | zero => intro _; simp [Rows.uptoBulkAll]
  | succ n ih =>
    intro h
    have h1 := ih fun i hi => h i (by omega)
    have h2 := h n (by omega)
    rw [List.range_succ, List.map_append, List.map_append, List.map_append, List.sum_append, List.map_singleton, List.map_singleton, List.map_singleton, happ]
    simp only [List.sum_cons, List.sum_nil]
    omega

/-- a slice of what opens -/
theorem opens_slice_b {t e : TypeId} {α : Type} [Inhabited α] {f : α → List Value} {G : α → Prop} {wt : α → Nat} {k : Nat} (ht : P.underlying t = some (.slice e)) (hC : P.cellsOf e = k) (hk : 0 < k) (hlen : ∀ a, (f a).length = k) (he : OpensB enc P W b e f G wt) :
    OpensB enc P W b t (fun s : Sl α => [s.val]) (fun s => s.At W W.heap.size k f ∧ (∀ a ∈ s.l, G a) ∧ s.n * P.bytesOf e ≤ reachBytes ∧ s.n ≤ b) (fun s => (s.l.map wt).sum) := by
  intro fuel cs x h hf
  rcases Deep.open_slice ht h with ⟨hcs, hx⟩ | ⟨a, len, cap, m, n', D, Pl, hcs, _, hl, hm, hmm, hx, hi⟩
  · exact ⟨Sl.nil, hcs, ⟨⟨Nat.le_refl _, rfl, Row.nil⟩, by simp [Sl.nil], by simp [Sl.nil], Nat.zero_le _⟩, Nat.zero_le _⟩
  · simp only [if_true] at hmm
    subst hmm
    have hw0 := hf.light
    have hb0 := hf.small
    have ho0 := hf.old
    rw [hx] at hw0 hb0 ho0
    simp only [DataW.weights, ht, Rows.uptoBulk] at hw0 hb0
    have hel : ∀ i, i < len → ∃ y : α, (G y ∧ wt y ≤ Rows.uptoBulk (D i)) ∧ ∀ j, j < k → W.cell? (a.add (i * k + j)) = (f y)[j]? := by
      intro i hin
      obtain ⟨cs', hc, ht'⟩ := hi i (by omega)
      rw [hC] at hc
      have hDm : D i ∈ (List.range len).map D := List.mem_map.2 ⟨i, List.mem_range.2 hin, rfl⟩
      obtain ⟨y, hy, hG, hwt⟩ := he _ _ _ ht' ⟨fun p hp => ho0 p (List.mem_append_right _ (List.mem_flatMap.2 ⟨i, List.mem_range.2 (by omega), hp⟩)),
        fun q hq => hw0 q (List.mem_cons_of_mem _ (List.mem_append_left _ (weights_all hDm hq))), by have := bulk_mem hDm; simp only; omega⟩
      obtain ⟨_, hcl, hat⟩ := World.cells?_some hc
      refine ⟨y, ⟨hG, hwt⟩, fun j hj => ?_⟩
      rw [← hy, ← Deep.add_add]
      exact hat j (by omega)
    obtain ⟨R, hR⟩ := Deep.choose_lt (α := α) hel
    have hflat : ∀ (m : Nat), m ≤ len → (((List.range m).map R).flatMap f).length = m * k ∧ ∀ j, j < m * k → W.cell? (a.add j) = (((List.range m).map R).flatMap f)[j]? := by
      intro m
      induction m with
      | zero => intro _; exact ⟨by simp, fun j hj => by simp at hj⟩
      | succ m ih =>
        intro hm'
        obtain ⟨i1, i2⟩ := ih (by omega)
        obtain ⟨_, hr2⟩ := hR m (by omega)
        rw [List.range_succ, List.map_append, List.flatMap_append, List.map_cons, List.map_nil, List.flatMap_cons, List.flatMap_nil, List.append_nil]
        refine ⟨by rw [List.length_append, i1, hlen, Nat.succ_mul], fun j hj => ?_⟩
        rw [Nat.succ_mul] at hj
        rcases Nat.lt_or_ge j (m * k) with h1 | h1
        · rw [List.getElem?_append_left (by omega)]; exact i2 j h1
        · rw [List.getElem?_append_right (by omega), i1, ← hr2 _ (by omega), show m * k + (j - m * k) = j from by omega]
    obtain ⟨h1, h2⟩ := hflat len (Nat.le_refl _)
    refine ⟨⟨some a, len, m, (List.range len).map R⟩, hcs, ⟨⟨by simpa using hl, by simp, h1, fun hn => ?_⟩, ?_, ?_, ?_⟩, ?_⟩
    · obtain ⟨bk, off, spot⟩ := a
      have hpk : 0 < len * k := Nat.mul_pos hn hk
      have hc0 := h2 0 hpk
      have hsp : spot = none := by
        rw [List.getElem?_eq_getElem (by rw [h1]; exact hpk)] at hc0
        simpa [Addr.add] using World.cell?_spot hc0
      subst hsp
      refine ⟨bk, off, rfl, ?_, fun j hj => by rw [← h2 j hj, Addr.add_lit]⟩
      refine ho0 (.cell bk off) ?_
      refine List.mem_append_left _ (MemPlace.mem_row.2 ⟨0, ?_, by simp⟩)
      rw [hC]
      exact Nat.mul_pos (by simp only at hn; omega) hk
    · intro r hr
      simp only [List.mem_map, List.mem_range] at hr
      obtain ⟨i, hi', rfl⟩ := hr
      exact (hR i hi').1.1
    · have := hw0 _ (List.mem_cons_self ..)
      simp only [List.length_map, List.length_range] at this
      exact Nat.le_trans (Nat.mul_le_mul_right _ (Nat.le_add_right _ _)) this
    · have := bulk_len ((List.range len).map D)
      simp only [List.length_map, List.length_range] at this
      simp only; omega
    · have := bulk_sum (wt := wt) (R := R) (D := D) len fun i hi => (hR i hi).1.2
      rw [hx]
      simp only [Rows.uptoBulk]
      omega

/-- the fields of a struct whose fields are of one cell each, their bulks in sum -/
theorem open_ones_b {e : TypeId} {fs : Array Field} (he : P.underlying e = some (.struct fs)) (hone : Deep.oneCellFields P fs = true) (hC : P.cellsOf e = fs.size) {fuel : Nat} {cs : List Value} {x : DataW H × List MemPlace} (h : DataW.trod enc P W 0 (fun _ => true) true fuel e cs = some x) (hf : Fits P W b e x) :
    ∃ (n : Nat) (ys : List (DataW H × List MemPlace)), cs.length = fs.size ∧ ys.length = fs.size ∧ Rows.uptoBulkAll (ys.map Prod.fst) + 1 = Rows.uptoBulk x.1 ∧ ∀ (i : Nat) (f : Field), fs[i]? = some f → ∃ u y, cs[i]? = some u ∧ ys[i]? = some y ∧ DataW.trod enc P W 0 (fun _ => true) true n f.type [u] = some y ∧ Fits P W b f.type y := by
  obtain ⟨xs, n, _, rfl, hl, hlen, hfl⟩ := DataW.trod_struct he h
  rw [hC] at hl
  refine ⟨n, xs, hl, hlen, rfl, fun i f hi => ?_⟩
  have hif := (Array.getElem?_eq_some_iff.1 hi).1
  have hil : i < xs.length := by rw [hlen]; exact hif
  have hxi : xs[i]? = some xs[i] := List.getElem?_eq_getElem hil
  have hm := List.mem_of_getElem? hxi
  have h1 := hfl i f hi
  obtain ⟨ho, hk1⟩ := Deep.hone_of hone i _ hi
  rw [ho, hk1, List.drop_eq_getElem_cons (by omega)] at h1
  refine ⟨cs[i]'(by omega), xs[i], List.getElem?_eq_getElem (by omega), hxi, by rw [← hxi]; exact h1, ⟨fun p hp => hf.old p (List.mem_flatMap.2 ⟨_, hm, hp⟩), fun k hk => hf.light k ?_, ?_⟩⟩
  · simp only [DataW.weights, he]
    refine weights_each (i := i) (t := f.type) (d := xs[i].1) ?_ (by rw [List.getElem?_map, hxi]; rfl) hk
    rw [List.getElem?_map, Array.getElem?_toList, hi]; rfl
  · have h1 : Rows.uptoBulkAll (xs.map Prod.fst) + 1 ≤ b := hf.small
    have h2 := bulk_mem (List.mem_map_of_mem (f := Prod.fst) hm)
    omega
end

section
variable {H : Type} {enc : TypeId × Value → H} {P : Program} {W : World} {b : Nat}
theorem open_arg_slice_b {t e : TypeId} {α : Type} [Inhabited α] {f : α → List Value} {G : α → Prop} {wt : α → Nat} {k base : Nat} {v : Value} {d : DataW H} {ps : List MemPlace} (ht : P.underlying t = some (.slice e)) (hC : P.cellsOf e = k) (hk : 0 < k) (hlen : ∀ a, (f a).length = k) (he : OpensB enc P W b e f G wt)
    (hv : Value.okWide P W .any base t v) (h : DataW.Trod enc P W 0 (fun _ => true) true t v d ps) (hF : Fits P W b t (d, ps)) :
    ∃ s : Sl α, v = s.val ∧ (s.At W W.heap.size k f ∧ (∀ a ∈ s.l, G a) ∧ s.n * P.bytesOf e ≤ reachBytes ∧ s.n ≤ b) ∧ (s.l.map wt).sum ≤ b := by
  obtain ⟨A, n, c, rfl⟩ := okWide_slice ht hv
  obtain ⟨fuel, hf⟩ := h
  obtain ⟨s, hs, hG, hw⟩ := opens_slice_b ht hC hk hlen he _ _ _ hf hF
  simp only [Value.cells, List.cons.injEq, and_true] at hs
  exact ⟨s, hs, hG, Nat.le_trans hw hF.small⟩
end
end Go.Proofs.YtdggnnjjiolldaaGreat

namespace Go.Proofs.YtdggnnjjiolldaaGreat
set_option maxRecDepth 100000
open Go.RowKit Go.WideShapes Go.Shelf

/-- a record's rows are few -/
def RecR.few' (r : RecR) : Prop := r.news.n ≤ 1048576 ∧ r.pts.n ≤ 1048576 ∧ r.gones.n ≤ 1048576 ∧ (r.gones.l.map fun x => x.sp.l.length).sum ≤ 1048576
theorem wf_i64R {x : Int} (h : (Lit.int .i64 x).wf = true) : -9223372036854775808 ≤ x ∧ x ≤ 9223372036854775807 := by
  have := wf_i64 h
  omega
theorem wf_u64R {x : Int} (h : (Lit.int .u64 x).wf = true) : 0 ≤ x ∧ x < 18446744073709551616 := wf_u64 h
section
variable {H : Type} {enc : TypeId × Value → H} {W : World} {b : Nat}
theorem opens_spnR : Opens enc Tryz.prog W b 101 Spn.cells Spn.ok := by
  intro fuel cs x h hf
  obtain ⟨n, hl, hp⟩ := open_ones Tryz.underlying101 (by kernel_rfl) (by kernel_rfl) h hf
  obtain ⟨u0, y0, c0, t0, f0⟩ := hp 0 _ rfl
  obtain ⟨u1, y1, c1, t1, f1⟩ := hp 1 _ rfl
  obtain ⟨s0, e0, g0⟩ := opens_int Tryz.underlying2 _ _ _ t0 f0
  obtain ⟨s1, e1, g1⟩ := opens_int Tryz.underlying2 _ _ _ t1 f1
  simp only [List.cons.injEq, and_true] at e0 e1
  subst e0 e1
  have w0 := wf_i64R g0
  have w1 := wf_i64R g1
  match cs, hl with
  | [a, c], _ =>
    simp only [List.getElem?_cons_zero, List.getElem?_cons_succ, Option.some.injEq] at c0 c1
    exact ⟨⟨s0, s1⟩, by rw [c0, c1]; rfl, by unfold Spn.ok; simp only; omega⟩
instance : Inhabited NewR := ⟨⟨0, Sl.nil⟩⟩
instance : Inhabited PntR := ⟨⟨0, 0, 0⟩⟩
instance : Inhabited GonR := ⟨⟨0, 0, Sl.nil⟩⟩
theorem opens_new : Opens enc Tryz.prog W b 59 NewR.cells (fun x => (LbF W x.lab.A x.lab.n x.lab.l ∧ x.lab.n ≤ x.lab.c) ∧ -9223372036854775808 ≤ x.ref ∧ x.ref ≤ 9223372036854775807) := by
  intro fuel cs x h hf
  obtain ⟨n, hl, hp⟩ := open_ones Tryz.underlying59 (by kernel_rfl) (by kernel_rfl) h hf
  obtain ⟨u0, y0, c0, t0, f0⟩ := hp 0 _ rfl
  obtain ⟨u1, y1, c1, t1, f1⟩ := hp 1 _ rfl
  obtain ⟨s0, e0, g0⟩ := opens_int Tryz.underlying3 _ _ _ t0 f0
  obtain ⟨s1, e1, ⟨h1, h2, h3⟩, g2, g3, _⟩ := opens_slice (k := 2) (f := Lbl.cells) Tryz.underlying57 (by kernel_rfl) (by decide) (fun _ => rfl) opens_lblS _ _ _ t1 f1
  rw [show Tryz.prog.bytesOf 108 = 32 from by kernel_rfl] at g3
  unfold reachBytes at g3
  simp only [List.cons.injEq, and_true] at e0 e1
  subst e0 e1
  have w0 := wf_i64R g0
  match cs, hl with
  | [a, c], _ =>
    simp only [List.getElem?_cons_zero, List.getElem?_cons_succ, Option.some.injEq] at c0 c1
    exact ⟨⟨s0, s1⟩, by rw [c0, c1]; rfl, ⟨⟨h3, h2, by omega, g2⟩, h1⟩, w0⟩
theorem opens_pnt : Opens enc Tryz.prog W b 62 PntR.cells (fun x => -9223372036854775808 ≤ x.ref ∧ x.ref ≤ 9223372036854775807 ∧ -9223372036854775808 ≤ x.t ∧ x.t ≤ 9223372036854775807 ∧ x.v < 18446744073709551616) := by
  intro fuel cs x h hf
  obtain ⟨n, hl, hp⟩ := open_ones Tryz.underlying62 (by kernel_rfl) (by kernel_rfl) h hf
  obtain ⟨u0, y0, c0, t0, f0⟩ := hp 0 _ rfl
  obtain ⟨u1, y1, c1, t1, f1⟩ := hp 1 _ rfl
  obtain ⟨u2, y2, c2, t2, f2⟩ := hp 2 _ rfl
  obtain ⟨s0, e0, g0⟩ := opens_int Tryz.underlying3 _ _ _ t0 f0
  obtain ⟨s1, e1, g1⟩ := opens_int Tryz.underlying2 _ _ _ t1 f1
  obtain ⟨s2, e2, g2⟩ := opens_int Tryz.underlying55 _ _ _ t2 f2
  simp only [List.cons.injEq, and_true] at e0 e1 e2
  subst e0 e1 e2
  have w0 := wf_i64R g0
  have w1 := wf_i64R g1
  have w2 := wf_u64R g2
  match cs, hl with
  | [a, c, d], _ =>
    simp only [List.getElem?_cons_zero, List.getElem?_cons_succ, Option.some.injEq] at c0 c1 c2
    have e : ((s2.toNat : Nat) : Int) = s2 := by omega
    exact ⟨⟨s0, s1, s2.toNat⟩, by rw [c0, c1, c2]; simp only [PntR.cells, e], by simp only; omega⟩
theorem sum_ones {α : Type} (l : List α) : (l.map fun _ => 1).sum = l.length := by
  induction l with
  | nil => rfl
  | cons x l ih => simp only [List.map_cons, List.sum_cons, ih, List.length_cons]; omega
theorem opens_gonR : OpensB enc Tryz.prog W b 66 GonR.cells (fun x => (x.sp.At W W.heap.size 2 Spn.cells ∧ ∀ y ∈ x.sp.l, y.ok) ∧ -9223372036854775808 ≤ x.ref ∧ x.ref ≤ 9223372036854775807 ∧ -9223372036854775808 ≤ x.res ∧ x.res ≤ 9223372036854775807) (fun x => x.sp.l.length) := by
  intro fuel cs x h hf
  obtain ⟨n, ys, hl, hyl, hbs, hp⟩ := open_ones_b Tryz.underlying66 (by kernel_rfl) (by kernel_rfl) h hf
  obtain ⟨u0, y0, c0, _, t0, f0⟩ := hp 0 _ rfl
  obtain ⟨u1, y1, c1, _, t1, f1⟩ := hp 1 _ rfl
  obtain ⟨u2, y2, c2, k2, t2, f2⟩ := hp 2 _ rfl
  obtain ⟨s0, e0, g0⟩ := opens_int Tryz.underlying3 _ _ _ t0 f0
  obtain ⟨s1, e1, g1⟩ := opens_int Tryz.underlying3 _ _ _ t1 f1
  obtain ⟨s2, e2, ⟨h1, h2, _⟩, h4⟩ := opens_slice_b (k := 2) (f := Spn.cells) Tryz.underlying64 (by kernel_rfl) (by decide) (fun _ => rfl) opens_spnR.one _ _ _ t2 f2
  have h4 : (s2.l.map fun _ => 1).sum ≤ Rows.uptoBulk y2.1 := h4
  rw [sum_ones] at h4
  simp only [List.cons.injEq, and_true] at e0 e1 e2
  subst e0 e1 e2
  have w0 := wf_i64R g0
  have w1 := wf_i64R g1
  have hb2 := bulk_mem (List.mem_map_of_mem (f := Prod.fst) (List.mem_of_getElem? k2))
  match cs, hl with
  | [a, c, d], _ =>
    simp only [List.getElem?_cons_zero, List.getElem?_cons_succ, Option.some.injEq] at c0 c1 c2
    exact ⟨⟨s0, s1, s2⟩, by rw [c0, c1, c2]; rfl, ⟨⟨h1, h2⟩, w0.1, w0.2, w1.1, w1.2⟩, by simp only; omega⟩
theorem open_rec {base : Nat} {v : Value} {d : DataW H} {ps : List MemPlace} (hv : Value.okWide Tryz.prog W .any base 26 v) (h : DataW.Trod enc Tryz.prog W 0 (fun _ => true) true 26 v d ps) (hF : Fits Tryz.prog W 1048576 26 (d, ps)) :
    ∃ r : RecR, v = r.val ∧ r.At W ∧ r.few' := by
  obtain ⟨cs, rfl, hcs⟩ := okWide_struct Tryz.underlying26 hv
  obtain ⟨fuel, hf⟩ := h
  obtain ⟨n, hl, hp⟩ := open_ones Tryz.underlying26 (by kernel_rfl) (by kernel_rfl) hf hF
  obtain ⟨u0, y0, c0, t0, f0⟩ := hp 0 _ rfl
  obtain ⟨u1, y1, c1, t1, f1⟩ := hp 1 _ rfl
  obtain ⟨u2, y2, c2, t2, f2⟩ := hp 2 _ rfl
  obtain ⟨s0, e0, g0, g1, _, g2⟩ := opens_slice (k := 2) (f := NewR.cells) Tryz.underlying22 (by kernel_rfl) (by decide) (fun _ => rfl) opens_new _ _ _ t0 f0
  obtain ⟨s1, e1, h0, h1, _, h2⟩ := opens_slice (k := 3) (f := PntR.cells) Tryz.underlying23 (by kernel_rfl) (by decide) (fun _ => rfl) opens_pnt _ _ _ t1 f1
  obtain ⟨s2, e2, ⟨k0, k1, _, k2⟩, k3⟩ := opens_slice_b (k := 3) (f := GonR.cells) Tryz.underlying24 (by kernel_rfl) (by decide) (fun _ => rfl) opens_gonR _ _ _ t2 f2
  have k4 : (s2.l.map fun x : GonR => x.sp.l.length).sum ≤ 1048576 := Nat.le_trans k3 f2.small
  simp only [List.cons.injEq, and_true] at e0 e1 e2
  subst e0 e1 e2
  have k5 : (s2.l.map fun x => x.sp.n) = s2.l.map fun x => x.sp.l.length := List.map_congr_left fun x hx => (k1 x hx).1.1.2.1.symm
  obtain ⟨l⟩ := cs
  simp only [Value.cells] at c0 c1 c2 hl
  match l, hl with
  | [a, c, d], _ =>
    simp only [List.getElem?_cons_zero, List.getElem?_cons_succ, Option.some.injEq] at c0 c1 c2
    refine ⟨⟨s0, s1, s2⟩, by rw [c0, c1, c2]; rfl, ⟨g0, fun x hx => (g1 x hx).1, fun x hx => (g1 x hx).2, h0, h1, k0, fun x hx => (k1 x hx).1, fun x hx => (k1 x hx).2, ?_⟩, ?_⟩
    · simp only; rw [k5]; omega
    · exact ⟨g2, h2, k2, k4⟩
end

/-- a fit record is read back -/
theorem rightP_at {r : RecR} {w : World} (h : r.At w) (hf : fitRec r) (k : r.few') : ∃ σ, rightP (recB r) = some σ ∧ Tells r σ ∧ (recB r).length ≤ 4294967296 := by
  obtain ⟨h1, h2, h3, h4⟩ := hf
  obtain ⟨k1, k2, k3, k4⟩ := k
  have ln := h.news.2.1
  have lp := h.pts.2.1
  have lg := h.gones.2.1
  have hp : ∀ x ∈ r.pts.l, fitPnt x ∧ x.v < 18446744073709551616 := fun x hx => ⟨h2 x hx, (h.ptI x hx).2.2.2.2⟩
  have hsl : ∀ x ∈ r.gones.l, x.sp.l.length ≤ 1048576 := by
    intro x hx
    have e : (r.gones.l.map fun x => x.sp.n) = r.gones.l.map fun x => x.sp.l.length := List.map_congr_left fun x hx => (h.spans x hx).1.2.1.symm
    have := few_sp (by rw [e]; exact k4) hx
    rwa [← (h.spans x hx).1.2.1] at this
  have b1 := newsB_len h1
  have b2 := pntsB_len pnt0_fit (show pnt0.v < 18446744073709551616 by decide) hp
  have b3 := gonsB_len (l := r.gones.l) fun x hx => ⟨h3 x hx, (h.spans x hx).2, by have := hsl x hx; omega⟩
  have u1 := uintL_ten (v := r.news.l.length) (by omega)
  have u2 := uintL_ten (v := r.pts.l.length) (by omega)
  have u3 := uintL_ten (v := r.gones.l.length) (by omega)
  have hlen : (recB r).length ≤ 4294967296 := by
    simp only [recB, List.length_append]; omega
  have hT : Tells r ⟨(recB r).length, r.news.l.map newV, r.pts.l, lastP pnt0 r.pts.l, r.gones.l.map gonV⟩ := ⟨rfl, rfl, rfl, ln.symm, lp.symm, lg.symm⟩
  have hd := decP_at h1 hp (fun x hx => ⟨h3 x hx, (h.spans x hx).2, by have := hsl x hx; omega⟩) (s := recB r) rfl hlen
  exact ⟨_, rightP_yes hd (hT.fit.1 ⟨h1, h2, h3, h4⟩) hT.bits.symm, hT, hlen⟩
theorem rightP_nil : rightP [] = none := by
  cases h : rightP [] with
  | none => rfl
  | some σ =>
    have := (rightP_some h).2.2
    have h2 := bitsP_pos σ
    rw [this] at h2
    cases h2
end Go.Proofs.YtdggnnjjiolldaaGreat

namespace Go.Proofs.YtdggnnjjiolldaaGreat
set_option maxRecDepth 100000
open Go.RowKit Go.WideShapes Go.Shelf

def r357 (b : Nat) : RecR := ⟨Sl.nil, ⟨some ⟨b, 0, none⟩, 1, 1, [⟨3, 5, 7⟩]⟩, Sl.nil⟩
theorem r357_at (w : World) : (r357 w.heap.size).At (w.alloc (.cells #[.int .i64 3, .int .i64 5, .int .u64 7] 62)) := by
  refine ⟨⟨Nat.le_refl _, rfl, Row.nil⟩, fun x hx => (List.not_mem_nil hx).elim, fun x hx => (List.not_mem_nil hx).elim, ⟨Nat.le_refl _, rfl, ?_⟩, fun x hx => ?_, ⟨Nat.le_refl _, rfl, Row.nil⟩, fun x hx => (List.not_mem_nil hx).elim, fun x hx => (List.not_mem_nil hx).elim, by simp [r357, Sl.nil]⟩
  · have := Row.fresh w 62 3 1 [.int .i64 3, .int .i64 5, .int .u64 7] rfl
    rw [World.size_alloc]
    exact this
  · have : x = ⟨3, 5, 7⟩ := by simpa [r357] using hx
    subst this
    simp only; omega
theorem r357_fit (b : Nat) : fitRec (r357 b) := by
  refine ⟨fun x hx => (List.not_mem_nil hx).elim, fun x hx => ?_, fun x hx => (List.not_mem_nil hx).elim, by simp [r357, Sl.nil]⟩
  have : x = ⟨3, 5, 7⟩ := by simpa [r357] using hx
  subst this
  unfold fitPnt fitRef
  simp only; omega
theorem r357_few (b : Nat) : (r357 b).few' := by simp [RecR.few', r357, Sl.nil]
set_option maxHeartbeats 3200000 in
theorem wakes15_any (w : World) : Calls Tryz.prog 6 #[] w fun e w' => e = .returned (.bool true) ∧ Below w.heap.size w w' := by
  have H0 := hidden (r357_at w)
  have S1 := hidden (recEnc_any _ _ H0.out)
  rw [encRec, if_pos (r357_fit _)] at S1
  obtain ⟨σ, hσ, htl, hlen⟩ := rightP_at H0.out (r357_fit _) (r357_few _)
  have hpos : recB (r357 w.heap.size) ≠ [] := by
    rw [htl.bits]
    have := bitsP_pos σ
    intro h
    rw [h] at this
    cases this
  have hpts : σ.pts = [⟨3, 5, 7⟩] := htl.pv.symm
  obtain ⟨s, hs⟩ : ∃ s, recB (r357 w.heap.size) = s := ⟨_, rfl⟩
  rw [hs] at S1 hσ hlen hpos
  have S2 := hidden (fun W => rdec_any s W hlen)
  have S3 := hidden (fun W => rdec_any [] W (by decide))
  obtain ⟨T, hT⟩ : ∃ T, (⟨s.toArray⟩ : ByteArray) = T := ⟨_, rfl⟩
  have hemp : T.toList.isEmpty = false := by
    rw [← hT]
    cases s with
    | nil => exact absurd rfl hpos
    | cons x l => simp
  rw [hT] at S1 S2
  have HSG := hidden hσ
  have HPT := hidden hpts
  have HB0 := hidden (show Below w.heap.size w (w.alloc (.cells #[.int .i64 3, .int .i64 5, .int .u64 7] 62)) from (Below.refl _ _).alloc (Nat.le_refl _) _)
  clear hσ hpts hpos hlen hs hT htl H0
  go_enter Tryz.func6, Tryz.ntmps6
  go_wp2_with fail
  refine S1.out.mono ?_
  rintro e w1 ⟨rfl, b1⟩
  have HB1 := hidden (HB0.out.trans (b1.mono HB0.out.size))
  clear b1 S1
  go_wp2_with fail
  refine (S2.out _).mono ?_
  rintro e w2 ⟨b2, h2⟩
  rcases h2 with ⟨σ', r, k1, k2, rfl⟩ | ⟨k1, rfl⟩
  · obtain rfl : σ = σ' := Option.some.inj (HSG.out.symm.trans k1)
    have HB2 := hidden (HB1.out.trans (b2.mono HB1.out.size))
    have hp := sl_own k2.pown
    have hpv : r.pts.l = [⟨3, 5, 7⟩] := by rw [k2.pv, HPT.out]
    obtain ⟨⟨nA, nn, nc, nl⟩, ⟨pA, pn, pc, pl⟩, ⟨gA, gn, gc, gl⟩⟩ := r
    simp only at hpv
    subst hpv
    obtain ⟨_, p2, p3⟩ := hp
    simp only at p2 p3
    obtain rfl : 1 = pn := p2
    obtain ⟨gs, o, x, rfl, hgs, hx, hcl⟩ := row_at pntK p3 rfl 0 (by decide)
    obtain rfl : ⟨3, 5, 7⟩ = x := by simpa using hx
    have c1 : w2.cell? ⟨gs, o + 1, none⟩ = some (.int .i64 5) := by have := hcl 1 (by omega); simpa [PntR.cells] using this
    have HGS := hidden hgs
    have X2 := Whole1.new w2 26 #[.slice nA nn nc, .slice (some ⟨gs, o, none⟩) 1 pc, .slice gA gn gc]
    have HX2 := hidden X2
    have x1 := X2.cell 1
    have HC1 := hidden (fun W (hW : Below w2.heap.size w2 W) => (show W.cell? ⟨gs, o + 1, none⟩ = some (.int .i64 5) by rw [hW.cell (p := ⟨gs, o + 1, none⟩) hgs]; exact c1))
    clear hgs c1
    clear b2 k1 k2 p3 hx hcl S2 X2
    rw [show RecR.val ⟨⟨nA, nn, nc, nl⟩, ⟨some ⟨gs, o, none⟩, 1, pc, [⟨3, 5, 7⟩]⟩, ⟨gA, gn, gc, gl⟩⟩ = .agg #[.slice nA nn nc, .slice (some ⟨gs, o, none⟩) 1 pc, .slice gA gn gc] from rfl]
    go_wp2_with fail
    refine (S3.out _).mono ?_
    rintro e w3 ⟨b3, h3⟩
    rcases h3 with ⟨σ', r, k1, _⟩ | ⟨_, rfl⟩
    · rw [rightP_nil] at k1; cases k1
    · have HB3 := hidden (((HB2.out.alloc HB2.out.size _).trans (b3.mono (by rw [World.size_alloc]; have := HB2.out.size; omega))) : Below w.heap.size w w3)
      have b23 : Below w2.heap.size w2 w3 := ((Below.refl _ _).alloc (Nat.le_refl _) _).trans (b3.mono (by rw [World.size_alloc]; omega))
      have b34 : Below w3.heap.size w3 (w3.alloc (.cells #[.slice none 0 0, .slice none 0 0, .slice none 0 0] 26)) := (Below.refl _ _).alloc (Nat.le_refl _) _
      have c1 := HC1.out _ (b23.trans (b34.mono b23.size))
      have x1 := ((HX2.out.below b3 HX2.out.lt).below b34 (HX2.out.below b3 HX2.out.lt).lt).cell 1
      have HB4 := hidden (HB3.out.trans (b34.mono HB3.out.size))
      clear b3 b23 S3 b34
      go_wp2_with fail
      go_ret
      exact ⟨rfl, HB4.out⟩
  · rw [HSG.out] at k1
    cases k1
end Go.Proofs.YtdggnnjjiolldaaGreat
