/- What came in, opened, with its bulk in sum. No condition. -/
import Derived.Test.YtbijjjhfekkfaaaGreatPkc2774c96
namespace Go.Proofs.YtbijjjhfekkfaaaGreat
set_option maxRecDepth 100000
open Go.RowKit Go.WideShapes

section
variable {H : Type} {enc : TypeId × Value → H} {P : Program} {W : World} {b : Nat}

/-- A value of type t reads as one of f's values, its weight at most its bulk. -/
def OpensB (enc : TypeId × Value → H) (P : Program) (W : World) (b : Nat) (t : TypeId) {α : Type} (f : α → List Value) (G : α → Prop) (wt : α → Nat) : Prop :=
  ∀ (fuel : Nat) (cs : List Value) (x : DataW H × List MemPlace), DataW.trod enc P W 0 (fun _ => true) true fuel t cs = some x → Fits P W b t x → ∃ a, cs = f a ∧ G a ∧ wt a ≤ Rows.uptoBulk x.1
theorem Opens.one {t : TypeId} {α : Type} {f : α → List Value} {G : α → Prop} (h : Opens enc P W b t f G) : OpensB enc P W b t f G (fun _ => 1) := by
  intro fuel cs x hx hf
  obtain ⟨a, h1, h2⟩ := h fuel cs x hx hf
  exact ⟨a, h1, h2, bulk_pos _⟩
theorem bulk_sum {α : Type} {wt : α → Nat} {R : Nat → α} {D : Nat → DataW H} : ∀ (n : Nat), (∀ i, i < n → wt (R i) ≤ Rows.uptoBulk (D i)) → (((List.range n).map R).map wt).sum ≤ Rows.uptoBulkAll ((List.range n).map D) := by
  have happ : ∀ (l : List (DataW H)) (d : DataW H), Rows.uptoBulkAll (l ++ [d]) = Rows.uptoBulkAll l + Rows.uptoBulk d := by
    intro l d
    induction l with
    | nil => simp [Rows.uptoBulkAll]
    | cons x l ih => simp only [List.cons_append, Rows.uptoBulkAll]; omega
  intro n
  induction n with
  | zero => intro _; simp [Rows.uptoBulkAll]
  | succ n ih =>
    intro h
    have h1 := ih fun i hi => h i (by omega)
    have h2 := h n (by omega)
    rw [List.range_succ, List.map_append, List.map_append, List.map_append, List.sum_append, List.map_singleton, List.map_singleton, List.map_singleton, happ]
    simp only [List.sum_cons, List.sum_nil]
    omega

/-- a slice of what opens -/
theorem opens_slice_b {t e : TypeId} {α : Type} [Inhabited α] {f : α → List Value} {G : α → Prop} {wt : α → Nat} {k : Nat} (ht : P.underlying t = some (.slice e)) (hC : P.cellsOf e = k) (hk : 0 < k) (hlen : ∀ a, (f a).length = k) (he : OpensB enc P W b e f G wt) :
    OpensB enc P W b t (fun s : Sl α => [s.val]) (fun s => s.At W W.heap.size k f ∧ (∀ a ∈ s.l, G a) ∧ s.n * P.bytesOf e ≤ reachBytes ∧ s.n ≤ b) (fun s => (s.l.map wt).sum) := by
  intro fuel cs x h hf
  rcases Deep.open_slice ht h with ⟨hcs, hx⟩ | ⟨a, len, cap, m, n', D, Pl, hcs, _, hl, hm, hmm, hx, hi⟩
  · exact ⟨Sl.nil, hcs, ⟨⟨Nat.le_refl _, rfl, Row.nil⟩, by simp [Sl.nil], by simp [Sl.nil], Nat.zero_le _⟩, Nat.zero_le _⟩
  · simp only [if_true] at hmm
    subst hmm
    have hw0 := hf.light
    have hb0 := hf.small
    have ho0 := hf.old
    rw [hx] at hw0 hb0 ho0
    simp only [DataW.weights, ht, Rows.uptoBulk] at hw0 hb0
    have hel : ∀ i, i < len → ∃ y : α, (G y ∧ wt y ≤ Rows.uptoBulk (D i)) ∧ ∀ j, j < k → W.cell? (a.add (i * k + j)) = (f y)[j]? := by
      intro i hin
      obtain ⟨cs', hc, ht'⟩ := hi i (by omega)
      rw [hC] at hc
      have hDm : D i ∈ (List.range len).map D := List.mem_map.2 ⟨i, List.mem_range.2 hin, rfl⟩
      obtain ⟨y, hy, hG, hwt⟩ := he _ _ _ ht' ⟨fun p hp => ho0 p (List.mem_append_right _ (List.mem_flatMap.2 ⟨i, List.mem_range.2 (by omega), hp⟩)),
        fun q hq => hw0 q (List.mem_cons_of_mem _ (List.mem_append_left _ (weights_all hDm hq))), by have := bulk_mem hDm; simp only; omega⟩
      obtain ⟨_, hcl, hat⟩ := World.cells?_some hc
      refine ⟨y, ⟨hG, hwt⟩, fun j hj => ?_⟩
      rw [← hy, ← Deep.add_add]
      exact hat j (by omega)
    obtain ⟨R, hR⟩ := Deep.choose_lt (α := α) hel
    have hflat : ∀ (m : Nat), m ≤ len → (((List.range m).map R).flatMap f).length = m * k ∧ ∀ j, j < m * k → W.cell? (a.add j) = (((List.range m).map R).flatMap f)[j]? := by
      intro m
      induction m with
      | zero => intro _; exact ⟨by simp, fun j hj => by simp at hj⟩
      | succ m ih =>
        intro hm'
        obtain ⟨i1, i2⟩ := ih (by omega)
        obtain ⟨_, hr2⟩ := hR m (by omega)
        rw [List.range_succ, List.map_append, List.flatMap_append, List.map_cons, List.map_nil, List.flatMap_cons, List.flatMap_nil, List.append_nil]
        refine ⟨by rw [List.length_append, i1, hlen, Nat.succ_mul], fun j hj => ?_⟩
        rw [Nat.succ_mul] at hj
        rcases Nat.lt_or_ge j (m * k) with h1 | h1
        · rw [List.getElem?_append_left (by omega)]; exact i2 j h1
        · rw [List.getElem?_append_right (by omega), i1, ← hr2 _ (by omega), show m * k + (j - m * k) = j from by omega]
    obtain ⟨h1, h2⟩ := hflat len (Nat.le_refl _)
    refine ⟨⟨some a, len, m, (List.range len).map R⟩, hcs, ⟨⟨by simpa using hl, by simp, h1, fun hn => ?_⟩, ?_, ?_, ?_⟩, ?_⟩
    · obtain ⟨bk, off, spot⟩ := a
      have hpk : 0 < len * k := Nat.mul_pos hn hk
      have hc0 := h2 0 hpk
      have hsp : spot = none := by
        rw [List.getElem?_eq_getElem (by rw [h1]; exact hpk)] at hc0
        simpa [Addr.add] using World.cell?_spot hc0
      subst hsp
      refine ⟨bk, off, rfl, ?_, fun j hj => by rw [← h2 j hj, Addr.add_lit]⟩
      refine ho0 (.cell bk off) ?_
      refine List.mem_append_left _ (MemPlace.mem_row.2 ⟨0, ?_, by simp⟩)
      rw [hC]
      exact Nat.mul_pos (by simp only at hn; omega) hk
    · intro r hr
      simp only [List.mem_map, List.mem_range] at hr
      obtain ⟨i, hi', rfl⟩ := hr
      exact (hR i hi').1.1
    · have := hw0 _ (List.mem_cons_self ..)
      simp only [List.length_map, List.length_range] at this
      exact Nat.le_trans (Nat.mul_le_mul_right _ (Nat.le_add_right _ _)) this
    · have := bulk_len ((List.range len).map D)
      simp only [List.length_map, List.length_range] at this
      simp only; omega
    · have := bulk_sum (wt := wt) (R := R) (D := D) len fun i hi => (hR i hi).1.2
      rw [hx]
      simp only [Rows.uptoBulk]
      omega

/-- the fields of a struct whose fields are of one cell each, their bulks in sum -/
theorem open_ones_b {e : TypeId} {fs : Array Field} (he : P.underlying e = some (.struct fs)) (hone : Deep.oneCellFields P fs = true) (hC : P.cellsOf e = fs.size) {fuel : Nat} {cs : List Value} {x : DataW H × List MemPlace} (h : DataW.trod enc P W 0 (fun _ => true) true fuel e cs = some x) (hf : Fits P W b e x) :
    ∃ (n : Nat) (ys : List (DataW H × List MemPlace)), cs.length = fs.size ∧ ys.length = fs.size ∧ Rows.uptoBulkAll (ys.map Prod.fst) + 1 = Rows.uptoBulk x.1 ∧ ∀ (i : Nat) (f : Field), fs[i]? = some f → ∃ u y, cs[i]? = some u ∧ ys[i]? = some y ∧ DataW.trod enc P W 0 (fun _ => true) true n f.type [u] = some y ∧ Fits P W b f.type y := by
  obtain ⟨xs, n, _, rfl, hl, hlen, hfl⟩ := DataW.trod_struct he h
  rw [hC] at hl
  refine ⟨n, xs, hl, hlen, rfl, fun i f hi => ?_⟩
  have hif := (Array.getElem?_eq_some_iff.1 hi).1
  have hil : i < xs.length := by rw [hlen]; exact hif
  have hxi : xs[i]? = some xs[i] := List.getElem?_eq_getElem hil
  have hm := List.mem_of_getElem? hxi
  have h1 := hfl i f hi
  obtain ⟨ho, hk1⟩ := Deep.hone_of hone i _ hi
  rw [ho, hk1, List.drop_eq_getElem_cons (by omega)] at h1
  refine ⟨cs[i]'(by omega), xs[i], List.getElem?_eq_getElem (by omega), hxi, by rw [← hxi]; exact h1, ⟨fun p hp => hf.old p (List.mem_flatMap.2 ⟨_, hm, hp⟩), fun k hk => hf.light k ?_, ?_⟩⟩
  · simp only [DataW.weights, he]
    refine weights_each (i := i) (t := f.type) (d := xs[i].1) ?_ (by rw [List.getElem?_map, hxi]; rfl) hk
    rw [List.getElem?_map, Array.getElem?_toList, hi]; rfl
  · have h1 : Rows.uptoBulkAll (xs.map Prod.fst) + 1 ≤ b := hf.small
    have h2 := bulk_mem (List.mem_map_of_mem (f := Prod.fst) hm)
    omega
end

section
variable {H : Type} {enc : TypeId × Value → H} {P : Program} {W : World} {b : Nat}
theorem open_arg_slice_b {t e : TypeId} {α : Type} [Inhabited α] {f : α → List Value} {G : α → Prop} {wt : α → Nat} {k base : Nat} {v : Value} {d : DataW H} {ps : List MemPlace} (ht : P.underlying t = some (.slice e)) (hC : P.cellsOf e = k) (hk : 0 < k) (hlen : ∀ a, (f a).length = k) (he : OpensB enc P W b e f G wt)
    (hv : Value.okWide P W .any base t v) (h : DataW.Trod enc P W 0 (fun _ => true) true t v d ps) (hF : Fits P W b t (d, ps)) :
    ∃ s : Sl α, v = s.val ∧ (s.At W W.heap.size k f ∧ (∀ a ∈ s.l, G a) ∧ s.n * P.bytesOf e ≤ reachBytes ∧ s.n ≤ b) ∧ (s.l.map wt).sum ≤ b := by
  obtain ⟨A, n, c, rfl⟩ := okWide_slice ht hv
  obtain ⟨fuel, hf⟩ := h
  obtain ⟨s, hs, hG, hw⟩ := opens_slice_b ht hC hk hlen he _ _ _ hf hF
  simp only [Value.cells, List.cons.injEq, and_true] at hs
  exact ⟨s, hs, hG, Nat.le_trans hw hF.small⟩
end
end Go.Proofs.YtbijjjhfekkfaaaGreat
