/- A law's arguments, opened. No condition. -/
import Derived.Test.YtalnndenncnbdaaOpen
import Derived.Lib.SmallJoins
namespace Go.Proofs.Ytalnndenncnbdaa
set_option maxRecDepth 100000
open Go.RowKit Go.WideShapes

section
variable {H : Type} {enc : TypeId × Value → H} {P : Program} {W : World} {b : Nat}

theorem arg_fits {ts : List TypeId} {ds : List (DataW H)} {j : Nat} {t : TypeId} {d : DataW H} {ps : List MemPlace} (ht : ts[j]? = some t) (hd : ds[j]? = some d) (hlt : ∀ x ∈ ps, x.block < W.heap.size)
    (hsz : (DataW.weightsEach P ts ds).all (· ≤ reachBytes) = true) (hb : Rows.uptoBulkAll ds ≤ b) : Fits P W b t (d, ps) :=
  ⟨hlt, fun k hk => of_decide_eq_true (List.all_eq_true.1 hsz k (weights_each ht hd hk)), by have := bulk_mem (List.mem_of_getElem? hd); simp only; omega⟩

theorem open_arg_slice {t e : TypeId} {α : Type} [Inhabited α] {f : α → List Value} {G : α → Prop} {k base : Nat} {v : Value} {d : DataW H} {ps : List MemPlace} (ht : P.underlying t = some (.slice e)) (hC : P.cellsOf e = k) (hk : 0 < k) (hlen : ∀ a, (f a).length = k) (he : Opens enc P W b e f G)
    (hv : Value.okWide P W .any base t v) (h : DataW.Trod enc P W 0 (fun _ => true) true t v d ps) (hF : Fits P W b t (d, ps)) :
    ∃ s : Sl α, v = s.val ∧ s.At W W.heap.size k f ∧ (∀ a ∈ s.l, G a) ∧ s.n * P.bytesOf e ≤ reachBytes ∧ s.n ≤ b := by
  obtain ⟨A, n, c, rfl⟩ := okWide_slice ht hv
  obtain ⟨fuel, hf⟩ := h
  obtain ⟨s, hs, hG⟩ := opens_slice ht hC hk hlen he _ _ _ hf hF
  simp only [Value.cells, List.cons.injEq, and_true] at hs
  exact ⟨s, hs, hG⟩

theorem open_arg_int {t : TypeId} {k : IntKind} {base : Nat} {v : Value} {d : DataW H} {ps : List MemPlace} (ht : P.underlying t = some (.int k)) (hv : Value.okWide P W .any base t v) (h : DataW.Trod enc P W 0 (fun _ => true) true t v d ps) : ∃ n : Int, v = .int k n ∧ (Lit.int k n).wf = true := by
  obtain ⟨n, rfl⟩ := okWide_int ht hv
  obtain ⟨fuel, hf⟩ := h
  obtain ⟨n', hc, _, hw⟩ := DataW.trod_int ht hf
  simp only [Value.cells, List.cons.injEq, Value.int.injEq, true_and, and_true] at hc
  exact ⟨n, rfl, by rw [hc]; exact hw⟩
theorem open_arg_ints3 {t : TypeId} {f0 f1 f2 : Field} {k0 k1 k2 : IntKind} {base : Nat} {v : Value} {d : DataW H} {ps : List MemPlace} (hs : P.underlying t = some (.struct #[f0, f1, f2])) (hone : Deep.oneCellFields P #[f0, f1, f2] = true) (hC : P.cellsOf t = 3)
    (h0 : P.underlying f0.type = some (.int k0)) (h1 : P.underlying f1.type = some (.int k1)) (h2 : P.underlying f2.type = some (.int k2))
    (hv : Value.okWide P W .any base t v) (h : DataW.Trod enc P W 0 (fun _ => true) true t v d ps) :
    ∃ x0 x1 x2 : Int, v = .agg #[.int k0 x0, .int k1 x1, .int k2 x2] ∧ (Lit.int k0 x0).wf = true ∧ (Lit.int k1 x1).wf = true ∧ (Lit.int k2 x2).wf = true := by
  obtain ⟨v0, v1, v2, y0, y1, y2, n, hv', _, _, g0, g1, g2⟩ := Joins.open_agg3 hs hone hC hv h
  obtain ⟨x0, e0, _, w0⟩ := DataW.trod_int h0 g0
  obtain ⟨x1, e1, _, w1⟩ := DataW.trod_int h1 g1
  obtain ⟨x2, e2, _, w2⟩ := DataW.trod_int h2 g2
  simp only [List.cons.injEq, and_true] at e0 e1 e2
  exact ⟨x0, x1, x2, by rw [hv', e0, e1, e2], w0, w1, w2⟩
end
end Go.Proofs.Ytalnndenncnbdaa
