/- A text that came in, with its bulk. Condition: it can be read as data. -/
import Derived.Test.YtalnndenncnbdaaArgs
import Derived.Test.YtalnndenncnbdaaOpen
namespace Go.Proofs.Ytalnndenncnbdaa
set_option maxRecDepth 100000
open Go.RowKit Go.WideShapes Go.ChangeShapes Go.Shelf

section
variable {H : Type} {enc : TypeId × Value → H} {W : World} {b : Nat}
theorem open_text_n {base : Nat} {t : TypeId} {v : Value} {d : DataW H} {ps : List MemPlace} (ht : Try.prog.underlying t = some .string) (hv : Value.okWide Try.prog W .any base t v) (h : DataW.Trod enc Try.prog W 0 (fun _ => true) true t v d ps) (hF : Fits Try.prog W b t (d, ps)) :
    ∃ s : List UInt8, v = .string ⟨s.toArray⟩ ∧ s.length ≤ b := by
  obtain ⟨s, rfl⟩ := okWide_string ht hv
  obtain ⟨fuel, hf⟩ := h
  obtain ⟨s', hc, hx, _⟩ := DataW.trod_string ht hf
  simp only [Value.cells, List.cons.injEq, Value.string.injEq, and_true] at hc
  subst hc
  have hs := hF.small
  rw [hx] at hs
  simp only [Rows.uptoBulk] at hs
  exact ⟨s.data.toList, by simp, by omega⟩
theorem open_text {base : Nat} {t : TypeId} {v : Value} {d : DataW H} {ps : List MemPlace} (ht : Try.prog.underlying t = some .string) (hv : Value.okWide Try.prog W .any base t v) (h : DataW.Trod enc Try.prog W 0 (fun _ => true) true t v d ps) (hF : Fits Try.prog W b t (d, ps)) :
    ∃ s : List UInt8, v = .string ⟨s.toArray⟩ ∧ s.length ≤ 140737488355328 := by
  obtain ⟨s, rfl⟩ := okWide_string ht hv
  obtain ⟨fuel, hf⟩ := h
  obtain ⟨s', hc, hs, _⟩ := opens_string ht _ _ _ hf hF
  simp only [Value.cells, List.cons.injEq, Value.string.injEq, and_true] at hc
  subst hc
  unfold reachBytes at hs
  exact ⟨s.data.toList, by simp, Nat.le_trans hs (by decide)⟩
end
end Go.Proofs.Ytalnndenncnbdaa
