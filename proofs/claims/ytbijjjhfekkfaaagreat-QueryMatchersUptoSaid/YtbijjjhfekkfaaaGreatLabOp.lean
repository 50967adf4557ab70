/- Labels that came in, opened. No condition. -/
import Derived.Test.YtbijjjhfekkfaaaGreatPk3512f865
import Derived.Test.YtbijjjhfekkfaaaGreatPkc2774c96
namespace Go.Proofs.YtbijjjhfekkfaaaGreat
set_option maxRecDepth 100000
open Go.RowKit Go.WideShapes Go.ChangeShapes

section
variable {H : Type} {enc : TypeId × Value → H} {W : World} {b : Nat}
theorem opens_lblS : Opens enc Tryz.prog W b 114 Lbl.cells (fun x => x.name.size ≤ 140737488355328 ∧ x.value.size ≤ 140737488355328) := by
  intro fuel cs x h hf
  obtain ⟨n, hl, hp⟩ := open_ones Tryz.underlying114 (by kernel_rfl) (by kernel_rfl) h hf
  obtain ⟨u0, y0, c0, t0, f0⟩ := hp 0 _ rfl
  obtain ⟨u1, y1, c1, t1, f1⟩ := hp 1 _ rfl
  obtain ⟨s0, e0, g0, _⟩ := opens_string Tryz.underlying9 _ _ _ t0 f0
  obtain ⟨s1, e1, g1, _⟩ := opens_string Tryz.underlying9 _ _ _ t1 f1
  simp only [List.cons.injEq, and_true] at e0 e1
  subst e0 e1
  match cs, hl with
  | [a, c], _ =>
    simp only [List.getElem?_cons_zero, List.getElem?_cons_succ, Option.some.injEq] at c0 c1
    unfold reachBytes at g0 g1
    exact ⟨⟨s0, s1⟩, by rw [c0, c1]; rfl, by show s0.size ≤ _; omega, by show s1.size ≤ _; omega⟩
theorem open_labels {base : Nat} {v : Value} {d : DataW H} {ps : List MemPlace} (hv : Value.okWide Tryz.prog W .any base 53 v) (h : DataW.Trod enc Tryz.prog W 0 (fun _ => true) true 53 v d ps) (hF : Fits Tryz.prog W b 53 (d, ps)) :
    ∃ (A : Option Addr) (n c : Nat) (l : List Lbl), v = .slice A n c ∧ LbF W A n l ∧ n ≤ c := by
  obtain ⟨s, rfl, ⟨h1, h2, h3⟩, h4, h5, _⟩ := open_arg_slice (k := 2) (f := Lbl.cells) Tryz.underlying53 (by kernel_rfl) (by decide) (fun _ => rfl) opens_lblS hv h hF
  rw [show Tryz.prog.bytesOf 114 = 32 from by kernel_rfl] at h5
  unfold reachBytes at h5
  exact ⟨s.A, s.n, s.c, s.l, rfl, ⟨h3, h2, by omega, h4⟩, h1⟩
end
end Go.Proofs.YtbijjjhfekkfaaaGreat
