/- What is asked for, opened (almanaclaw26). No condition. -/
import Derived.Test.YtbijjjhfekkfaaaGreatPkc2774c96
import Derived.Test.YtbijjjhfekkfaaaGreatPk77b55caf
namespace Go.Proofs.YtbijjjhfekkfaaaGreat.OpA26
set_option maxRecDepth 100000
open Go.RowKit Go.WideShapes

section
variable {H : Type} {enc : TypeId × Value → H} {W : World} {b : Nat}
instance : Inhabited Ask := ⟨⟨0, ⟨#[]⟩, ⟨#[]⟩⟩⟩
theorem opens_ask : Opens enc Tryz.prog W b 170 Ask.cells (fun x => x.name.size ≤ 140737488355328 ∧ x.value.size ≤ 140737488355328) := by
  intro fuel cs x h hf
  obtain ⟨n, hl, hp⟩ := open_ones Tryz.underlying170 (by kernel_rfl) (by kernel_rfl) h hf
  obtain ⟨u0, y0, c0, t0, f0⟩ := hp 0 _ rfl
  obtain ⟨u1, y1, c1, t1, f1⟩ := hp 1 _ rfl
  obtain ⟨u2, y2, c2, t2, f2⟩ := hp 2 _ rfl
  obtain ⟨s0, e0, _⟩ := opens_int (k := .i64) Tryz.underlying3 _ _ _ t0 f0
  obtain ⟨s1, e1, g1, _⟩ := opens_string Tryz.underlying9 _ _ _ t1 f1
  obtain ⟨s2, e2, g2, _⟩ := opens_string Tryz.underlying9 _ _ _ t2 f2
  simp only [List.cons.injEq, and_true] at e0 e1 e2
  subst e0 e1 e2
  match cs, hl with
  | [a, b, c], _ =>
    simp only [List.getElem?_cons_zero, List.getElem?_cons_succ, Option.some.injEq] at c0 c1 c2
    unfold reachBytes at g1 g2
    exact ⟨⟨s0, s1, s2⟩, by rw [c0, c1, c2]; rfl, by show s1.size ≤ _; omega, by show s2.size ≤ _; omega⟩
theorem open_asks {base : Nat} {v : Value} {d : DataW H} {ps : List MemPlace} (hv : Value.okWide Tryz.prog W .any base 35 v) (h : DataW.Trod enc Tryz.prog W 0 (fun _ => true) true 35 v d ps) (hF : Fits Tryz.prog W b 35 (d, ps)) :
    ∃ (A : Option Addr) (n c : Nat) (l : List Ask), v = .slice A n c ∧ AskF W A n l ∧ n ≤ b := by
  obtain ⟨s, rfl, ⟨h1, h2, h3⟩, h4, h5, hb⟩ := open_arg_slice (k := 3) (f := Ask.cells) Tryz.underlying35 (by kernel_rfl) (by decide) (fun _ => rfl) opens_ask hv h hF
  rw [show Tryz.prog.bytesOf 170 = 40 from by kernel_rfl] at h5
  unfold reachBytes at h5
  exact ⟨s.A, s.n, s.c, s.l, rfl, ⟨h3, h2, by omega, h4⟩, hb⟩
end
end Go.Proofs.YtbijjjhfekkfaaaGreat.OpA26
