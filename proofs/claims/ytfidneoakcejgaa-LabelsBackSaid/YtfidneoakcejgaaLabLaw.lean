/- What the laws of labels take in, opened. No condition. -/
import Derived.Test.YtfidneoakcejgaaWak04
import Derived.Test.YtfidneoakcejgaaLabRMk
import Derived.Test.YtfidneoakcejgaaLabVal
import Derived.Test.YtfidneoakcejgaaTwnLbl
import Derived.Test.YtfidneoakcejgaaArgs
namespace Go.Proofs.Ytfidneoakcejgaa
set_option maxRecDepth 100000
open Go.RowKit Go.WideShapes Go.ChangeShapes

section
variable {H : Type} {enc : TypeId × Value → H} {W : World} {b : Nat}
theorem opens_lblS : Opens enc Try.prog W b 39 Lbl.cells (fun x => x.name.size ≤ 140737488355328 ∧ x.value.size ≤ 140737488355328) := by
  intro fuel cs x h hf
  obtain ⟨n, hl, hp⟩ := open_ones Try.underlying39 (by kernel_rfl) (by kernel_rfl) h hf
  obtain ⟨u0, y0, c0, t0, f0⟩ := hp 0 _ rfl
  obtain ⟨u1, y1, c1, t1, f1⟩ := hp 1 _ rfl
  obtain ⟨s0, e0, g0, _⟩ := opens_string Try.underlying9 _ _ _ t0 f0
  obtain ⟨s1, e1, g1, _⟩ := opens_string Try.underlying9 _ _ _ t1 f1
  simp only [List.cons.injEq, and_true] at e0 e1
  subst e0 e1
  match cs, hl with
  | [a, c], _ =>
    simp only [List.getElem?_cons_zero, List.getElem?_cons_succ, Option.some.injEq] at c0 c1
    unfold reachBytes at g0 g1
    exact ⟨⟨s0, s1⟩, by rw [c0, c1]; rfl, by show s0.size ≤ _; omega, by show s1.size ≤ _; omega⟩
theorem open_labels {base : Nat} {v : Value} {d : DataW H} {ps : List MemPlace} (hv : Value.okWide Try.prog W .any base 22 v) (h : DataW.Trod enc Try.prog W 0 (fun _ => true) true 22 v d ps) (hF : Fits Try.prog W b 22 (d, ps)) :
    ∃ (A : Option Addr) (n c : Nat) (l : List Lbl), v = .slice A n c ∧ LbF W A n l ∧ n ≤ c := by
  obtain ⟨s, rfl, ⟨h1, h2, h3⟩, h4, h5, _⟩ := open_arg_slice (k := 2) (f := Lbl.cells) Try.underlying22 (by kernel_rfl) (by decide) (fun _ => rfl) opens_lblS hv h hF
  rw [show Try.prog.bytesOf 39 = 32 from by kernel_rfl] at h5
  unfold reachBytes at h5
  exact ⟨s.A, s.n, s.c, s.l, rfl, ⟨h3, h2, by omega, h4⟩, h1⟩
end

/-- the reference's list -/
theorem refL (A : Option Addr) (n c : Nat) (l : List Lbl) (w : World) (h : LbF w A n l) :
    Calls Try.prog 17 #[.slice A n c] w fun e w' => ∃ B c', e = .returned (.slice B n c') ∧ LbF w' B n l ∧ n ≤ c' ∧ Below w.heap.size w w' := by
  refine (TwnLbl.ref_any A n c l w h.row h.len h.fit).mono ?_
  rintro e w' ⟨v, rfl, hown, hb⟩
  obtain ⟨B, c', rfl, hc, hr⟩ := own_shape hown
  exact ⟨B, c', rfl, ⟨hr, h.len, h.fit, h.sz⟩, hc, hb⟩
theorem twinL (A : Option Addr) (n c : Nat) (l : List Lbl) (w : World) (h : LbF w A n l) :
    Calls Try.prog 14 #[.slice A n c] w fun e w' => ∃ B c', e = .returned (.slice B n c') ∧ LbF w' B n l ∧ n ≤ c' ∧ Below w.heap.size w w' := by
  refine (TwnLbl.twin_any A n c l w h.row h.fit).mono ?_
  rintro e w' ⟨v, rfl, hown, hb⟩
  obtain ⟨B, c', rfl, hc, hr⟩ := own_shape hown
  exact ⟨B, c', rfl, ⟨hr, h.len, h.fit, h.sz⟩, hc, hb⟩
theorem alikeL (A B : Option Addr) (n c1 c2 : Nat) (l : List Lbl) (w : World) (h1 : LbF w A n l) (h2 : LbF w B n l) :
    Calls Try.prog 19 #[.slice A n c1, .slice B n c2] w fun e w' => e = .returned (.bool true) ∧ Below w.heap.size w w' := by
  refine (TwnLbl.alike_yes A B n c1 c2 l w h1.row h2.row h1.len (by have := h1.fit; omega)).mono ?_
  rintro e w' ⟨rfl, m, rfl⟩
  exact ⟨rfl, ⟨rfl, rfl, rfl, Nat.le_refl _, fun _ _ => rfl⟩⟩
theorem make_sz {l : List Lbl} (h : ∀ x ∈ l, x.name.size ≤ 140737488355328 ∧ x.value.size ≤ 140737488355328) : ∀ x ∈ makeL l, x.name.size ≤ 140737488355328 ∧ x.value.size ≤ 140737488355328 := fun x hx => by
  unfold makeL at hx
  split at hx
  · exact h x ((sortN_perm l).mem_iff.1 hx)
  · cases hx
theorem makeLaw (A : Option Addr) (n c : Nat) (l : List Lbl) (w : World) (h : LbF w A n l) (hnc : n ≤ c) :
    Calls Try.prog 15 #[.slice A n c] w fun e w' => ∃ B c', e = .returned (.tuple #[.slice B (makeL l).length c', .int .i64 (makeErr l)]) ∧ LbF w' B (makeL l).length (makeL l) ∧ (makeL l).length ≤ c' ∧ Below w.heap.size w w' := by
  refine (lmake_any A n c l w h hnc).mono ?_
  rintro e w' ⟨v, rfl, hown, hb⟩
  obtain ⟨B, c', rfl, hc, hr⟩ := own_shape hown
  exact ⟨B, c', rfl, ⟨hr, rfl, by have := makeL_len (l := l); omega, make_sz h.sz⟩, hc, hb⟩
theorem makeRef (A : Option Addr) (n c : Nat) (l : List Lbl) (w : World) (h : LbF w A n l) :
    Calls Try.prog 16 #[.slice A n c] w fun e w' => ∃ B c', e = .returned (.tuple #[.slice B (makeL l).length c', .int .i64 (makeErr l)]) ∧ LbF w' B (makeL l).length (makeL l) ∧ Below w.heap.size w w' := by
  refine (rmake_any A n c l w h).mono ?_
  rintro e w' ⟨v, rfl, hown, hb⟩
  obtain ⟨B, c', rfl, hc, hr⟩ := own_shape hown
  exact ⟨B, c', rfl, ⟨hr, rfl, by have := makeL_len (l := l); omega, make_sz h.sz⟩, hb⟩
end Go.Proofs.Ytfidneoakcejgaa
