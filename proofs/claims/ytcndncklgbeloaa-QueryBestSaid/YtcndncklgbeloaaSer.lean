/- Labels, samples, windows, series: what came in, opened. No condition. -/
import Derived.Test.YtcndncklgbeloaaOpen
import Derived.Test.YtcndncklgbeloaaFoldArgs
namespace Go.Proofs.Ytcndncklgbeloaa
set_option maxRecDepth 100000
open Go.RowKit

instance : Inhabited Smp := ⟨⟨0, 0⟩⟩
instance : Inhabited Win := ⟨⟨0, 0, 0, 0, 0, 0⟩⟩
structure Lbl where
  name : ByteArray
  value : ByteArray
deriving Inhabited
def Lbl.cells (x : Lbl) : List Value := [.string x.name, .string x.value]
def Smp.cells (x : Smp) : List Value := [.int .i64 x.t, .int .u64 (x.v : Nat)]
/-- a series, as it lies -/
structure Ser where
  lab : Sl Lbl
  smp : Sl Smp
  win : Sl Win
instance {α : Type} : Inhabited (Sl α) := ⟨Sl.nil⟩
instance : Inhabited Ser := ⟨⟨Sl.nil, Sl.nil, Sl.nil⟩⟩
def Ser.cells (x : Ser) : List Value := [x.lab.val, x.smp.val, x.win.val]
/-- its rows show what it says -/
structure Ser.At (w : World) (B : Nat) (x : Ser) : Prop where
  lab : x.lab.At w B 2 Lbl.cells
  smp : x.smp.At w B 2 Smp.cells
  win : x.win.At w B 6 Win.cells
theorem Ser.At.below {w w' : World} {B : Nat} {x : Ser} (h : x.At w B) (hb : Below B w w') : x.At w' B := ⟨h.lab.below hb, h.smp.below hb, h.win.below hb⟩
theorem Ser.At.more {w : World} {B B' : Nat} {x : Ser} (h : x.At w B) (hB : B ≤ B') : x.At w B' := ⟨h.lab.more hB, h.smp.more hB, h.win.more hB⟩
/-- its numbers are in their ranges -/
structure Ser.Ok (b : Nat) (x : Ser) : Prop where
  smps : ∀ s ∈ x.smp.l, s.ok ∧ -9223372036854775808 ≤ s.t ∧ s.t < 9223372036854775808
  wins : ∀ s ∈ x.win.l, s.ok2
  labn : x.lab.n * 32 ≤ reachBytes
  smpn : x.smp.n * 16 ≤ reachBytes
  winn : x.win.n * 48 ≤ reachBytes
  few : x.lab.n ≤ b ∧ x.smp.n ≤ b ∧ x.win.n ≤ b

section
variable {H : Type} {enc : TypeId × Value → H} {W : World} {b : Nat}

set_option maxRecDepth 100000 in
theorem opens_lbl : Opens enc Try.prog W b 38 Lbl.cells (fun _ => True) := by
  intro fuel cs x h hf
  obtain ⟨n, hl, hp⟩ := open_ones Try.underlying38 (by kernel_rfl) (by kernel_rfl) h hf
  obtain ⟨u0, y0, c0, t0, f0⟩ := hp 0 _ rfl
  obtain ⟨u1, y1, c1, t1, f1⟩ := hp 1 _ rfl
  obtain ⟨s0, e0, _⟩ := opens_string Try.underlying9 _ _ _ t0 f0
  obtain ⟨s1, e1, _⟩ := opens_string Try.underlying9 _ _ _ t1 f1
  simp only [List.cons.injEq, and_true] at e0 e1
  subst e0 e1
  match cs, hl with
  | [a, c], _ =>
    simp only [List.getElem?_cons_zero, List.getElem?_cons_succ, Option.some.injEq] at c0 c1
    exact ⟨⟨s0, s1⟩, by rw [c0, c1]; rfl, trivial⟩

set_option maxRecDepth 100000 in
theorem opens_smp : Opens enc Try.prog W b 42 Smp.cells (fun s => s.ok ∧ -9223372036854775808 ≤ s.t ∧ s.t < 9223372036854775808) := by
  intro fuel cs x h hf
  obtain ⟨n, hl, hp⟩ := open_ones Try.underlying42 (by kernel_rfl) (by kernel_rfl) h hf
  obtain ⟨u0, y0, c0, t0, f0⟩ := hp 0 _ rfl
  obtain ⟨u1, y1, c1, t1, f1⟩ := hp 1 _ rfl
  obtain ⟨s0, e0, g0⟩ := opens_int Try.underlying2 _ _ _ t0 f0
  obtain ⟨s1, e1, g1⟩ := opens_int Try.underlying40 _ _ _ t1 f1
  simp only [List.cons.injEq, and_true] at e0 e1
  subst e0 e1
  have w0 := wf_i64 g0
  have w1 := wf_u64 g1
  obtain ⟨s1, rfl⟩ := Int.eq_ofNat_of_zero_le w1.1
  match cs, hl with
  | [a, c], _ =>
    simp only [List.getElem?_cons_zero, List.getElem?_cons_succ, Option.some.injEq] at c0 c1
    exact ⟨⟨s0, s1⟩, by rw [c0, c1]; rfl, by show s1 < _; omega, w0⟩

set_option maxRecDepth 100000 in
theorem opens_win : Opens enc Try.prog W b 59 Win.cells (fun s => s.ok2) := by
  intro fuel cs x h hf
  obtain ⟨n, hl, hp⟩ := open_ones Try.underlying59 (by kernel_rfl) (by kernel_rfl) h hf
  obtain ⟨u0, y0, c0, t0, f0⟩ := hp 0 _ rfl
  obtain ⟨u1, y1, c1, t1, f1⟩ := hp 1 _ rfl
  obtain ⟨u2, y2, c2, t2, f2⟩ := hp 2 _ rfl
  obtain ⟨u3, y3, c3, t3, f3⟩ := hp 3 _ rfl
  obtain ⟨u4, y4, c4, t4, f4⟩ := hp 4 _ rfl
  obtain ⟨u5, y5, c5, t5, f5⟩ := hp 5 _ rfl
  obtain ⟨s0, e0, g0⟩ := opens_int Try.underlying2 _ _ _ t0 f0
  obtain ⟨s1, e1, g1⟩ := opens_int Try.underlying3 _ _ _ t1 f1
  obtain ⟨s2, e2, g2⟩ := opens_int Try.underlying40 _ _ _ t2 f2
  obtain ⟨s3, e3, g3⟩ := opens_int Try.underlying40 _ _ _ t3 f3
  obtain ⟨s4, e4, g4⟩ := opens_int Try.underlying40 _ _ _ t4 f4
  obtain ⟨s5, e5, g5⟩ := opens_int Try.underlying40 _ _ _ t5 f5
  simp only [List.cons.injEq, and_true] at e0 e1 e2 e3 e4 e5
  subst e0 e1 e2 e3 e4 e5
  have w0 := wf_i64 g0
  have w1 := wf_i64 g1
  have w2 := wf_u64 g2
  have w3 := wf_u64 g3
  have w4 := wf_u64 g4
  have w5 := wf_u64 g5
  obtain ⟨s2, rfl⟩ := Int.eq_ofNat_of_zero_le w2.1
  obtain ⟨s3, rfl⟩ := Int.eq_ofNat_of_zero_le w3.1
  obtain ⟨s4, rfl⟩ := Int.eq_ofNat_of_zero_le w4.1
  obtain ⟨s5, rfl⟩ := Int.eq_ofNat_of_zero_le w5.1
  match cs, hl with
  | [a, b, c, d, e, f], _ =>
    simp only [List.getElem?_cons_zero, List.getElem?_cons_succ, Option.some.injEq] at c0 c1 c2 c3 c4 c5
    exact ⟨⟨s0, s1, s2, s3, s4, s5⟩, by rw [c0, c1, c2, c3, c4, c5]; rfl, ⟨w1, by show s2 < _; omega, by show s3 < _; omega, by show s4 < _; omega, by show s5 < _; omega⟩, w0⟩

set_option maxRecDepth 100000 in
theorem opens_ser : Opens enc Try.prog W b 46 Ser.cells (fun s => s.At W W.heap.size ∧ s.Ok b) := by
  intro fuel cs x h hf
  obtain ⟨n, hl, hp⟩ := open_ones Try.underlying46 (by kernel_rfl) (by kernel_rfl) h hf
  obtain ⟨u0, y0, c0, t0, f0⟩ := hp 0 _ rfl
  obtain ⟨u1, y1, c1, t1, f1⟩ := hp 1 _ rfl
  obtain ⟨u2, y2, c2, t2, f2⟩ := hp 2 _ rfl
  obtain ⟨s0, e0, g0⟩ := opens_slice (k := 2) (f := Lbl.cells) Try.underlying39 (by kernel_rfl) (by decide) (fun _ => rfl) opens_lbl _ _ _ t0 f0
  obtain ⟨s1, e1, g1⟩ := opens_slice (k := 2) (f := Smp.cells) Try.underlying43 (by kernel_rfl) (by decide) (fun _ => rfl) opens_smp _ _ _ t1 f1
  obtain ⟨s2, e2, g2⟩ := opens_slice (k := 6) (f := Win.cells) Try.underlying44 (by kernel_rfl) (by decide) (fun _ => rfl) opens_win _ _ _ t2 f2
  simp only [List.cons.injEq, and_true] at e0 e1 e2
  subst e0 e1 e2
  match cs, hl with
  | [a, c, d], _ =>
    simp only [List.getElem?_cons_zero, List.getElem?_cons_succ, Option.some.injEq] at c0 c1 c2
    exact ⟨⟨s0, s1, s2⟩, by rw [c0, c1, c2]; rfl, ⟨g0.1, g1.1, g2.1⟩, g1.2.1, g2.2.1, g0.2.2.1, g1.2.2.1, g2.2.2.1, g0.2.2.2, g1.2.2.2, g2.2.2.2⟩
end
end Go.Proofs.Ytcndncklgbeloaa
