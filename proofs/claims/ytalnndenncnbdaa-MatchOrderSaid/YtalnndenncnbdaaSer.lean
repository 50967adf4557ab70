/- Labels, samples, windows, series: what came in, opened. No condition. -/
import Derived.Test.YtalnndenncnbdaaOpen
import Derived.Test.YtalnndenncnbdaaFoldArgs
namespace Go.Proofs.Ytalnndenncnbdaa
set_option maxRecDepth 100000
open Go.RowKit

instance : Inhabited Smp := ⟨⟨0, 0⟩⟩
instance : Inhabited Win := ⟨⟨0, 0, 0, 0, 0, 0⟩⟩
structure Lbl where
  name : ByteArray
  value : ByteArray
deriving Inhabited
def Lbl.cells (x : Lbl) : List Value := [.string x.name, .string x.value]
def Smp.cells (x : Smp) : List Value := [.int .i64 x.t, .int .u64 (x.v : Nat)]
/-- a series, as it lies -/
structure Ser where
  lab : Sl Lbl
  smp : Sl Smp
  win : Sl Win
instance {α : Type} : Inhabited (Sl α) := ⟨Sl.nil⟩
instance : Inhabited Ser := ⟨⟨Sl.nil, Sl.nil, Sl.nil⟩⟩
def Ser.cells (x : Ser) : List Value := [x.lab.val, x.smp.val, x.win.val]
/-- its rows show what it says -/
structure Ser.At (w : World) (B : Nat) (x : Ser) : Prop where
  lab : x.lab.At w B 2 Lbl.cells
  smp : x.smp.At w B 2 Smp.cells
  win : x.win.At w B 6 Win.cells
theorem Ser.At.below {w w' : World} {B : Nat} {x : Ser} (h : x.At w B) (hb : Below B w w') : x.At w' B := ⟨h.lab.below hb, h.smp.below hb, h.win.below hb⟩
theorem Ser.At.more {w : World} {B B' : Nat} {x : Ser} (h : x.At w B) (hB : B ≤ B') : x.At w B' := ⟨h.lab.more hB, h.smp.more hB, h.win.more hB⟩
/-- its numbers are in their ranges -/
structure Ser.Ok (b : Nat) (x : Ser) : Prop where
  smps : ∀ s ∈ x.smp.l, s.ok ∧ -9223372036854775808 ≤ s.t ∧ s.t < 9223372036854775808
  wins : ∀ s ∈ x.win.l, s.ok2
  labn : x.lab.n * 32 ≤ reachBytes
  smpn : x.smp.n * 16 ≤ reachBytes
  winn : x.win.n * 48 ≤ reachBytes
  few : x.lab.n ≤ b ∧ x.smp.n ≤ b ∧ x.win.n ≤ b

section
variable {H : Type} {enc : TypeId × Value → H} {W : World} {b : Nat}

set_option maxRecDepth 100000 in
theorem opens_lbl : Opens enc Try.prog W b 30 Lbl.cells (fun _ => True) := by
  intro fuel cs x h hf
  obtain ⟨n, hl, hp⟩ := open_ones Try.underlying30 (by kernel_rfl) (by kernel_rfl) h hf
  obtain ⟨u0, y0, c0, t0, f0⟩ := hp 0 _ rfl
  obtain ⟨u1, y1, c1, t1, f1⟩ := hp 1 _ rfl
  obtain ⟨s0, e0, _⟩ := opens_string Try.underlying9 _ _ _ t0 f0
  obtain ⟨s1, e1, _⟩ := opens_string Try.underlying9 _ _ _ t1 f1
  simp only [List.cons.injEq, and_true] at e0 e1
  subst e0 e1
  match cs, hl with
  | [a, c], _ =>
    simp only [List.getElem?_cons_zero, List.getElem?_cons_succ, Option.some.injEq] at c0 c1
    exact ⟨⟨s0, s1⟩, by rw [c0, c1]; rfl, trivial⟩

end
end Go.Proofs.Ytalnndenncnbdaa
