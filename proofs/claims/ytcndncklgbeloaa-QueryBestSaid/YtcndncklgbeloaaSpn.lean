/- Spans, and times taken away, as they lie. No condition. -/
import Derived.Test.YtcndncklgbeloaaSerMem
namespace Go.Proofs.Ytcndncklgbeloaa
set_option maxRecDepth 100000
open Go.RowKit

structure Spn where
  frm : Int
  til : Int
instance : Inhabited Spn := ⟨⟨0, 0⟩⟩
def Spn.cells (x : Spn) : List Value := [.int .i64 x.frm, .int .i64 x.til]
def spnCells (l : List Spn) : List Value := l.flatMap Spn.cells
def Spn.ok (x : Spn) : Prop := -9223372036854775808 ≤ x.frm ∧ x.frm < 9223372036854775808 ∧ -9223372036854775808 ≤ x.til ∧ x.til < 9223372036854775808
/-- times taken away from a series -/
structure Gon where
  lab : Sl Lbl
  s0 : Sl Spn
  s1 : Sl Spn
  s2 : Sl Spn
instance : Inhabited Gon := ⟨⟨Sl.nil, Sl.nil, Sl.nil, Sl.nil⟩⟩
def Gon.cells (x : Gon) : List Value := [x.lab.val, x.s0.val, x.s1.val, x.s2.val]
def gonCells (l : List Gon) : List Value := l.flatMap Gon.cells
structure Gon.At (w : World) (B : Nat) (x : Gon) : Prop where
  lab : x.lab.At w B 2 Lbl.cells
  s0 : x.s0.At w B 2 Spn.cells
  s1 : x.s1.At w B 2 Spn.cells
  s2 : x.s2.At w B 2 Spn.cells
theorem Gon.At.below {w w' : World} {B : Nat} {x : Gon} (h : x.At w B) (hb : Below B w w') : x.At w' B := ⟨h.lab.below hb, h.s0.below hb, h.s1.below hb, h.s2.below hb⟩
theorem Gon.At.more {w : World} {B B' : Nat} {x : Gon} (h : x.At w B) (hB : B ≤ B') : x.At w B' := ⟨h.lab.more hB, h.s0.more hB, h.s1.more hB, h.s2.more hB⟩
/-- the spans of one resolution -/
def Gon.sp (x : Gon) (r : Int) : Sl Spn := if r = 0 then x.s0 else if r = 1 then x.s1 else x.s2
/-- does the time lie in one of them? -/
def inSpn (s : Spn) (t : Int) : Bool := decide (s.frm ≤ t) && decide (t ≤ s.til)
def hasP (l : List Spn) (t : Int) : Bool := l.any fun s => inSpn s t
end Go.Proofs.Ytcndncklgbeloaa
