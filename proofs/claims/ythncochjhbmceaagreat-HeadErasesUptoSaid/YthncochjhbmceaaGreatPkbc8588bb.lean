/- How the laws' lists of samples and of windows read. No condition. Labels, samples, windows, series: what came in, opened. No condition. Series in memory: what keeps when one row grows. No condition. The reference's Compare at labels that are the same, and its Series at lists that are alike. No condition. -/
import Derived.Test.YthncochjhbmceaaGreatBase
import Derived.Test.YthncochjhbmceaaGreatFoldCells
import Derived.Test.YthncochjhbmceaaGreatPk785f11a4
namespace Go.Proofs.YthncochjhbmceaaGreat
set_option maxRecDepth 100000
open Go.RowKit Go.WideShapes Go.ChangeShapes

theorem own_prog : ownKnob Tryz.prog.godebug = none := by kernel_rfl
theorem laidOut : laidOutB Tryz.prog = true := by kernel_rfl
def Win.ok (x : Win) : Prop := (-9223372036854775808 ≤ x.count ∧ x.count < 9223372036854775808) ∧ x.sum < 18446744073709551616 ∧ x.min < 18446744073709551616 ∧ x.max < 18446744073709551616 ∧ x.last < 18446744073709551616
def Win.ok2 (x : Win) : Prop := x.ok ∧ -9223372036854775808 ≤ x.start ∧ x.start < 9223372036854775808

theorem wf_i64 {x : Int} (h : (Lit.int .i64 x).wf = true) : -9223372036854775808 ≤ x ∧ x < 9223372036854775808 := by
  have h1 : IntKind.i64.min = -9223372036854775808 := rfl
  have h2 : IntKind.i64.max = 9223372036854775807 := rfl
  simp only [Lit.wf, Bool.and_eq_true, decide_eq_true_eq] at h
  omega
theorem wf_u64 {x : Int} (h : (Lit.int .u64 x).wf = true) : 0 ≤ x ∧ x < 18446744073709551616 := by
  have h1 : IntKind.u64.min = 0 := rfl
  have h2 : IntKind.u64.max = 18446744073709551615 := rfl
  simp only [Lit.wf, Bool.and_eq_true, decide_eq_true_eq] at h
  omega

section
variable {H : Type} {enc : TypeId × Value → H} {W : World}

end
end Go.Proofs.YthncochjhbmceaaGreat

namespace Go.Proofs.YthncochjhbmceaaGreat
set_option maxRecDepth 100000
open Go.RowKit

instance : Inhabited Smp := ⟨⟨0, 0⟩⟩
instance : Inhabited Win := ⟨⟨0, 0, 0, 0, 0, 0⟩⟩
structure Lbl where
  name : ByteArray
  value : ByteArray
deriving Inhabited
def Lbl.cells (x : Lbl) : List Value := [.string x.name, .string x.value]
def Smp.cells (x : Smp) : List Value := [.int .i64 x.t, .int .u64 (x.v : Nat)]
/-- a series, as it lies -/
structure Ser where
  lab : Sl Lbl
  smp : Sl Smp
  win : Sl Win
instance {α : Type} : Inhabited (Sl α) := ⟨Sl.nil⟩
instance : Inhabited Ser := ⟨⟨Sl.nil, Sl.nil, Sl.nil⟩⟩
def Ser.cells (x : Ser) : List Value := [x.lab.val, x.smp.val, x.win.val]
/-- its rows show what it says -/
structure Ser.At (w : World) (B : Nat) (x : Ser) : Prop where
  lab : x.lab.At w B 2 Lbl.cells
  smp : x.smp.At w B 2 Smp.cells
  win : x.win.At w B 6 Win.cells
theorem Ser.At.below {w w' : World} {B : Nat} {x : Ser} (h : x.At w B) (hb : Below B w w') : x.At w' B := ⟨h.lab.below hb, h.smp.below hb, h.win.below hb⟩
theorem Ser.At.more {w : World} {B B' : Nat} {x : Ser} (h : x.At w B) (hB : B ≤ B') : x.At w B' := ⟨h.lab.more hB, h.smp.more hB, h.win.more hB⟩
/-- its numbers are in their ranges -/
structure Ser.Ok (b : Nat) (x : Ser) : Prop where
  smps : ∀ s ∈ x.smp.l, s.ok ∧ -9223372036854775808 ≤ s.t ∧ s.t < 9223372036854775808
  wins : ∀ s ∈ x.win.l, s.ok2
  labn : x.lab.n * 32 ≤ reachBytes
  smpn : x.smp.n * 16 ≤ reachBytes
  winn : x.win.n * 48 ≤ reachBytes
  few : x.lab.n ≤ b ∧ x.smp.n ≤ b ∧ x.win.n ≤ b

section
variable {H : Type} {enc : TypeId × Value → H} {W : World} {b : Nat}

end
end Go.Proofs.YthncochjhbmceaaGreat

namespace Go.Proofs.YthncochjhbmceaaGreat
set_option maxRecDepth 100000
open Go.RowKit

theorem gb_far {a w w' : World} {row row' : Option Nat} (h : a.grownBy w row) (k : w.grownBy w' row') (hfar : ∀ j, row' = some j → a.heap.size ≤ j) : a.grownBy w' row :=
  ⟨k.os.trans h.os, k.tape.trans h.tape, k.output.trans h.output, Nat.le_trans h.size k.size, fun i hi hn => (k.block i (Nat.lt_of_lt_of_le hi h.size) (fun e => by have := hfar i e.symm; omega)).trans (h.block i hi hn)⟩

theorem Row.grown {w w' : World} {B size n : Nat} {A : Option Addr} {xs : List Value} {X : Option Nat} (h : Row w B size A n xs) (hg : w.grownBy w' X) (hoff : 0 < n → ∀ a, A = some a → some a.block ≠ X) (hB : B ≤ w.heap.size) : Row w' B size A n xs :=
  ⟨h.len, fun hn => by
    obtain ⟨g, o, e, hb, hc⟩ := h.at_ hn
    exact ⟨g, o, e, hb, fun j hj => (World.cell?_of_block (w := w) (a := ⟨g, o + j, none⟩) (hg.block g (by omega) (hoff hn _ e))).trans (hc j hj)⟩⟩

/-- Its cells don't lie in block X. -/
def Sl.Off {α : Type} (X : Option Nat) (s : Sl α) : Prop := 0 < s.n → ∀ a, s.A = some a → some a.block ≠ X
theorem Sl.At.grown {α : Type} {w w' : World} {B size : Nat} {f : α → List Value} {s : Sl α} {X : Option Nat} (h : s.At w B size f) (hg : w.grownBy w' X) (hoff : s.Off X) (hB : B ≤ w.heap.size) : s.At w' B size f := ⟨h.1, h.2.1, h.2.2.grown hg hoff hB⟩
theorem Sl.At.off {α : Type} {w : World} {B size : Nat} {f : α → List Value} {s : Sl α} {j : Nat} (h : s.At w B size f) (hj : B ≤ j) : s.Off (some j) := fun hn a ha e => by
  obtain ⟨g, o, e1, hb, _⟩ := h.2.2.at_ hn
  rw [ha] at e1
  injection e1 with e1
  injection e with e
  rw [e1] at e
  simp only at e
  omega
theorem Sl.off_own {α : Type} {w : World} {base size n c : Nat} {e : TypeId} {A : Option Addr} {xs : List Value} {l : List α} {j : Nat} (h : w.ownsRow base e size (.slice A n c) n xs) (hj : j < base) : (Sl.mk A n c l).Off (some j) := fun hn a ha e' => by
  obtain ⟨g, c', hv, hb, _⟩ := own_at h hn
  injection hv with hA _ _
  simp only at ha
  rw [ha] at hA
  injection hA with hA
  injection e' with e'
  rw [hA] at e'
  simp only at e'
  omega
theorem Sl.off_none {α : Type} (s : Sl α) : s.Off none := fun _ _ _ e => by cases e

structure Ser.Off (X : Option Nat) (x : Ser) : Prop where
  lab : x.lab.Off X
  smp : x.smp.Off X
  win : x.win.Off X
theorem Ser.At.grown {w w' : World} {B : Nat} {x : Ser} {X : Option Nat} (h : x.At w B) (hg : w.grownBy w' X) (hoff : x.Off X) (hB : B ≤ w.heap.size) : x.At w' B := ⟨h.lab.grown hg hoff.lab hB, h.smp.grown hg hoff.smp hB, h.win.grown hg hoff.win hB⟩
theorem Ser.At.off {w : World} {B : Nat} {x : Ser} {j : Nat} (h : x.At w B) (hj : B ≤ j) : x.Off (some j) := ⟨h.lab.off hj, h.smp.off hj, h.win.off hj⟩

/-- the same labels, samples and windows -/
structure Ser.Same (x y : Ser) : Prop where
  lab : x.lab.l = y.lab.l
  smp : x.smp.l = y.smp.l
  win : x.win.l = y.win.l

/-- its rows are within the reach -/
structure Ser.Fit (x : Ser) : Prop where
  labn : x.lab.n * 32 ≤ reachBytes
  smpn : x.smp.n * 16 ≤ reachBytes
  winn : x.win.n * 48 ≤ reachBytes
theorem Ser.Ok.fit {b : Nat} {x : Ser} (h : x.Ok b) : x.Fit := ⟨h.labn, h.smpn, h.winn⟩

def serCells (l : List Ser) : List Value := l.flatMap Ser.cells
theorem info_rlbl : (Tryz.prog.info? 167).map (fun i => (i.zero, i.size, i.bytes)) = some (some (.agg #[.string ByteArray.empty, .string ByteArray.empty]), 2, 32) := by kernel_rfl

def lblCells (l : List Lbl) : List Value := l.flatMap Lbl.cells
theorem lblCells_at (l : List Lbl) : ∀ (k : Nat) (h : k < l.length), (lblCells l)[k * 2]? = some (.string l[k].name) ∧ (lblCells l)[k * 2 + 1]? = some (.string l[k].value) := by
  induction l with
  | nil => intro k h; simp at h
  | cons a l ih =>
    intro k h
    have hc : lblCells (a :: l) = .string a.name :: .string a.value :: lblCells l := by simp [lblCells, Lbl.cells]
    rw [hc]
    cases k with
    | zero => simp
    | succ k =>
      have := ih k (by simpa using h)
      rw [show (k + 1) * 2 = k * 2 + 1 + 1 from by omega]
      simpa using this
theorem lblCells_snoc (l : List Lbl) (s : Lbl) : lblCells (l ++ [s]) = lblCells l ++ [.string s.name, .string s.value] := by simp [lblCells, Lbl.cells]

/-- what a list of series becomes: the same series, in rows of the call's own -/
structure SersAs (w' : World) (base : Nat) (ss L : List Ser) : Prop where
  len : L.length = ss.length
  same : ∀ (i : Nat) (x y : Ser), ss[i]? = some x → L[i]? = some y → y.Same x
  at_ : ∀ y ∈ L, y.At w' w'.heap.size
  own : ∀ y ∈ L, ∀ j, j < base → y.Off (some j)

theorem Ser.off_none (x : Ser) : x.Off none := ⟨Sl.off_none _, Sl.off_none _, Sl.off_none _⟩
theorem Ser.At.alloc {w : World} {B : Nat} {x : Ser} (h : x.At w B) (hB : B ≤ w.heap.size) (c : Obj) : x.At (w.alloc c) B := h.grown (gb_alloc (gb_refl w none) c) x.off_none hB

end Go.Proofs.YthncochjhbmceaaGreat

namespace Go.Proofs.YthncochjhbmceaaGreat
set_option maxRecDepth 100000
open Go.RowKit

theorem lbl_cells_at {w wr : World} {A : Option Addr} {n : Nat} {l : List Lbl} {B : Nat} (hr : Row w B 2 A n (lblCells l)) (hl : l.length = n) (hb : Below B w wr) (k : Nat) (hk : k < n) :
    ∃ gs o, A = some ⟨gs, o, none⟩ ∧ gs < B ∧ ∃ x, l[k]? = some x ∧ wr.cell? ⟨gs, o + k * 2, none⟩ = some (.string x.name) ∧ wr.cell? ⟨gs, o + k * 2 + 1, none⟩ = some (.string x.value) := by
  obtain ⟨gs, o, rfl, hgs, hc⟩ := hr.at_ (by omega)
  have hkl : k < l.length := by omega
  have hs := lblCells_at l k hkl
  exact ⟨gs, o, rfl, hgs, l[k], List.getElem?_eq_getElem hkl, ((hb.cell (p := ⟨gs, o + k * 2, none⟩) hgs).trans (hc (k * 2) (by omega))).trans hs.1, ((hb.cell (p := ⟨gs, o + (k * 2 + 1), none⟩) hgs).trans (hc (k * 2 + 1) (by omega))).trans hs.2⟩

end Go.Proofs.YthncochjhbmceaaGreat
