/- A head, as it lies. No program is walked here. -/
import Derived.Test.YthncochjhbmceaaGreatPkdffa1c1c
import Derived.Test.YthncochjhbmceaaGreatPk6485189d
namespace Go.Proofs.YthncochjhbmceaaGreat
set_option maxRecDepth 100000
open Go.RowKit

/-- a series in a head, as it lies -/
structure HsR where
  b : Nat
  mx : Int
  gv : Value
  gone : List Spn
  sv : Value
  sm : List Smp
def HsR.cells (x : HsR) : Array Value := #[.int .i64 x.mx, x.gv, .slice none 0 0, .slice none 0 0, x.sv]
def HsR.ptr (x : HsR) : Value := .pointer (some ⟨x.b, 0, none⟩)
structure HsR.At (w : World) (base : Nat) (x : HsR) : Prop where
  blk : Whole1 w x.b 107 x.cells
  old : base ≤ x.b
  gon : w.ownsRow base 33 2 x.gv x.gone.length (x.gone.flatMap Spn.cells)
  smp : w.ownsRow base 68 2 x.sv x.sm.length (x.sm.flatMap Smp.cells)
  gnl : x.gone = [] → x.gv = .slice none 0 0
/-- two series in blocks of their own -/
def HsR.off (x y : HsR) : Prop := x.b ≠ y.b ∧ ∀ g, x.sv.ownBlock = some g → y.sv.ownBlock ≠ some g
structure HedB (w : World) (base h ip : Nat) (sv : Value) (E : List (List Lbl)) (S : List HsR) : Prop where
  blk : Whole1 w h 99 #[.pointer (some ⟨ip, 0, none⟩), sv]
  old : base ≤ h
  idx : Idx w base ip E
  row : w.ownsRow base 108 1 sv S.length (S.map HsR.ptr)
  len : S.length = E.length
  at_ : ∀ x ∈ S, x.At w base
  off : S.Pairwise HsR.off
/-- A HEAD OF THESE SERIES -/
def Hed (w : World) (base h : Nat) (E : List (List Lbl)) (S : List HsR) : Prop := ∃ ip sv, HedB w base h ip sv E S
section
variable {w w' : World} {base b h ip : Nat} {sv : Value} {E : List (List Lbl)} {S : List HsR} {ts : List TypeId} {mp : Bool}
theorem HsR.At.turn {x : HsR} (k : x.At w base) (t : Turn b ts mp w w') (h1 : 107 ∉ ts) (h2 : 33 ∉ ts) (h3 : 68 ∉ ts) : x.At w' base :=
  ⟨t.whole k.blk (.inr h1), k.old, t.own k.gon (.inl h2), t.own k.smp (.inl h3), k.gnl⟩
theorem HsR.At.below {x : HsR} (k : x.At w base) (hb : Below w.heap.size w w') : x.At w' base := k.turn (Turn.of_below hb 0 [] false) (by simp) (by simp) (by simp)
theorem HedB.turn (k : HedB w base h ip sv E S) (t : Turn b ts false w w') (hn : ∀ u ∈ [172, 61, 70, 3, 99, 108, 107, 33, 68], u ∉ ts) : HedB w' base h ip sv E S :=
  ⟨t.whole k.blk (.inr (hn _ (by simp))), k.old, k.idx.turn t (hn _ (by simp)) (hn _ (by simp)) (hn _ (by simp)) (hn _ (by simp)), t.own k.row (.inl (hn _ (by simp))), k.len, fun x hx => (k.at_ x hx).turn t (hn _ (by simp)) (hn _ (by simp)) (hn _ (by simp)), k.off⟩
theorem HedB.below (k : HedB w base h ip sv E S) (hb : Below w.heap.size w w') : HedB w' base h ip sv E S := k.turn (Turn.of_below hb 0 [] false) (by simp)
theorem Hed.turn (k : Hed w base h E S) (t : Turn b ts false w w') (hn : ∀ u ∈ [172, 61, 70, 3, 99, 108, 107, 33, 68], u ∉ ts) : Hed w' base h E S := by
  obtain ⟨ip, sv, k⟩ := k
  exact ⟨ip, sv, k.turn t hn⟩
theorem Hed.below (k : Hed w base h E S) (hb : Below w.heap.size w w') : Hed w' base h E S := k.turn (Turn.of_below hb 0 [] false) (by simp)
end
/-- an entry, as it lies -/
structure EntR where
  lab : Sl Lbl
  t : Int
  v : Nat
def EntR.cells (x : EntR) : List Value := [x.lab.val, .int .i64 x.t, .int .u64 (x.v : Int)]
def EntR.p (x : EntR) : EntP := ⟨x.lab.l, x.t, x.v⟩
/-- a batch of entries -/
structure EntF (w : World) (A : Option Addr) (n : Nat) (xs : List EntR) : Prop where
  row : Row w w.heap.size 3 A n (xs.flatMap EntR.cells)
  len : xs.length = n
  few : n ≤ 1048576
  labs : ∀ x ∈ xs, LbF w x.lab.A x.lab.n x.lab.l ∧ x.lab.n ≤ x.lab.c
  ok : ∀ x ∈ xs, -9223372036854775808 ≤ x.t ∧ x.t < 9223372036854775808 ∧ x.v < 18446744073709551616
theorem EntF.on {w w' : World} {A : Option Addr} {n : Nat} {xs : List EntR} (h : EntF w A n xs) (hb : Below w.heap.size w w') : EntF w' A n xs :=
  ⟨(h.row.below hb).more hb.size, h.len, h.few, fun x hx => ⟨(h.labs x hx).1.on hb, (h.labs x hx).2⟩, h.ok⟩
/-- a record of its maker's own: its rows lie in blocks of their kinds -/
structure RecO (w : World) (base : Nat) (r : RecR) : Prop where
  at_ : r.At w
  news : w.ownsRow base 113 2 r.news.val r.news.n (r.news.l.flatMap NewQ.cells)
  labs : ∀ x ∈ r.news.l, LbT w x.lab.A x.lab.n x.lab.l
  pts : w.ownsRow base 115 3 r.pts.val r.pts.n (r.pts.l.flatMap PntR.cells)
  gones : w.ownsRow base 118 3 r.gones.val r.gones.n (r.gones.l.flatMap GonR.cells)
  spns : ∀ x ∈ r.gones.l, w.ownsRow base 33 2 x.sp.val x.sp.n (x.sp.l.flatMap Spn.cells)
end Go.Proofs.YthncochjhbmceaaGreat
