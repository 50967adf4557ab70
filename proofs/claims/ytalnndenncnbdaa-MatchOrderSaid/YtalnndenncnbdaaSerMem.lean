/- Series in memory: what keeps when one row grows. No condition. -/
import Derived.Test.YtalnndenncnbdaaSer
import Derived.Test.YtalnndenncnbdaaBase
namespace Go.Proofs.Ytalnndenncnbdaa
set_option maxRecDepth 100000
open Go.RowKit

theorem gb_far {a w w' : World} {row row' : Option Nat} (h : a.grownBy w row) (k : w.grownBy w' row') (hfar : ∀ j, row' = some j → a.heap.size ≤ j) : a.grownBy w' row :=
  ⟨k.os.trans h.os, k.tape.trans h.tape, k.output.trans h.output, Nat.le_trans h.size k.size, fun i hi hn => (k.block i (Nat.lt_of_lt_of_le hi h.size) (fun e => by have := hfar i e.symm; omega)).trans (h.block i hi hn)⟩

theorem Row.grown {w w' : World} {B size n : Nat} {A : Option Addr} {xs : List Value} {X : Option Nat} (h : Row w B size A n xs) (hg : w.grownBy w' X) (hoff : 0 < n → ∀ a, A = some a → some a.block ≠ X) (hB : B ≤ w.heap.size) : Row w' B size A n xs :=
  ⟨h.len, fun hn => by
    obtain ⟨g, o, e, hb, hc⟩ := h.at_ hn
    exact ⟨g, o, e, hb, fun j hj => (World.cell?_of_block (w := w) (a := ⟨g, o + j, none⟩) (hg.block g (by omega) (hoff hn _ e))).trans (hc j hj)⟩⟩

/-- Its cells don't lie in block X. -/
def Sl.Off {α : Type} (X : Option Nat) (s : Sl α) : Prop := 0 < s.n → ∀ a, s.A = some a → some a.block ≠ X
theorem Sl.At.grown {α : Type} {w w' : World} {B size : Nat} {f : α → List Value} {s : Sl α} {X : Option Nat} (h : s.At w B size f) (hg : w.grownBy w' X) (hoff : s.Off X) (hB : B ≤ w.heap.size) : s.At w' B size f := ⟨h.1, h.2.1, h.2.2.grown hg hoff hB⟩
theorem Sl.At.off {α : Type} {w : World} {B size : Nat} {f : α → List Value} {s : Sl α} {j : Nat} (h : s.At w B size f) (hj : B ≤ j) : s.Off (some j) := fun hn a ha e => by
  obtain ⟨g, o, e1, hb, _⟩ := h.2.2.at_ hn
  rw [ha] at e1
  injection e1 with e1
  injection e with e
  rw [e1] at e
  simp only at e
  omega
theorem Sl.off_own {α : Type} {w : World} {base size n c : Nat} {e : TypeId} {A : Option Addr} {xs : List Value} {l : List α} {j : Nat} (h : w.ownsRow base e size (.slice A n c) n xs) (hj : j < base) : (Sl.mk A n c l).Off (some j) := fun hn a ha e' => by
  obtain ⟨g, c', hv, hb, _⟩ := own_at h hn
  injection hv with hA _ _
  simp only at ha
  rw [ha] at hA
  injection hA with hA
  injection e' with e'
  rw [hA] at e'
  simp only at e'
  omega
theorem Sl.off_none {α : Type} (s : Sl α) : s.Off none := fun _ _ _ e => by cases e

structure Ser.Off (X : Option Nat) (x : Ser) : Prop where
  lab : x.lab.Off X
  smp : x.smp.Off X
  win : x.win.Off X
theorem Ser.At.grown {w w' : World} {B : Nat} {x : Ser} {X : Option Nat} (h : x.At w B) (hg : w.grownBy w' X) (hoff : x.Off X) (hB : B ≤ w.heap.size) : x.At w' B := ⟨h.lab.grown hg hoff.lab hB, h.smp.grown hg hoff.smp hB, h.win.grown hg hoff.win hB⟩
theorem Ser.At.off {w : World} {B : Nat} {x : Ser} {j : Nat} (h : x.At w B) (hj : B ≤ j) : x.Off (some j) := ⟨h.lab.off hj, h.smp.off hj, h.win.off hj⟩

/-- the same labels, samples and windows -/
structure Ser.Same (x y : Ser) : Prop where
  lab : x.lab.l = y.lab.l
  smp : x.smp.l = y.smp.l
  win : x.win.l = y.win.l

/-- its rows are within the reach -/
structure Ser.Fit (x : Ser) : Prop where
  labn : x.lab.n * 32 ≤ reachBytes
  smpn : x.smp.n * 16 ≤ reachBytes
  winn : x.win.n * 48 ≤ reachBytes
theorem Ser.Ok.fit {b : Nat} {x : Ser} (h : x.Ok b) : x.Fit := ⟨h.labn, h.smpn, h.winn⟩

def serCells (l : List Ser) : List Value := l.flatMap Ser.cells
theorem serCells_at (l : List Ser) : ∀ (k : Nat) (h : k < l.length), (serCells l)[k * 3]? = some l[k].lab.val ∧ (serCells l)[k * 3 + 1]? = some l[k].smp.val ∧ (serCells l)[k * 3 + 2]? = some l[k].win.val := by
  induction l with
  | nil => intro k h; simp at h
  | cons a l ih =>
    intro k h
    have hc : serCells (a :: l) = a.lab.val :: a.smp.val :: a.win.val :: serCells l := by simp [serCells, Ser.cells]
    rw [hc]
    cases k with
    | zero => simp
    | succ k =>
      have := ih k (by simpa using h)
      rw [show (k + 1) * 3 = k * 3 + 1 + 1 + 1 from by omega]
      simpa using this
theorem serCells_snoc (l : List Ser) (s : Ser) : serCells (l ++ [s]) = serCells l ++ [s.lab.val, s.smp.val, s.win.val] := by simp [serCells, Ser.cells]

/-- the cells of series k of a list -/
theorem ser_cells_at {w wr : World} {A : Option Addr} {n : Nat} {l : List Ser} {B : Nat} (hr : Row w B 3 A n (serCells l)) (hl : l.length = n) (hb : Below B w wr) (k : Nat) (hk : k < n) :
    ∃ gs o, A = some ⟨gs, o, none⟩ ∧ gs < B ∧ ∃ x, l[k]? = some x ∧ wr.cell? ⟨gs, o + k * 3, none⟩ = some x.lab.val ∧ wr.cell? ⟨gs, o + k * 3 + 1, none⟩ = some x.smp.val ∧ wr.cell? ⟨gs, o + k * 3 + 2, none⟩ = some x.win.val := by
  obtain ⟨gs, o, rfl, hgs, hc⟩ := hr.at_ (by omega)
  have hkl : k < l.length := by omega
  have hs := serCells_at l k hkl
  have hx : ∀ j u, j < 3 → (serCells l)[k * 3 + j]? = some u → wr.cell? ⟨gs, o + (k * 3 + j), none⟩ = some u := fun j u hj hu => ((hb.cell (p := ⟨gs, o + (k * 3 + j), none⟩) hgs).trans (hc (k * 3 + j) (by omega))).trans hu
  exact ⟨gs, o, rfl, hgs, l[k], List.getElem?_eq_getElem hkl, hx 0 _ (by omega) hs.1, hx 1 _ (by omega) hs.2.1, hx 2 _ (by omega) hs.2.2⟩
def lblCells (l : List Lbl) : List Value := l.flatMap Lbl.cells
theorem lblCells_at (l : List Lbl) : ∀ (k : Nat) (h : k < l.length), (lblCells l)[k * 2]? = some (.string l[k].name) ∧ (lblCells l)[k * 2 + 1]? = some (.string l[k].value) := by
  induction l with
  | nil => intro k h; simp at h
  | cons a l ih =>
    intro k h
    have hc : lblCells (a :: l) = .string a.name :: .string a.value :: lblCells l := by simp [lblCells, Lbl.cells]
    rw [hc]
    cases k with
    | zero => simp
    | succ k =>
      have := ih k (by simpa using h)
      rw [show (k + 1) * 2 = k * 2 + 1 + 1 from by omega]
      simpa using this
theorem lblCells_snoc (l : List Lbl) (s : Lbl) : lblCells (l ++ [s]) = lblCells l ++ [.string s.name, .string s.value] := by simp [lblCells, Lbl.cells]

/-- what a list of series becomes: the same series, in rows of the call's own -/
structure SersAs (w' : World) (base : Nat) (ss L : List Ser) : Prop where
  len : L.length = ss.length
  same : ∀ (i : Nat) (x y : Ser), ss[i]? = some x → L[i]? = some y → y.Same x
  at_ : ∀ y ∈ L, y.At w' w'.heap.size
  own : ∀ y ∈ L, ∀ j, j < base → y.Off (some j)

theorem Ser.off_none (x : Ser) : x.Off none := ⟨Sl.off_none _, Sl.off_none _, Sl.off_none _⟩
theorem Ser.At.alloc {w : World} {B : Nat} {x : Ser} (h : x.At w B) (hB : B ≤ w.heap.size) (c : Obj) : x.At (w.alloc c) B := h.grown (gb_alloc (gb_refl w none) c) x.off_none hB

/-- one series more, appended -/
theorem sers_more {W2 w9 wo : World} {base k : Nat} {vo v9 : Value} {ss L : List Ser} {x y : Ser} {c : Obj} (hA : SersAs wo base (ss.take k) L) (hx : ss[k]? = some x) (hsame : y.Same x) (hLw : ∀ z ∈ L, z.At W2 wo.heap.size) (hy : y.At W2 W2.heap.size)
    (hyo : ∀ j, j < base → y.Off (some j)) (hyv : y.Off vo.ownBlock) (hoff : ∀ z ∈ L, z.Off vo.ownBlock) (hs : wo.heap.size ≤ W2.heap.size) (hg9 : (W2.alloc c).grownBy w9 vo.ownBlock) (hat9 : v9.ownBlock = vo.ownBlock ∨ v9.ownBlock = some (W2.alloc c).heap.size) :
    SersAs w9 base (ss.take (k + 1)) (L ++ [y]) ∧ ∀ z ∈ L ++ [y], z.Off v9.ownBlock := by
  have hall : ∀ z ∈ L ++ [y], z.At W2 W2.heap.size ∧ z.Off vo.ownBlock ∧ ∀ j, j < base → z.Off (some j) := by
    intro z hz
    rcases List.mem_append.1 hz with h | h
    · exact ⟨(hLw z h).more hs, hoff z h, hA.own z h⟩
    · simp only [List.mem_singleton] at h
      subst h
      exact ⟨hy, hyv, hyo⟩
  have hkl : k < ss.length := (List.getElem?_eq_some_iff.1 hx).1
  have hlen : L.length = k := by rw [hA.len, List.length_take]; omega
  have hs9 := hg9.size
  simp only [World.size_alloc] at hs9
  refine ⟨⟨by simp [hlen]; omega, fun i a b ha hb => ?_, fun z hz => ?_, fun z hz => (hall z hz).2.2⟩, fun z hz => ?_⟩
  · rw [take_snoc? hx] at ha
    rcases Nat.lt_or_ge i k with h | h
    · rw [List.getElem?_append_left (by rw [List.length_take]; omega)] at ha
      rw [List.getElem?_append_left (by omega)] at hb
      exact hA.same i a b ha hb
    · have : i = k := by
        have := (List.getElem?_eq_some_iff.1 hb).1
        simp [hlen] at this
        omega
      subst this
      rw [List.getElem?_append_right (by rw [List.length_take]; omega), List.length_take, Nat.min_eq_left (by omega), Nat.sub_self] at ha
      rw [List.getElem?_append_right (by omega), hlen, Nat.sub_self] at hb
      simp only [List.getElem?_cons_zero, Option.some.injEq] at ha hb
      subst ha hb
      exact hsame
  · obtain ⟨h1, h2, _⟩ := hall z hz
    exact ((h1.alloc (Nat.le_refl _) c).grown hg9 h2 (by simp)).more (by omega)
  · obtain ⟨h1, h2, _⟩ := hall z hz
    rcases hat9 with h | h
    · rw [h]; exact h2
    · rw [h]; exact h1.off (by simp)
end Go.Proofs.Ytalnndenncnbdaa
