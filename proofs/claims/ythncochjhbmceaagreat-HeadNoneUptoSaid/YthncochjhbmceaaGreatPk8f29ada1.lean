/- How the laws' lists of samples and of windows read. No condition. Labels, samples, windows, series: what came in, opened. No condition. Series in memory: what keeps when one row grows. No condition. The reference's Compare at labels that are the same, and its Series at lists that are alike. No condition. -/
import Derived.Test.YthncochjhbmceaaGreatPkb5fb2d9c
import Derived.Test.YthncochjhbmceaaGreatPke4234c21
namespace Go.Proofs.YthncochjhbmceaaGreat
set_option maxRecDepth 100000
open Go.RowKit Go.WideShapes Go.ChangeShapes

theorem own_prog : ownKnob Tryz.prog.godebug = none := by kernel_rfl
theorem laidOut : laidOutB Tryz.prog = true := by kernel_rfl
theorem cells_smp : Tryz.prog.cellsOf 68 = 2 := by kernel_rfl
theorem cells_win : Tryz.prog.cellsOf 380 = 6 := by kernel_rfl
theorem bytes_smp : Tryz.prog.bytesOf 68 = 16 := by kernel_rfl
theorem bytes_win : Tryz.prog.bytesOf 380 = 48 := by kernel_rfl

def Win.ok (x : Win) : Prop := (-9223372036854775808 ≤ x.count ∧ x.count < 9223372036854775808) ∧ x.sum < 18446744073709551616 ∧ x.min < 18446744073709551616 ∧ x.max < 18446744073709551616 ∧ x.last < 18446744073709551616
def Win.ok2 (x : Win) : Prop := x.ok ∧ -9223372036854775808 ≤ x.start ∧ x.start < 9223372036854775808

theorem wf_i64 {x : Int} (h : (Lit.int .i64 x).wf = true) : -9223372036854775808 ≤ x ∧ x < 9223372036854775808 := by
  have h1 : IntKind.i64.min = -9223372036854775808 := rfl
  have h2 : IntKind.i64.max = 9223372036854775807 := rfl
  simp only [Lit.wf, Bool.and_eq_true, decide_eq_true_eq] at h
  omega
theorem wf_u64 {x : Int} (h : (Lit.int .u64 x).wf = true) : 0 ≤ x ∧ x < 18446744073709551616 := by
  have h1 : IntKind.u64.min = 0 := rfl
  have h2 : IntKind.u64.max = 18446744073709551615 := rfl
  simp only [Lit.wf, Bool.and_eq_true, decide_eq_true_eq] at h
  omega

theorem toSmps (L : List (List Int)) (h : ∀ r ∈ L, r.length = 2 ∧ ∀ (j : Nat) (k : IntKind) (x : Int), [IntKind.i64, .u64][j]? = some k → r[j]? = some x → (Lit.int k x).wf = true) :
    ∃ l : List Smp, l.length = L.length ∧ smpCells l = L.flatMap (intRow [.i64, .u64]) ∧ (∀ s ∈ l, s.ok ∧ -9223372036854775808 ≤ s.t ∧ s.t < 9223372036854775808) := by
  induction L with
  | nil => exact ⟨[], rfl, rfl, by simp⟩
  | cons r L ih =>
    obtain ⟨l, h1, h2, h3⟩ := ih (fun r hr => h r (by simp [hr]))
    obtain ⟨hr, hw⟩ := h r (by simp)
    match r, hr with
    | [a, b], _ =>
      have w0 := wf_i64 (hw 0 .i64 a rfl rfl)
      have w1 := wf_u64 (hw 1 .u64 b rfl rfl)
      obtain ⟨b, rfl⟩ := Int.eq_ofNat_of_zero_le w1.1
      refine ⟨⟨a, b⟩ :: l, by simp [h1], ?_, ?_⟩
      · simp only [smpCells, List.flatMap_cons, intRow, List.zipWith_cons_cons, List.zipWith_nil_left] at h2 ⊢
        rw [h2]
      · intro s hs
        rcases List.mem_cons.1 hs with rfl | hs
        · exact ⟨by show b < _; omega, w0.1, w0.2⟩
        · exact h3 s hs

theorem toWins (L : List (List Int)) (h : ∀ r ∈ L, r.length = 6 ∧ ∀ (j : Nat) (k : IntKind) (x : Int), [IntKind.i64, .i64, .u64, .u64, .u64, .u64][j]? = some k → r[j]? = some x → (Lit.int k x).wf = true) :
    ∃ l : List Win, l.length = L.length ∧ winCells l = L.flatMap (intRow [.i64, .i64, .u64, .u64, .u64, .u64]) ∧ (∀ s ∈ l, s.ok2) := by
  induction L with
  | nil => exact ⟨[], rfl, rfl, by simp⟩
  | cons r L ih =>
    obtain ⟨l, h1, h2, h3⟩ := ih (fun r hr => h r (by simp [hr]))
    obtain ⟨hr, hw⟩ := h r (by simp)
    match r, hr with
    | [a, b, c, d, e, f], _ =>
      have w0 := wf_i64 (hw 0 .i64 a rfl rfl)
      have w1 := wf_i64 (hw 1 .i64 b rfl rfl)
      have w2 := wf_u64 (hw 2 .u64 c rfl rfl)
      have w3 := wf_u64 (hw 3 .u64 d rfl rfl)
      have w4 := wf_u64 (hw 4 .u64 e rfl rfl)
      have w5 := wf_u64 (hw 5 .u64 f rfl rfl)
      obtain ⟨c, rfl⟩ := Int.eq_ofNat_of_zero_le w2.1
      obtain ⟨d, rfl⟩ := Int.eq_ofNat_of_zero_le w3.1
      obtain ⟨e, rfl⟩ := Int.eq_ofNat_of_zero_le w4.1
      obtain ⟨f, rfl⟩ := Int.eq_ofNat_of_zero_le w5.1
      refine ⟨⟨a, b, c, d, e, f⟩ :: l, by simp [h1], ?_, ?_⟩
      · rw [winCells_cons, h2]
        simp [intRow]
      · intro s hs
        rcases List.mem_cons.1 hs with rfl | hs
        · exact ⟨⟨w1, by show c < _; omega, by show d < _; omega, by show e < _; omega, by show f < _; omega⟩, w0.1, w0.2⟩
        · exact h3 s hs

section
variable {H : Type} {enc : TypeId × Value → H} {W : World}

set_option maxRecDepth 100000 in
theorem open_smps {v : Value} {d : DataW H} {ps : List MemPlace} {base : Nat}
    (hv : Value.okWide Tryz.prog W .any base 63 v) (h : DataW.Trod enc Tryz.prog W 0 (fun _ => true) true 63 v d ps) (hlt : ∀ x ∈ ps, x.block < W.heap.size) :
    ∃ (A : Option Addr) (n c : Nat) (l : List Smp), v = .slice A n c ∧ n ≤ c ∧ l.length = n ∧ Row W W.heap.size 2 A n (smpCells l) ∧ (∀ s ∈ l, s.ok ∧ -9223372036854775808 ≤ s.t ∧ s.t < 9223372036854775808) ∧
      ((n = 0 ∧ d = .nil) ∨ ∃ es sp : List (DataW H), d = .slice es sp ∧ es.length = n) := by
  obtain ⟨A, n, c, L, rfl, hnc, hL, hr, hw, hd⟩ := open_flat [.i64, .u64] Tryz.underlying63 Tryz.underlying68 (by kernel_rfl) cells_smp (by kernel_rfl) (by decide) hv h hlt
  obtain ⟨l, h1, h2, h3⟩ := toSmps L hw
  exact ⟨A, n, c, l, rfl, hnc, h1.trans hL, by rw [h2]; exact hr, h3, hd⟩

set_option maxRecDepth 100000 in
theorem open_wins {v : Value} {d : DataW H} {ps : List MemPlace} {base : Nat}
    (hv : Value.okWide Tryz.prog W .any base 71 v) (h : DataW.Trod enc Tryz.prog W 0 (fun _ => true) true 71 v d ps) (hlt : ∀ x ∈ ps, x.block < W.heap.size) :
    ∃ (A : Option Addr) (n c : Nat) (l : List Win), v = .slice A n c ∧ n ≤ c ∧ l.length = n ∧ Row W W.heap.size 6 A n (winCells l) ∧ (∀ s ∈ l, s.ok2) ∧
      ((n = 0 ∧ d = .nil) ∨ ∃ es sp : List (DataW H), d = .slice es sp ∧ es.length = n) := by
  obtain ⟨A, n, c, L, rfl, hnc, hL, hr, hw, hd⟩ := open_flat [.i64, .i64, .u64, .u64, .u64, .u64] Tryz.underlying71 Tryz.underlying380 (by kernel_rfl) cells_win (by kernel_rfl) (by decide) hv h hlt
  obtain ⟨l, h1, h2, h3⟩ := toWins L hw
  exact ⟨A, n, c, l, rfl, hnc, h1.trans hL, by rw [h2]; exact hr, h3, hd⟩

/-- what the reach says of a list -/
theorem reach_of {P : Program} {ts : List TypeId} {ds : List (DataW H)} (h : (DataW.weightsEach P ts ds).all (· ≤ reachBytes) = true) {j n : Nat} {t e : TypeId} {d : DataW H} (ht : ts[j]? = some t) (hd : ds[j]? = some d)
    (hu : P.underlying t = some (.slice e)) (hd2 : (n = 0 ∧ d = .nil) ∨ ∃ es sp : List (DataW H), d = .slice es sp ∧ es.length = n) : n * P.bytesOf e ≤ 140737488351232 := by
  rcases hd2 with ⟨rfl, _⟩ | ⟨es, sp, rfl, rfl⟩
  · omega
  · have h1 := sized_slice h ht hd hu
    have h2 : es.length * P.bytesOf e ≤ (es.length + sp.length) * P.bytesOf e := Nat.mul_le_mul_right _ (by omega)
    simp only [reachBytes] at h1
    omega
end
end Go.Proofs.YthncochjhbmceaaGreat

namespace Go.Proofs.YthncochjhbmceaaGreat
set_option maxRecDepth 100000
open Go.RowKit

instance : Inhabited Smp := ⟨⟨0, 0⟩⟩
instance : Inhabited Win := ⟨⟨0, 0, 0, 0, 0, 0⟩⟩
structure Lbl where
  name : ByteArray
  value : ByteArray
deriving Inhabited
def Lbl.cells (x : Lbl) : List Value := [.string x.name, .string x.value]
def Smp.cells (x : Smp) : List Value := [.int .i64 x.t, .int .u64 (x.v : Nat)]
/-- a series, as it lies -/
structure Ser where
  lab : Sl Lbl
  smp : Sl Smp
  win : Sl Win
instance {α : Type} : Inhabited (Sl α) := ⟨Sl.nil⟩
instance : Inhabited Ser := ⟨⟨Sl.nil, Sl.nil, Sl.nil⟩⟩
def Ser.cells (x : Ser) : List Value := [x.lab.val, x.smp.val, x.win.val]
/-- its rows show what it says -/
structure Ser.At (w : World) (B : Nat) (x : Ser) : Prop where
  lab : x.lab.At w B 2 Lbl.cells
  smp : x.smp.At w B 2 Smp.cells
  win : x.win.At w B 6 Win.cells
theorem Ser.At.below {w w' : World} {B : Nat} {x : Ser} (h : x.At w B) (hb : Below B w w') : x.At w' B := ⟨h.lab.below hb, h.smp.below hb, h.win.below hb⟩
theorem Ser.At.more {w : World} {B B' : Nat} {x : Ser} (h : x.At w B) (hB : B ≤ B') : x.At w B' := ⟨h.lab.more hB, h.smp.more hB, h.win.more hB⟩
/-- its numbers are in their ranges -/
structure Ser.Ok (b : Nat) (x : Ser) : Prop where
  smps : ∀ s ∈ x.smp.l, s.ok ∧ -9223372036854775808 ≤ s.t ∧ s.t < 9223372036854775808
  wins : ∀ s ∈ x.win.l, s.ok2
  labn : x.lab.n * 32 ≤ reachBytes
  smpn : x.smp.n * 16 ≤ reachBytes
  winn : x.win.n * 48 ≤ reachBytes
  few : x.lab.n ≤ b ∧ x.smp.n ≤ b ∧ x.win.n ≤ b

section
variable {H : Type} {enc : TypeId × Value → H} {W : World} {b : Nat}

set_option maxRecDepth 100000 in
theorem opens_lbl : Opens enc Tryz.prog W b 70 Lbl.cells (fun _ => True) := by
  intro fuel cs x h hf
  obtain ⟨n, hl, hp⟩ := open_ones Tryz.underlying70 (by kernel_rfl) (by kernel_rfl) h hf
  obtain ⟨u0, y0, c0, t0, f0⟩ := hp 0 _ rfl
  obtain ⟨u1, y1, c1, t1, f1⟩ := hp 1 _ rfl
  obtain ⟨s0, e0, _⟩ := opens_string Tryz.underlying9 _ _ _ t0 f0
  obtain ⟨s1, e1, _⟩ := opens_string Tryz.underlying9 _ _ _ t1 f1
  simp only [List.cons.injEq, and_true] at e0 e1
  subst e0 e1
  match cs, hl with
  | [a, c], _ =>
    simp only [List.getElem?_cons_zero, List.getElem?_cons_succ, Option.some.injEq] at c0 c1
    exact ⟨⟨s0, s1⟩, by rw [c0, c1]; rfl, trivial⟩

set_option maxRecDepth 100000 in
theorem opens_smp : Opens enc Tryz.prog W b 68 Smp.cells (fun s => s.ok ∧ -9223372036854775808 ≤ s.t ∧ s.t < 9223372036854775808) := by
  intro fuel cs x h hf
  obtain ⟨n, hl, hp⟩ := open_ones Tryz.underlying68 (by kernel_rfl) (by kernel_rfl) h hf
  obtain ⟨u0, y0, c0, t0, f0⟩ := hp 0 _ rfl
  obtain ⟨u1, y1, c1, t1, f1⟩ := hp 1 _ rfl
  obtain ⟨s0, e0, g0⟩ := opens_int Tryz.underlying2 _ _ _ t0 f0
  obtain ⟨s1, e1, g1⟩ := opens_int Tryz.underlying66 _ _ _ t1 f1
  simp only [List.cons.injEq, and_true] at e0 e1
  subst e0 e1
  have w0 := wf_i64 g0
  have w1 := wf_u64 g1
  obtain ⟨s1, rfl⟩ := Int.eq_ofNat_of_zero_le w1.1
  match cs, hl with
  | [a, c], _ =>
    simp only [List.getElem?_cons_zero, List.getElem?_cons_succ, Option.some.injEq] at c0 c1
    exact ⟨⟨s0, s1⟩, by rw [c0, c1]; rfl, by show s1 < _; omega, w0⟩

set_option maxRecDepth 100000 in
theorem opens_win : Opens enc Tryz.prog W b 380 Win.cells (fun s => s.ok2) := by
  intro fuel cs x h hf
  obtain ⟨n, hl, hp⟩ := open_ones Tryz.underlying380 (by kernel_rfl) (by kernel_rfl) h hf
  obtain ⟨u0, y0, c0, t0, f0⟩ := hp 0 _ rfl
  obtain ⟨u1, y1, c1, t1, f1⟩ := hp 1 _ rfl
  obtain ⟨u2, y2, c2, t2, f2⟩ := hp 2 _ rfl
  obtain ⟨u3, y3, c3, t3, f3⟩ := hp 3 _ rfl
  obtain ⟨u4, y4, c4, t4, f4⟩ := hp 4 _ rfl
  obtain ⟨u5, y5, c5, t5, f5⟩ := hp 5 _ rfl
  obtain ⟨s0, e0, g0⟩ := opens_int Tryz.underlying2 _ _ _ t0 f0
  obtain ⟨s1, e1, g1⟩ := opens_int Tryz.underlying3 _ _ _ t1 f1
  obtain ⟨s2, e2, g2⟩ := opens_int Tryz.underlying66 _ _ _ t2 f2
  obtain ⟨s3, e3, g3⟩ := opens_int Tryz.underlying66 _ _ _ t3 f3
  obtain ⟨s4, e4, g4⟩ := opens_int Tryz.underlying66 _ _ _ t4 f4
  obtain ⟨s5, e5, g5⟩ := opens_int Tryz.underlying66 _ _ _ t5 f5
  simp only [List.cons.injEq, and_true] at e0 e1 e2 e3 e4 e5
  subst e0 e1 e2 e3 e4 e5
  have w0 := wf_i64 g0
  have w1 := wf_i64 g1
  have w2 := wf_u64 g2
  have w3 := wf_u64 g3
  have w4 := wf_u64 g4
  have w5 := wf_u64 g5
  obtain ⟨s2, rfl⟩ := Int.eq_ofNat_of_zero_le w2.1
  obtain ⟨s3, rfl⟩ := Int.eq_ofNat_of_zero_le w3.1
  obtain ⟨s4, rfl⟩ := Int.eq_ofNat_of_zero_le w4.1
  obtain ⟨s5, rfl⟩ := Int.eq_ofNat_of_zero_le w5.1
  match cs, hl with
  | [a, b, c, d, e, f], _ =>
    simp only [List.getElem?_cons_zero, List.getElem?_cons_succ, Option.some.injEq] at c0 c1 c2 c3 c4 c5
    exact ⟨⟨s0, s1, s2, s3, s4, s5⟩, by rw [c0, c1, c2, c3, c4, c5]; rfl, ⟨w1, by show s2 < _; omega, by show s3 < _; omega, by show s4 < _; omega, by show s5 < _; omega⟩, w0⟩

set_option maxRecDepth 100000 in
theorem opens_ser : Opens enc Tryz.prog W b 73 Ser.cells (fun s => s.At W W.heap.size ∧ s.Ok b) := by
  intro fuel cs x h hf
  obtain ⟨n, hl, hp⟩ := open_ones Tryz.underlying73 (by kernel_rfl) (by kernel_rfl) h hf
  obtain ⟨u0, y0, c0, t0, f0⟩ := hp 0 _ rfl
  obtain ⟨u1, y1, c1, t1, f1⟩ := hp 1 _ rfl
  obtain ⟨u2, y2, c2, t2, f2⟩ := hp 2 _ rfl
  obtain ⟨s0, e0, g0⟩ := opens_slice (k := 2) (f := Lbl.cells) Tryz.underlying61 (by kernel_rfl) (by decide) (fun _ => rfl) opens_lbl _ _ _ t0 f0
  obtain ⟨s1, e1, g1⟩ := opens_slice (k := 2) (f := Smp.cells) Tryz.underlying63 (by kernel_rfl) (by decide) (fun _ => rfl) opens_smp _ _ _ t1 f1
  obtain ⟨s2, e2, g2⟩ := opens_slice (k := 6) (f := Win.cells) Tryz.underlying71 (by kernel_rfl) (by decide) (fun _ => rfl) opens_win _ _ _ t2 f2
  simp only [List.cons.injEq, and_true] at e0 e1 e2
  subst e0 e1 e2
  match cs, hl with
  | [a, c, d], _ =>
    simp only [List.getElem?_cons_zero, List.getElem?_cons_succ, Option.some.injEq] at c0 c1 c2
    exact ⟨⟨s0, s1, s2⟩, by rw [c0, c1, c2]; rfl, ⟨g0.1, g1.1, g2.1⟩, g1.2.1, g2.2.1, g0.2.2.1, g1.2.2.1, g2.2.2.1, g0.2.2.2, g1.2.2.2, g2.2.2.2⟩
end
end Go.Proofs.YthncochjhbmceaaGreat

namespace Go.Proofs.YthncochjhbmceaaGreat
set_option maxRecDepth 100000
open Go.RowKit

theorem gb_far {a w w' : World} {row row' : Option Nat} (h : a.grownBy w row) (k : w.grownBy w' row') (hfar : ∀ j, row' = some j → a.heap.size ≤ j) : a.grownBy w' row :=
  ⟨k.os.trans h.os, k.tape.trans h.tape, k.output.trans h.output, Nat.le_trans h.size k.size, fun i hi hn => (k.block i (Nat.lt_of_lt_of_le hi h.size) (fun e => by have := hfar i e.symm; omega)).trans (h.block i hi hn)⟩

theorem Row.grown {w w' : World} {B size n : Nat} {A : Option Addr} {xs : List Value} {X : Option Nat} (h : Row w B size A n xs) (hg : w.grownBy w' X) (hoff : 0 < n → ∀ a, A = some a → some a.block ≠ X) (hB : B ≤ w.heap.size) : Row w' B size A n xs :=
  ⟨h.len, fun hn => by
    obtain ⟨g, o, e, hb, hc⟩ := h.at_ hn
    exact ⟨g, o, e, hb, fun j hj => (World.cell?_of_block (w := w) (a := ⟨g, o + j, none⟩) (hg.block g (by omega) (hoff hn _ e))).trans (hc j hj)⟩⟩

/-- Its cells don't lie in block X. -/
def Sl.Off {α : Type} (X : Option Nat) (s : Sl α) : Prop := 0 < s.n → ∀ a, s.A = some a → some a.block ≠ X
theorem Sl.At.grown {α : Type} {w w' : World} {B size : Nat} {f : α → List Value} {s : Sl α} {X : Option Nat} (h : s.At w B size f) (hg : w.grownBy w' X) (hoff : s.Off X) (hB : B ≤ w.heap.size) : s.At w' B size f := ⟨h.1, h.2.1, h.2.2.grown hg hoff hB⟩
theorem Sl.At.off {α : Type} {w : World} {B size : Nat} {f : α → List Value} {s : Sl α} {j : Nat} (h : s.At w B size f) (hj : B ≤ j) : s.Off (some j) := fun hn a ha e => by
  obtain ⟨g, o, e1, hb, _⟩ := h.2.2.at_ hn
  rw [ha] at e1
  injection e1 with e1
  injection e with e
  rw [e1] at e
  simp only at e
  omega
theorem Sl.off_own {α : Type} {w : World} {base size n c : Nat} {e : TypeId} {A : Option Addr} {xs : List Value} {l : List α} {j : Nat} (h : w.ownsRow base e size (.slice A n c) n xs) (hj : j < base) : (Sl.mk A n c l).Off (some j) := fun hn a ha e' => by
  obtain ⟨g, c', hv, hb, _⟩ := own_at h hn
  injection hv with hA _ _
  simp only at ha
  rw [ha] at hA
  injection hA with hA
  injection e' with e'
  rw [hA] at e'
  simp only at e'
  omega
theorem Sl.off_none {α : Type} (s : Sl α) : s.Off none := fun _ _ _ e => by cases e

structure Ser.Off (X : Option Nat) (x : Ser) : Prop where
  lab : x.lab.Off X
  smp : x.smp.Off X
  win : x.win.Off X
theorem Ser.At.grown {w w' : World} {B : Nat} {x : Ser} {X : Option Nat} (h : x.At w B) (hg : w.grownBy w' X) (hoff : x.Off X) (hB : B ≤ w.heap.size) : x.At w' B := ⟨h.lab.grown hg hoff.lab hB, h.smp.grown hg hoff.smp hB, h.win.grown hg hoff.win hB⟩
theorem Ser.At.off {w : World} {B : Nat} {x : Ser} {j : Nat} (h : x.At w B) (hj : B ≤ j) : x.Off (some j) := ⟨h.lab.off hj, h.smp.off hj, h.win.off hj⟩

/-- the same labels, samples and windows -/
structure Ser.Same (x y : Ser) : Prop where
  lab : x.lab.l = y.lab.l
  smp : x.smp.l = y.smp.l
  win : x.win.l = y.win.l

/-- its rows are within the reach -/
structure Ser.Fit (x : Ser) : Prop where
  labn : x.lab.n * 32 ≤ reachBytes
  smpn : x.smp.n * 16 ≤ reachBytes
  winn : x.win.n * 48 ≤ reachBytes
theorem Ser.Ok.fit {b : Nat} {x : Ser} (h : x.Ok b) : x.Fit := ⟨h.labn, h.smpn, h.winn⟩

def serCells (l : List Ser) : List Value := l.flatMap Ser.cells
theorem serCells_at (l : List Ser) : ∀ (k : Nat) (h : k < l.length), (serCells l)[k * 3]? = some l[k].lab.val ∧ (serCells l)[k * 3 + 1]? = some l[k].smp.val ∧ (serCells l)[k * 3 + 2]? = some l[k].win.val := by
  induction l with
  | nil => intro k h; simp at h
  | cons a l ih =>
    intro k h
    have hc : serCells (a :: l) = a.lab.val :: a.smp.val :: a.win.val :: serCells l := by simp [serCells, Ser.cells]
    rw [hc]
    cases k with
    | zero => simp
    | succ k =>
      have := ih k (by simpa using h)
      rw [show (k + 1) * 3 = k * 3 + 1 + 1 + 1 from by omega]
      simpa using this
theorem serCells_snoc (l : List Ser) (s : Ser) : serCells (l ++ [s]) = serCells l ++ [s.lab.val, s.smp.val, s.win.val] := by simp [serCells, Ser.cells]

/-- the cells of series k of a list -/
theorem ser_cells_at {w wr : World} {A : Option Addr} {n : Nat} {l : List Ser} {B : Nat} (hr : Row w B 3 A n (serCells l)) (hl : l.length = n) (hb : Below B w wr) (k : Nat) (hk : k < n) :
    ∃ gs o, A = some ⟨gs, o, none⟩ ∧ gs < B ∧ ∃ x, l[k]? = some x ∧ wr.cell? ⟨gs, o + k * 3, none⟩ = some x.lab.val ∧ wr.cell? ⟨gs, o + k * 3 + 1, none⟩ = some x.smp.val ∧ wr.cell? ⟨gs, o + k * 3 + 2, none⟩ = some x.win.val := by
  obtain ⟨gs, o, rfl, hgs, hc⟩ := hr.at_ (by omega)
  have hkl : k < l.length := by omega
  have hs := serCells_at l k hkl
  have hx : ∀ j u, j < 3 → (serCells l)[k * 3 + j]? = some u → wr.cell? ⟨gs, o + (k * 3 + j), none⟩ = some u := fun j u hj hu => ((hb.cell (p := ⟨gs, o + (k * 3 + j), none⟩) hgs).trans (hc (k * 3 + j) (by omega))).trans hu
  exact ⟨gs, o, rfl, hgs, l[k], List.getElem?_eq_getElem hkl, hx 0 _ (by omega) hs.1, hx 1 _ (by omega) hs.2.1, hx 2 _ (by omega) hs.2.2⟩
theorem info_rlbl : (Tryz.prog.info? 167).map (fun i => (i.zero, i.size, i.bytes)) = some (some (.agg #[.string ByteArray.empty, .string ByteArray.empty]), 2, 32) := by kernel_rfl

def lblCells (l : List Lbl) : List Value := l.flatMap Lbl.cells
theorem lblCells_at (l : List Lbl) : ∀ (k : Nat) (h : k < l.length), (lblCells l)[k * 2]? = some (.string l[k].name) ∧ (lblCells l)[k * 2 + 1]? = some (.string l[k].value) := by
  induction l with
  | nil => intro k h; simp at h
  | cons a l ih =>
    intro k h
    have hc : lblCells (a :: l) = .string a.name :: .string a.value :: lblCells l := by simp [lblCells, Lbl.cells]
    rw [hc]
    cases k with
    | zero => simp
    | succ k =>
      have := ih k (by simpa using h)
      rw [show (k + 1) * 2 = k * 2 + 1 + 1 from by omega]
      simpa using this
theorem lblCells_snoc (l : List Lbl) (s : Lbl) : lblCells (l ++ [s]) = lblCells l ++ [.string s.name, .string s.value] := by simp [lblCells, Lbl.cells]

theorem info_rser : (Tryz.prog.info? 89).map (fun i => (i.zero, i.size, i.bytes)) = some (some (.agg #[.slice none 0 0, .slice none 0 0, .slice none 0 0]), 3, 72) := by kernel_rfl
theorem info_ser : (Tryz.prog.info? 73).map (fun i => (i.zero, i.size, i.bytes)) = some (some (.agg #[.slice none 0 0, .slice none 0 0, .slice none 0 0]), 3, 72) := by kernel_rfl

/-- what a list of series becomes: the same series, in rows of the call's own -/
structure SersAs (w' : World) (base : Nat) (ss L : List Ser) : Prop where
  len : L.length = ss.length
  same : ∀ (i : Nat) (x y : Ser), ss[i]? = some x → L[i]? = some y → y.Same x
  at_ : ∀ y ∈ L, y.At w' w'.heap.size
  own : ∀ y ∈ L, ∀ j, j < base → y.Off (some j)

theorem Ser.off_none (x : Ser) : x.Off none := ⟨Sl.off_none _, Sl.off_none _, Sl.off_none _⟩
theorem Ser.At.alloc {w : World} {B : Nat} {x : Ser} (h : x.At w B) (hB : B ≤ w.heap.size) (c : Obj) : x.At (w.alloc c) B := h.grown (gb_alloc (gb_refl w none) c) x.off_none hB

/-- one series more, appended -/
theorem sers_more {W2 w9 wo : World} {base k : Nat} {vo v9 : Value} {ss L : List Ser} {x y : Ser} {c : Obj} (hA : SersAs wo base (ss.take k) L) (hx : ss[k]? = some x) (hsame : y.Same x) (hLw : ∀ z ∈ L, z.At W2 wo.heap.size) (hy : y.At W2 W2.heap.size)
    (hyo : ∀ j, j < base → y.Off (some j)) (hyv : y.Off vo.ownBlock) (hoff : ∀ z ∈ L, z.Off vo.ownBlock) (hs : wo.heap.size ≤ W2.heap.size) (hg9 : (W2.alloc c).grownBy w9 vo.ownBlock) (hat9 : v9.ownBlock = vo.ownBlock ∨ v9.ownBlock = some (W2.alloc c).heap.size) :
    SersAs w9 base (ss.take (k + 1)) (L ++ [y]) ∧ ∀ z ∈ L ++ [y], z.Off v9.ownBlock := by
  have hall : ∀ z ∈ L ++ [y], z.At W2 W2.heap.size ∧ z.Off vo.ownBlock ∧ ∀ j, j < base → z.Off (some j) := by
    intro z hz
    rcases List.mem_append.1 hz with h | h
    · exact ⟨(hLw z h).more hs, hoff z h, hA.own z h⟩
    · simp only [List.mem_singleton] at h
      subst h
      exact ⟨hy, hyv, hyo⟩
  have hkl : k < ss.length := (List.getElem?_eq_some_iff.1 hx).1
  have hlen : L.length = k := by rw [hA.len, List.length_take]; omega
  have hs9 := hg9.size
  simp only [World.size_alloc] at hs9
  refine ⟨⟨by simp [hlen]; omega, fun i a b ha hb => ?_, fun z hz => ?_, fun z hz => (hall z hz).2.2⟩, fun z hz => ?_⟩
  · rw [take_snoc? hx] at ha
    rcases Nat.lt_or_ge i k with h | h
    · rw [List.getElem?_append_left (by rw [List.length_take]; omega)] at ha
      rw [List.getElem?_append_left (by omega)] at hb
      exact hA.same i a b ha hb
    · have : i = k := by
        have := (List.getElem?_eq_some_iff.1 hb).1
        simp [hlen] at this
        omega
      subst this
      rw [List.getElem?_append_right (by rw [List.length_take]; omega), List.length_take, Nat.min_eq_left (by omega), Nat.sub_self] at ha
      rw [List.getElem?_append_right (by omega), hlen, Nat.sub_self] at hb
      simp only [List.getElem?_cons_zero, Option.some.injEq] at ha hb
      subst ha hb
      exact hsame
  · obtain ⟨h1, h2, _⟩ := hall z hz
    exact ((h1.alloc (Nat.le_refl _) c).grown hg9 h2 (by simp)).more (by omega)
  · obtain ⟨h1, h2, _⟩ := hall z hz
    rcases hat9 with h | h
    · rw [h]; exact h2
    · rw [h]; exact h1.off (by simp)
end Go.Proofs.YthncochjhbmceaaGreat

namespace Go.Proofs.YthncochjhbmceaaGreat
set_option maxRecDepth 100000
open Go.RowKit

theorem lbl_cells_at {w wr : World} {A : Option Addr} {n : Nat} {l : List Lbl} {B : Nat} (hr : Row w B 2 A n (lblCells l)) (hl : l.length = n) (hb : Below B w wr) (k : Nat) (hk : k < n) :
    ∃ gs o, A = some ⟨gs, o, none⟩ ∧ gs < B ∧ ∃ x, l[k]? = some x ∧ wr.cell? ⟨gs, o + k * 2, none⟩ = some (.string x.name) ∧ wr.cell? ⟨gs, o + k * 2 + 1, none⟩ = some (.string x.value) := by
  obtain ⟨gs, o, rfl, hgs, hc⟩ := hr.at_ (by omega)
  have hkl : k < l.length := by omega
  have hs := lblCells_at l k hkl
  exact ⟨gs, o, rfl, hgs, l[k], List.getElem?_eq_getElem hkl, ((hb.cell (p := ⟨gs, o + k * 2, none⟩) hgs).trans (hc (k * 2) (by omega))).trans hs.1, ((hb.cell (p := ⟨gs, o + (k * 2 + 1), none⟩) hgs).trans (hc (k * 2 + 1) (by omega))).trans hs.2⟩

theorem bytes_irrefl : ∀ l : List UInt8, Op.bytesLess l l = false
  | [] => rfl
  | a :: l => by simp [Op.bytesLess, bytes_irrefl l]

set_option maxHeartbeats 1600000 in
theorem rcompare_same (A B : Option Addr) (n c1 c2 : Nat) (l : List Lbl) (w : World) (b1 b2 : Nat) (hr : Row w b1 2 A n (lblCells l)) (hr2 : Row w b2 2 B n (lblCells l)) (hl : l.length = n) (hn : n ≤ 4611686018427387904) :
    Calls Tryz.prog 54 #[.slice A n c1, .slice B n c2] w fun e w' => e = .returned (.int .i64 0) ∧ ∃ m, w' = w.drewN m := by
  have hL := hidden hl
  clear hl
  go_enter Tryz.func54, Tryz.ntmps54
  go_wp2
  go_loopw [5] (fun i wr => ∃ k : Nat, k ≤ n ∧ i = .int .i64 k ∧ ∃ m, wr = w.drewN m) (fun i _ => n - (intOf i).toNat)
  case atStart => exact ⟨0, Nat.zero_le _, rfl, 0, rfl⟩
  case round =>
    obtain ⟨k, hk, rfl, m, rfl⟩ := hrel
    by_cases hlt : k < n
    · obtain ⟨gs, o, rfl, _, x, hx, d0, d1⟩ := lbl_cells_at hr hL.out (Below.refl b1 w) k hlt
      obtain ⟨gt, p, rfl, _, y, hy, e0, e1⟩ := lbl_cells_at hr2 hL.out (Below.refl b2 w) k hlt
      have hxy := hx.symm.trans hy
      injection hxy with hxy
      subst hxy
      obtain ⟨x0, x1⟩ := x
      simp only at d0 d1 e0 e1
      have hlt' : (k : Int) < (n : Int) := by omega
      have hk0 : (0 : Int) ≤ (k : Int) := by omega
      clear hx hy hr hr2
      go_upto_region 4 with (fail)
      have t0 := bytes_irrefl x0.toList
      have t1 := bytes_irrefl x1.toList
      go_quiet (fail)
      go_wp2_with fail
      go_quiet (fail)
      go_wp2_with fail
      go_quiet (fail)
      go_wp2_with fail
      go_quiet (fail)
      go_wp2_with fail
      go_roundw
      case rel => exact ⟨k + 1, by omega, by go_num, _, rfl⟩
      case measure => simp [intOf]; omega
    · obtain rfl : k = n := by omega
      go_wp2
      go_ret
      exact ⟨rfl, m, rfl⟩

end Go.Proofs.YthncochjhbmceaaGreat
