/- Leaf functions of package fold and of its reference: what each returns. The folder's method add: what it makes of the folder's six fields. Condition: the fields' bits fit 64 bits, the count is far from int's end. The folder's method window, and Fold over samples: what they return. Condition: bits fit 64 bits, the count is far from int's end. Fold over samples: what it returns. Condition: the samples' values fit 64 bits, the list is no longer than 2^62. Cells of rows of samples and of windows. No condition. -/
import Derived.Test.YthncochjhbmceaaGreatBase
import Derived.Deep.DeepCutAuto
namespace Go.Proofs.YthncochjhbmceaaGreat
set_option maxRecDepth 100000
open Go.RowKit

/-- Where a window begins, and the error's number. -/
def beginOf (t d : Int) : Int × Int :=
  if d < 1 ∨ 1099511627776 < d then (0, 100) else if t < 0 ∨ 1125899906842624 < t then (0, 91) else (t / d * d, 0)

theorem beginOf_width (t d : Int) (h : d < 1 ∨ 1099511627776 < d) : beginOf t d = (0, 100) := by simp [beginOf, h]
theorem beginOf_time (t d : Int) (h : ¬(d < 1 ∨ 1099511627776 < d)) (h2 : t < 0 ∨ 1125899906842624 < t) : beginOf t d = (0, 91) := by simp [beginOf, h, h2]
theorem beginOf_ok (t d : Int) (h : ¬(d < 1 ∨ 1099511627776 < d)) (h2 : ¬(t < 0 ∨ 1125899906842624 < t)) : beginOf t d = (t / d * d, 0) := by simp [beginOf, h, h2]

set_option maxHeartbeats 400000 in
theorem start_any (t d : Int) (w : World) :
    Calls Tryz.prog 45 #[.int .i64 t, .int .i64 d] w fun e w' => e = .returned (.tuple #[.int .i64 (beginOf t d).1, .int .i64 (beginOf t d).2]) ∧ w = w' := by
  by_cases hd : d < 1 ∨ 1099511627776 < d
  · rw [beginOf_width t d hd]
    rcases hd with h | h
    · go_enter Tryz.func45, Tryz.ntmps45
      go_wp2
      go_ret2
      exact ⟨rfl, rfl⟩
    · have h' : ¬ d < 1 := by omega
      go_enter Tryz.func45, Tryz.ntmps45
      go_wp2
      go_ret2
      exact ⟨rfl, rfl⟩
  · have d1 : 1 ≤ d := by omega
    have d2 : d ≤ 1099511627776 := by omega
    by_cases ht : t < 0 ∨ 1125899906842624 < t
    · rw [beginOf_time t d hd ht]
      clear hd
      rcases ht with h | h
      · go_enter Tryz.func45, Tryz.ntmps45
        go_wp2
        go_ret2
        exact ⟨rfl, rfl⟩
      · have h' : ¬ t < 0 := by omega
        go_enter Tryz.func45, Tryz.ntmps45
        go_wp2
        go_ret2
        exact ⟨rfl, rfl⟩
    · rw [beginOf_ok t d hd ht]
      have t1 : 0 ≤ t := by omega
      have t2 : t ≤ 1125899906842624 := by omega
      have hm : t % d ≤ t := by
        have h1 := Int.mul_ediv_add_emod t d
        have h2 : 0 ≤ d * (t / d) := Int.mul_nonneg (by omega) (Int.ediv_nonneg t1 (by omega))
        omega
      have hm0 : 0 ≤ t % d := Int.emod_nonneg t (by omega)
      clear hd ht
      have HE : Hid (t / d * d = t - t % d) := by
        have := Int.mul_ediv_add_emod t d
        rw [Int.mul_comm d] at this
        show t / d * d = t - t % d
        omega
      go_enter Tryz.func45, Tryz.ntmps45
      go_wp2
      go_ret2
      exact ⟨ret_pair HE.out.symm rfl, rfl⟩

/-- x != x -/
def nanB (x : Nat) : Bool := Ieee.double.order x x != some .eq

theorem lt_zero_signed (x : Nat) (h : x < 18446744073709551616) : decide (wrap64 (x : Int) < 0) = decide (9223372036854775808 ≤ x) := by
  have : wrap64 (x : Int) = if x < 9223372036854775808 then (x : Int) else (x : Int) - 18446744073709551616 := by
    unfold wrap64; split <;> omega
  rw [this]; split <;> simp <;> omega

def belowB (a b : Nat) : Bool :=
  if (FloatKind.f64.format.order a b == some .eq) = true then decide (9223372036854775808 ≤ a) && !decide (9223372036854775808 ≤ b) else FloatKind.f64.format.order a b == some .lt

end Go.Proofs.YthncochjhbmceaaGreat

namespace Go.Proofs.YthncochjhbmceaaGreat
set_option maxRecDepth 100000
open Go.RowKit

/-- The fields of a folder. -/
structure Fd where
  s : Nat
  l : Nat
  m : Nat
  lo : Bool
  hi : Bool
  n : Int

def Fd.cells (f : Fd) : Array Value := #[.float .f64 f.s, .float .f64 f.l, .float .f64 f.m, .bool f.lo, .bool f.hi, .int .i64 f.n]

/-- r may be the sum of x and y: of a sum that is no number, whatever NaN. -/
def FAdd (x y r : Nat) : Prop := Ieee.double.add x y = some r ∨ (Ieee.double.add x y = none ∧ nanB r = true ∧ r < 18446744073709551616)

/-- the sum that may stand behind the call -/
def SumTo (f : Fd) (sum r : Nat) : Prop := (f.n = 0 ∧ r = sum) ∨ (f.n ≠ 0 ∧ FAdd f.s sum r)

def takesLow (f : Fd) (x : Nat) : Bool := !nanB x && (!f.lo || belowB x f.l)
def takesHigh (f : Fd) (x : Nat) : Bool := !nanB x && (!f.hi || belowB f.m x)

def Fd.added (f : Fd) (r least most : Nat) : Fd :=
  { s := r, l := if takesLow f least then least else f.l, m := if takesHigh f most then most else f.m, lo := f.lo || takesLow f least, hi := f.hi || takesHigh f most, n := f.n + 1 }

theorem dbl_sign : Ieee.double.signWeight = 9223372036854775808 := by simp [Ieee.Format.signWeight, Ieee.double]
theorem dbl_binade : Ieee.double.binade = 4503599627370496 := by simp [Ieee.Format.binade, Ieee.double]
theorem dbl_inf : Ieee.double.infRung = 9218868437227405312 := by simp [Ieee.Format.infRung, Ieee.Format.binade, Ieee.double]

theorem read_nan (v : Nat) (h : 9218868437227405312 < v % 9223372036854775808) : ∃ s f, Ieee.double.read v = .nan s f := by
  unfold Ieee.Format.read
  rw [dbl_sign, dbl_binade, dbl_inf]
  dsimp only
  generalize v % 9223372036854775808 = r at *
  rw [if_neg (by omega), if_neg (by omega), if_neg (by omega)]
  exact ⟨_, _, rfl⟩

theorem nanB_of (v : Nat) (h : 9218868437227405312 < v % 9223372036854775808) : nanB v = true := by
  obtain ⟨s, f, hr⟩ := read_nan v h
  simp [nanB, Ieee.Format.order, hr, Ieee.Datum.order]

theorem nan_drawn (a b : Nat) (h1 : a < 2) (h2 : b < 4503599627370495) : nanB (a * 9223372036854775808 + 9218868437227405312 + 1 + b) = true ∧ a * 9223372036854775808 + 9218868437227405312 + 1 + b < 18446744073709551616 := by
  refine ⟨nanB_of _ ?_, by omega⟩
  omega

/-- the sum of two floats in the model: some r that may be it -/
theorem run_fadd {P : Program} (t : TypeId) (x y : Nat) (w : World) : ∃ r n, (binOp .add t (.float .f64 x) (.float .f64 y)).run P w = .ok (.float .f64 r) (w.drewN n) ∧ FAdd x y r := by
  cases h : Ieee.double.add x y with
  | some r => exact ⟨r, 0, by rw [run_float_arith w .add t .f64 x y r h]; rfl, .inl h⟩
  | none =>
    have h' : FloatKind.f64.format.add x y = none := h
    have hc : ∀ t, Question.cut (.nanBits .f64 x y) t = t % 2 * 9223372036854775808 + 9218868437227405312 + 1 + t / 2 % 4503599627370495 := fun t => by simp [Question.cut]
    have hn := nan_drawn (w.tape w.drawn (.nanBits .f64 x y) % 2) (w.tape w.drawn (.nanBits .f64 x y) / 2 % 4503599627370495) (Nat.mod_lt _ (by decide)) (Nat.mod_lt _ (by decide))
    rw [← hc] at hn
    refine ⟨_, 1, ?_, .inr ⟨h, hn⟩⟩
    simp [binOp, Op.floatArith, h', choose, Sem.run, Question.forced, World.drewN]


theorem run_store_f64 (P : Program) (w : World) (a : Addr) (m : Mode) (k : FloatKind) (b : Nat) : (store a (.float k b) m).run P w = stored P w a (.float k b) m := run_store P w a _ m rfl
attribute [local go_sem] run_store_f64

end Go.Proofs.YthncochjhbmceaaGreat

namespace Go.Proofs.YthncochjhbmceaaGreat
set_option maxRecDepth 100000
open Go.RowKit

def canon (x : Nat) : Nat := if nanB x then 9221120237041090560 else x

/-- A window's fields. -/
structure Win where
  start : Int
  count : Int
  sum : Nat
  min : Nat
  max : Nat
  last : Nat

def Win.cells (x : Win) : List Value := [.int .i64 x.start, .int .i64 x.count, .int .u64 x.sum, .int .u64 x.min, .int .u64 x.max, .int .u64 x.last]

def Fd.window (f : Fd) (start count : Int) (last : Nat) : Win :=
  if f.n = 0 then ⟨start, 0, 0, 0, 0, 0⟩ else ⟨start, count, canon f.s, if f.lo then canon f.l else 9221120237041090560, if f.hi then canon f.m else 9221120237041090560, last⟩

end Go.Proofs.YthncochjhbmceaaGreat

namespace Go.Proofs.YthncochjhbmceaaGreat
set_option maxRecDepth 100000
open Go.RowKit

/-- A sample. -/
structure Smp where
  t : Int
  v : Nat

def smpCells (l : List Smp) : List Value := l.flatMap fun s => [.int .i64 s.t, .int .u64 s.v]

theorem smpCells_length (l : List Smp) : (smpCells l).length = l.length * 2 := by
  induction l with
  | nil => rfl
  | cons a l ih => simp only [smpCells, List.flatMap_cons, List.length_append, List.length_cons, List.length_nil] at ih ⊢; omega

theorem smpCells_at (l : List Smp) : ∀ (k : Nat) (h : k < l.length), (smpCells l)[k * 2]? = some (.int .i64 l[k].t) ∧ (smpCells l)[k * 2 + 1]? = some (.int .u64 l[k].v) := by
  induction l with
  | nil => intro k h; simp at h
  | cons a l ih =>
    intro k h
    cases k with
    | zero => simp [smpCells]
    | succ k =>
      have e : smpCells (a :: l) = .int .i64 a.t :: .int .u64 a.v :: smpCells l := by simp [smpCells]
      rw [e]
      have := ih k (by simpa using h)
      rw [show (k + 1) * 2 = k * 2 + 1 + 1 from by omega]
      simpa using this

def Fd.zero : Fd := ⟨0, 0, 0, false, false, 0⟩

/-- f is what these (sum, least, greatest) may have been folded into. -/
inductive Folded : List (Nat × Nat × Nat) → Fd → Prop where
  | nil : Folded [] Fd.zero
  | snoc {l : List (Nat × Nat × Nat)} {f : Fd} {s r a b : Nat} : Folded l f → SumTo f s r → Folded (l ++ [(s, a, b)]) (f.added r a b)

theorem Folded.n {l : List (Nat × Nat × Nat)} {f : Fd} (h : Folded l f) : f.n = l.length := by
  induction h with
  | nil => rfl
  | snoc h _ ih => simp [Fd.added, ih]

theorem Folded.bits {l : List (Nat × Nat × Nat)} {f : Fd} (h : Folded l f) (hb : ∀ x ∈ l, x.2.1 < 18446744073709551616 ∧ x.2.2 < 18446744073709551616) : f.l < 18446744073709551616 ∧ f.m < 18446744073709551616 := by
  induction h with
  | nil => exact ⟨by decide, by decide⟩
  | @snoc l f s r a b h _ ih =>
    have h1 := ih (fun x hx => hb x (by simp [hx]))
    have h2 := hb (s, a, b) (by simp)
    simp only [Fd.added]
    constructor <;> split <;> simp_all

def Smp.three (s : Smp) : Nat × Nat × Nat := (s.v, s.v, s.v)

def lastV (l : List Smp) : Nat := match l.getLast? with | some s => s.v | none => 0

theorem lastV_snoc (l : List Smp) (s : Smp) : lastV (l ++ [s]) = s.v := by simp [lastV]

theorem take_succ_snoc {α : Type} (l : List α) (k : Nat) (h : k < l.length) : l.take (k + 1) = l.take k ++ [l[k]] := by
  rw [List.take_succ_eq_append_getElem h]

def Smp.ok (s : Smp) : Prop := s.v < 18446744073709551616

theorem three_bits {l : List Smp} (h : ∀ s ∈ l, s.ok) (k : Nat) : ∀ x ∈ (l.take k).map Smp.three, x.2.1 < 18446744073709551616 ∧ x.2.2 < 18446744073709551616 := by
  intro x hx
  obtain ⟨s, hs, rfl⟩ := List.mem_map.1 hx
  have := h s (List.mem_of_mem_take hs)
  simp only [Smp.three, Smp.ok] at *
  omega

def zeroWin : Array Value := #[.int .i64 0, .int .i64 0, .int .u64 0, .int .u64 0, .int .u64 0, .int .u64 0]

end Go.Proofs.YthncochjhbmceaaGreat

namespace Go.Proofs.YthncochjhbmceaaGreat
set_option maxRecDepth 100000
open Go.RowKit

def winCells (l : List Win) : List Value := l.flatMap Win.cells

theorem winCells_length (l : List Win) : (winCells l).length = l.length * 6 := by
  induction l with
  | nil => rfl
  | cons a l ih => simp only [winCells, List.flatMap_cons, List.length_append, List.length_cons, Win.cells, List.length_nil] at ih ⊢; omega

theorem winCells_cons (a : Win) (l : List Win) : winCells (a :: l) = .int .i64 a.start :: .int .i64 a.count :: .int .u64 a.sum :: .int .u64 a.min :: .int .u64 a.max :: .int .u64 a.last :: winCells l := by
  simp [winCells, Win.cells]

theorem winCells_at (l : List Win) : ∀ (k : Nat) (h : k < l.length), (winCells l)[k * 6]? = some (.int .i64 l[k].start) ∧ (winCells l)[k * 6 + 1]? = some (.int .i64 l[k].count) ∧ (winCells l)[k * 6 + 2]? = some (.int .u64 l[k].sum) ∧
    (winCells l)[k * 6 + 3]? = some (.int .u64 l[k].min) ∧ (winCells l)[k * 6 + 4]? = some (.int .u64 l[k].max) ∧ (winCells l)[k * 6 + 5]? = some (.int .u64 l[k].last) := by
  induction l with
  | nil => intro k h; simp at h
  | cons a l ih =>
    intro k h
    rw [winCells_cons]
    cases k with
    | zero => simp
    | succ k =>
      have := ih k (by simpa using h)
      rw [show (k + 1) * 6 = k * 6 + 1 + 1 + 1 + 1 + 1 + 1 from by omega]
      simpa using this

theorem smpCells_snoc (l : List Smp) (s : Smp) : smpCells (l ++ [s]) = smpCells l ++ [.int .i64 s.t, .int .u64 s.v] := by simp [smpCells]
theorem winCells_snoc (l : List Win) (s : Win) : winCells (l ++ [s]) = winCells l ++ [.int .i64 s.start, .int .i64 s.count, .int .u64 s.sum, .int .u64 s.min, .int .u64 s.max, .int .u64 s.last] := by simp [winCells, Win.cells]
theorem smpCells_one (l : List Smp) : ∀ u ∈ smpCells l, u.oneCell' = true := by
  intro u hu
  simp only [smpCells, List.mem_flatMap, List.mem_cons, List.not_mem_nil, or_false] at hu
  obtain ⟨s, _, rfl | rfl⟩ := hu <;> rfl
theorem winCells_one (l : List Win) : ∀ u ∈ winCells l, u.oneCell' = true := by
  intro u hu
  simp only [winCells, Win.cells, List.mem_flatMap, List.mem_cons, List.not_mem_nil, or_false] at hu
  obtain ⟨s, _, rfl | rfl | rfl | rfl | rfl | rfl⟩ := hu <;> rfl

theorem info_smp : (Tryz.prog.info? 68).map (fun i => (i.zero, i.size, i.bytes)) = some (some (.agg #[.int .i64 0, .int .u64 0]), 2, 16) := by kernel_rfl
theorem info_win : (Tryz.prog.info? 380).map (fun i => (i.zero, i.size, i.bytes)) = some (some (.agg #[.int .i64 0, .int .i64 0, .int .u64 0, .int .u64 0, .int .u64 0, .int .u64 0]), 6, 48) := by kernel_rfl
theorem info_rsmp : (Tryz.prog.info? 155).map (fun i => (i.zero, i.size, i.bytes)) = some (some (.agg #[.int .i64 0, .int .u64 0]), 2, 16) := by kernel_rfl
theorem info_rwin : (Tryz.prog.info? 381).map (fun i => (i.zero, i.size, i.bytes)) = some (some (.agg #[.int .i64 0, .int .i64 0, .int .u64 0, .int .u64 0, .int .u64 0, .int .u64 0]), 6, 48) := by kernel_rfl

theorem smp_cells_at {w wr : World} {A : Option Addr} {n : Nat} {l : List Smp} {B : Nat} (hr : Row w B 2 A n (smpCells l)) (hl : l.length = n) (hb : Below B w wr) (k : Nat) (hk : k < n) :
    ∃ gs o, A = some ⟨gs, o, none⟩ ∧ ∃ x, l[k]? = some x ∧ wr.cell? ⟨gs, o + k * 2, none⟩ = some (.int .i64 x.t) ∧ wr.cell? ⟨gs, o + k * 2 + 1, none⟩ = some (.int .u64 (x.v : Nat)) := by
  obtain ⟨gs, o, rfl, hgs, hc⟩ := hr.at_ (by omega)
  have hkl : k < l.length := by omega
  have hs := smpCells_at l k hkl
  exact ⟨gs, o, rfl, l[k], List.getElem?_eq_getElem hkl, ((hb.cell (p := ⟨gs, o + k * 2, none⟩) hgs).trans (hc (k * 2) (by omega))).trans hs.1, ((hb.cell (p := ⟨gs, o + k * 2 + 1, none⟩) hgs).trans (hc (k * 2 + 1) (by omega))).trans hs.2⟩
theorem win_cells_at {w wr : World} {A : Option Addr} {n : Nat} {l : List Win} {B : Nat} (hr : Row w B 6 A n (winCells l)) (hl : l.length = n) (hb : Below B w wr) (k : Nat) (hk : k < n) :
    ∃ gs o, A = some ⟨gs, o, none⟩ ∧ gs < B ∧ ∃ x, l[k]? = some x ∧ wr.cell? ⟨gs, o + k * 6, none⟩ = some (.int .i64 x.start) ∧ wr.cell? ⟨gs, o + k * 6 + 1, none⟩ = some (.int .i64 x.count) ∧ wr.cell? ⟨gs, o + k * 6 + 2, none⟩ = some (.int .u64 (x.sum : Nat)) ∧
      wr.cell? ⟨gs, o + k * 6 + 3, none⟩ = some (.int .u64 (x.min : Nat)) ∧ wr.cell? ⟨gs, o + k * 6 + 4, none⟩ = some (.int .u64 (x.max : Nat)) ∧ wr.cell? ⟨gs, o + k * 6 + 5, none⟩ = some (.int .u64 (x.last : Nat)) := by
  obtain ⟨gs, o, rfl, hgs, hc⟩ := hr.at_ (by omega)
  have hkl : k < l.length := by omega
  have hs := winCells_at l k hkl
  have hx : ∀ j u, j < 6 → (winCells l)[k * 6 + j]? = some u → wr.cell? ⟨gs, o + (k * 6 + j), none⟩ = some u := fun j u hj hu => ((hb.cell (p := ⟨gs, o + (k * 6 + j), none⟩) hgs).trans (hc (k * 6 + j) (by omega))).trans hu
  exact ⟨gs, o, rfl, hgs, l[k], List.getElem?_eq_getElem hkl, hx 0 _ (by omega) hs.1, hx 1 _ (by omega) hs.2.1, hx 2 _ (by omega) hs.2.2.1, hx 3 _ (by omega) hs.2.2.2.1, hx 4 _ (by omega) hs.2.2.2.2.1, hx 5 _ (by omega) hs.2.2.2.2.2⟩

end Go.Proofs.YthncochjhbmceaaGreat
