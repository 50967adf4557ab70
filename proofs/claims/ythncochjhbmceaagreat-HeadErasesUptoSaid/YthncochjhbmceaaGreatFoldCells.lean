/- Leaf functions of package fold and of its reference: what each returns. The folder's method add: what it makes of the folder's six fields. Condition: the fields' bits fit 64 bits, the count is far from int's end. The folder's method window, and Fold over samples: what they return. Condition: bits fit 64 bits, the count is far from int's end. Fold over samples: what it returns. Condition: the samples' values fit 64 bits, the list is no longer than 2^62. Cells of rows of samples and of windows. No condition. -/
import Derived.Test.YthncochjhbmceaaGreatBase
import Derived.Deep.DeepCutAuto
namespace Go.Proofs.YthncochjhbmceaaGreat
set_option maxRecDepth 100000
open Go.RowKit

/-- Where a window begins, and the error's number. -/
def beginOf (t d : Int) : Int × Int :=
  if d < 1 ∨ 1099511627776 < d then (0, 100) else if t < 0 ∨ 1125899906842624 < t then (0, 91) else (t / d * d, 0)

theorem beginOf_width (t d : Int) (h : d < 1 ∨ 1099511627776 < d) : beginOf t d = (0, 100) := by simp [beginOf, h]
theorem beginOf_time (t d : Int) (h : ¬(d < 1 ∨ 1099511627776 < d)) (h2 : t < 0 ∨ 1125899906842624 < t) : beginOf t d = (0, 91) := by simp [beginOf, h, h2]
theorem beginOf_ok (t d : Int) (h : ¬(d < 1 ∨ 1099511627776 < d)) (h2 : ¬(t < 0 ∨ 1125899906842624 < t)) : beginOf t d = (t / d * d, 0) := by simp [beginOf, h, h2]

set_option maxHeartbeats 400000 in
theorem start_any (t d : Int) (w : World) :
    Calls Tryz.prog 45 #[.int .i64 t, .int .i64 d] w fun e w' => e = .returned (.tuple #[.int .i64 (beginOf t d).1, .int .i64 (beginOf t d).2]) ∧ w = w' := by
  by_cases hd : d < 1 ∨ 1099511627776 < d
  · rw [beginOf_width t d hd]
    rcases hd with h | h
    · go_enter Tryz.func45, Tryz.ntmps45
      go_wp2
      go_ret2
      exact ⟨rfl, rfl⟩
    · have h' : ¬ d < 1 := by omega
      go_enter Tryz.func45, Tryz.ntmps45
      go_wp2
      go_ret2
      exact ⟨rfl, rfl⟩
  · have d1 : 1 ≤ d := by omega
    have d2 : d ≤ 1099511627776 := by omega
    by_cases ht : t < 0 ∨ 1125899906842624 < t
    · rw [beginOf_time t d hd ht]
      clear hd
      rcases ht with h | h
      · go_enter Tryz.func45, Tryz.ntmps45
        go_wp2
        go_ret2
        exact ⟨rfl, rfl⟩
      · have h' : ¬ t < 0 := by omega
        go_enter Tryz.func45, Tryz.ntmps45
        go_wp2
        go_ret2
        exact ⟨rfl, rfl⟩
    · rw [beginOf_ok t d hd ht]
      have t1 : 0 ≤ t := by omega
      have t2 : t ≤ 1125899906842624 := by omega
      have hm : t % d ≤ t := by
        have h1 := Int.mul_ediv_add_emod t d
        have h2 : 0 ≤ d * (t / d) := Int.mul_nonneg (by omega) (Int.ediv_nonneg t1 (by omega))
        omega
      have hm0 : 0 ≤ t % d := Int.emod_nonneg t (by omega)
      clear hd ht
      have HE : Hid (t / d * d = t - t % d) := by
        have := Int.mul_ediv_add_emod t d
        rw [Int.mul_comm d] at this
        show t / d * d = t - t % d
        omega
      go_enter Tryz.func45, Tryz.ntmps45
      go_wp2
      go_ret2
      exact ⟨ret_pair HE.out.symm rfl, rfl⟩

/-- x != x -/
def nanB (x : Nat) : Bool := Ieee.double.order x x != some .eq

def belowB (a b : Nat) : Bool :=
  if (FloatKind.f64.format.order a b == some .eq) = true then decide (9223372036854775808 ≤ a) && !decide (9223372036854775808 ≤ b) else FloatKind.f64.format.order a b == some .lt

end Go.Proofs.YthncochjhbmceaaGreat

namespace Go.Proofs.YthncochjhbmceaaGreat
set_option maxRecDepth 100000
open Go.RowKit

/-- The fields of a folder. -/
structure Fd where
  s : Nat
  l : Nat
  m : Nat
  lo : Bool
  hi : Bool
  n : Int

def Fd.cells (f : Fd) : Array Value := #[.float .f64 f.s, .float .f64 f.l, .float .f64 f.m, .bool f.lo, .bool f.hi, .int .i64 f.n]

/-- r may be the sum of x and y: of a sum that is no number, whatever NaN. -/
def FAdd (x y r : Nat) : Prop := Ieee.double.add x y = some r ∨ (Ieee.double.add x y = none ∧ nanB r = true ∧ r < 18446744073709551616)

/-- the sum that may stand behind the call -/
def SumTo (f : Fd) (sum r : Nat) : Prop := (f.n = 0 ∧ r = sum) ∨ (f.n ≠ 0 ∧ FAdd f.s sum r)

def takesLow (f : Fd) (x : Nat) : Bool := !nanB x && (!f.lo || belowB x f.l)
def takesHigh (f : Fd) (x : Nat) : Bool := !nanB x && (!f.hi || belowB f.m x)

def Fd.added (f : Fd) (r least most : Nat) : Fd :=
  { s := r, l := if takesLow f least then least else f.l, m := if takesHigh f most then most else f.m, lo := f.lo || takesLow f least, hi := f.hi || takesHigh f most, n := f.n + 1 }

theorem run_store_f64 (P : Program) (w : World) (a : Addr) (m : Mode) (k : FloatKind) (b : Nat) : (store a (.float k b) m).run P w = stored P w a (.float k b) m := run_store P w a _ m rfl
attribute [local go_sem] run_store_f64

end Go.Proofs.YthncochjhbmceaaGreat

namespace Go.Proofs.YthncochjhbmceaaGreat
set_option maxRecDepth 100000
open Go.RowKit

def canon (x : Nat) : Nat := if nanB x then 9221120237041090560 else x

/-- A window's fields. -/
structure Win where
  start : Int
  count : Int
  sum : Nat
  min : Nat
  max : Nat
  last : Nat

def Win.cells (x : Win) : List Value := [.int .i64 x.start, .int .i64 x.count, .int .u64 x.sum, .int .u64 x.min, .int .u64 x.max, .int .u64 x.last]

def Fd.window (f : Fd) (start count : Int) (last : Nat) : Win :=
  if f.n = 0 then ⟨start, 0, 0, 0, 0, 0⟩ else ⟨start, count, canon f.s, if f.lo then canon f.l else 9221120237041090560, if f.hi then canon f.m else 9221120237041090560, last⟩

end Go.Proofs.YthncochjhbmceaaGreat

namespace Go.Proofs.YthncochjhbmceaaGreat
set_option maxRecDepth 100000
open Go.RowKit

/-- A sample. -/
structure Smp where
  t : Int
  v : Nat

def smpCells (l : List Smp) : List Value := l.flatMap fun s => [.int .i64 s.t, .int .u64 s.v]

theorem smpCells_at (l : List Smp) : ∀ (k : Nat) (h : k < l.length), (smpCells l)[k * 2]? = some (.int .i64 l[k].t) ∧ (smpCells l)[k * 2 + 1]? = some (.int .u64 l[k].v) := by
  induction l with
  | nil => intro k h; simp at h
  | cons a l ih =>
    intro k h
    cases k with
    | zero => simp [smpCells]
    | succ k =>
      have e : smpCells (a :: l) = .int .i64 a.t :: .int .u64 a.v :: smpCells l := by simp [smpCells]
      rw [e]
      have := ih k (by simpa using h)
      rw [show (k + 1) * 2 = k * 2 + 1 + 1 from by omega]
      simpa using this

def Fd.zero : Fd := ⟨0, 0, 0, false, false, 0⟩

/-- f is what these (sum, least, greatest) may have been folded into. -/
inductive Folded : List (Nat × Nat × Nat) → Fd → Prop where
  | nil : Folded [] Fd.zero
  | snoc {l : List (Nat × Nat × Nat)} {f : Fd} {s r a b : Nat} : Folded l f → SumTo f s r → Folded (l ++ [(s, a, b)]) (f.added r a b)

theorem Folded.n {l : List (Nat × Nat × Nat)} {f : Fd} (h : Folded l f) : f.n = l.length := by
  induction h with
  | nil => rfl
  | snoc h _ ih => simp [Fd.added, ih]

theorem Folded.bits {l : List (Nat × Nat × Nat)} {f : Fd} (h : Folded l f) (hb : ∀ x ∈ l, x.2.1 < 18446744073709551616 ∧ x.2.2 < 18446744073709551616) : f.l < 18446744073709551616 ∧ f.m < 18446744073709551616 := by
  induction h with
  | nil => exact ⟨by decide, by decide⟩
  | @snoc l f s r a b h _ ih =>
    have h1 := ih (fun x hx => hb x (by simp [hx]))
    have h2 := hb (s, a, b) (by simp)
    simp only [Fd.added]
    constructor <;> split <;> simp_all

def Smp.three (s : Smp) : Nat × Nat × Nat := (s.v, s.v, s.v)

def lastV (l : List Smp) : Nat := match l.getLast? with | some s => s.v | none => 0

theorem take_succ_snoc {α : Type} (l : List α) (k : Nat) (h : k < l.length) : l.take (k + 1) = l.take k ++ [l[k]] := by
  rw [List.take_succ_eq_append_getElem h]

def Smp.ok (s : Smp) : Prop := s.v < 18446744073709551616

def zeroWin : Array Value := #[.int .i64 0, .int .i64 0, .int .u64 0, .int .u64 0, .int .u64 0, .int .u64 0]

end Go.Proofs.YthncochjhbmceaaGreat

namespace Go.Proofs.YthncochjhbmceaaGreat
set_option maxRecDepth 100000
open Go.RowKit

def winCells (l : List Win) : List Value := l.flatMap Win.cells

theorem smpCells_snoc (l : List Smp) (s : Smp) : smpCells (l ++ [s]) = smpCells l ++ [.int .i64 s.t, .int .u64 s.v] := by simp [smpCells]
end Go.Proofs.YthncochjhbmceaaGreat
