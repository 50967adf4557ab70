/- The folder's method window, and Fold over samples: what they return. Condition: bits fit 64 bits, the count is far from int's end. -/
import Derived.Test.YtohocdbneopooaaFoldAdd
namespace Go.Proofs.Ytohocdbneopooaa
set_option maxRecDepth 100000
open Go.RowKit

def canon (x : Nat) : Nat := if nanB x then 9221120237041090560 else x

/-- A window's fields. -/
structure Win where
  start : Int
  count : Int
  sum : Nat
  min : Nat
  max : Nat
  last : Nat

def Win.cells (x : Win) : List Value := [.int .i64 x.start, .int .i64 x.count, .int .u64 x.sum, .int .u64 x.min, .int .u64 x.max, .int .u64 x.last]

def Fd.window (f : Fd) (start count : Int) (last : Nat) : Win :=
  if f.n = 0 then ⟨start, 0, 0, 0, 0, 0⟩ else ⟨start, count, canon f.s, if f.lo then canon f.l else 9221120237041090560, if f.hi then canon f.m else 9221120237041090560, last⟩

theorem bits_canon (x : Nat) (w : World) :
    Calls Try.prog 148 #[.float .f64 x] w fun e w' => e = .returned (.int .u64 ((canon x : Nat) : Int)) ∧ w = w' :=
  (bits_any x w).mono fun e w' ⟨he, hw⟩ => ⟨by rw [he]; unfold canon; split <;> rfl, hw⟩

set_option maxHeartbeats 1600000 in
theorem window_any (f : Fd) (g : Nat) (start count : Int) (last : Nat) (w : World) (hw : Whole1 w g 184 f.cells) :
    Calls Try.prog 131 #[.pointer (some ⟨g, 0, none⟩), .int .i64 start, .int .i64 count, .int .u64 last] w
      fun e w' => e = .returned (.agg (f.window start count last).cells.toArray) ∧ Below w.heap.size w w' := by
  obtain ⟨s, l, m, lo, hi, n⟩ := f
  have hgb := hw.lt
  have c0 : w.cell? ⟨g, 0, none⟩ = some (.float .f64 s) := hw.cell 0
  have c1 : w.cell? ⟨g, 1, none⟩ = some (.float .f64 l) := hw.cell 1
  have c2 : w.cell? ⟨g, 2, none⟩ = some (.float .f64 m) := hw.cell 2
  have c3 : w.cell? ⟨g, 3, none⟩ = some (.bool lo) := hw.cell 3
  have c4 : w.cell? ⟨g, 4, none⟩ = some (.bool hi) := hw.cell 4
  have c5 : w.cell? ⟨g, 5, none⟩ = some (.int .i64 n) := hw.cell 5
  clear hw
  have hne : g ≠ w.heap.size := by omega
  by_cases h0 : n = 0
  · have h0' : (n == 0) = true := by simp [h0]
    have H0 := hidden h0
    clear h0
    go_enter Try.func131, Try.ntmps131
    go_wp2_with (go_at_call 148; refine (bits_canon _ _).mono ?_; rintro e w' ⟨rfl, rfl⟩)
    refine bodyPost_ret (v := .agg #[.int .i64 start, .int .i64 0, .int .u64 0, .int .u64 0, .int .u64 0, .int .u64 0]) (by simp [results, Try.results131, go_sem]) rfl ⟨?_, ?_⟩
    · have : (Fd.mk s l m lo hi n).window start count last = ⟨start, 0, 0, 0, 0, 0⟩ := if_pos H0.out
      rw [this]; rfl
    · exact ((Below.refl _ _).alloc (Nat.le_refl _) _).alloc (by simp) _
  · have h0' : (n == 0) = false := by simp [h0]
    have H0 := hidden h0
    clear h0
    cases lo <;> cases hi
    all_goals
      go_enter Try.func131, Try.ntmps131
      go_wp2_with (go_at_call 148; refine (bits_canon _ _).mono ?_; rintro e w' ⟨rfl, rfl⟩)
    · refine bodyPost_ret (v := .agg #[.int .i64 start, .int .i64 count, .int .u64 ((canon s : Nat) : Int), .int .u64 9221120237041090560, .int .u64 9221120237041090560, .int .u64 last]) (by simp [results, Try.results131, go_sem]) rfl ⟨?_, ((Below.refl _ _).alloc (Nat.le_refl _) _).alloc (by simp) _⟩
      have : (Fd.mk s l m false false n).window start count last = ⟨start, count, canon s, 9221120237041090560, 9221120237041090560, last⟩ := if_neg H0.out
      rw [this]; rfl
    · refine bodyPost_ret (v := .agg #[.int .i64 start, .int .i64 count, .int .u64 ((canon s : Nat) : Int), .int .u64 9221120237041090560, .int .u64 ((canon m : Nat) : Int), .int .u64 last]) (by simp [results, Try.results131, go_sem]) rfl ⟨?_, ((Below.refl _ _).alloc (Nat.le_refl _) _).alloc (by simp) _⟩
      have : (Fd.mk s l m false true n).window start count last = ⟨start, count, canon s, 9221120237041090560, canon m, last⟩ := if_neg H0.out
      rw [this]; rfl
    · refine bodyPost_ret (v := .agg #[.int .i64 start, .int .i64 count, .int .u64 ((canon s : Nat) : Int), .int .u64 ((canon l : Nat) : Int), .int .u64 9221120237041090560, .int .u64 last]) (by simp [results, Try.results131, go_sem]) rfl ⟨?_, ((Below.refl _ _).alloc (Nat.le_refl _) _).alloc (by simp) _⟩
      have : (Fd.mk s l m true false n).window start count last = ⟨start, count, canon s, canon l, 9221120237041090560, last⟩ := if_neg H0.out
      rw [this]; rfl
    · refine bodyPost_ret (v := .agg #[.int .i64 start, .int .i64 count, .int .u64 ((canon s : Nat) : Int), .int .u64 ((canon l : Nat) : Int), .int .u64 ((canon m : Nat) : Int), .int .u64 last]) (by simp [results, Try.results131, go_sem]) rfl ⟨?_, ((Below.refl _ _).alloc (Nat.le_refl _) _).alloc (by simp) _⟩
      have : (Fd.mk s l m true true n).window start count last = ⟨start, count, canon s, canon l, canon m, last⟩ := if_neg H0.out
      rw [this]; rfl

end Go.Proofs.Ytohocdbneopooaa
