/- Leaf functions of package fold and of its reference: what each returns. -/
import Derived.Test.YtohocdbneopooaaBase
namespace Go.Proofs.Ytohocdbneopooaa
set_option maxRecDepth 100000
open Go.RowKit

/-- Where a window begins, and the error's number. -/
def beginOf (t d : Int) : Int × Int :=
  if d < 1 ∨ 1099511627776 < d then (0, 100) else if t < 0 ∨ 1125899906842624 < t then (0, 91) else (t / d * d, 0)

theorem beginOf_width (t d : Int) (h : d < 1 ∨ 1099511627776 < d) : beginOf t d = (0, 100) := by simp [beginOf, h]
theorem beginOf_time (t d : Int) (h : ¬(d < 1 ∨ 1099511627776 < d)) (h2 : t < 0 ∨ 1125899906842624 < t) : beginOf t d = (0, 91) := by simp [beginOf, h, h2]
theorem beginOf_ok (t d : Int) (h : ¬(d < 1 ∨ 1099511627776 < d)) (h2 : ¬(t < 0 ∨ 1125899906842624 < t)) : beginOf t d = (t / d * d, 0) := by simp [beginOf, h, h2]

set_option maxHeartbeats 400000 in
theorem start_any (t d : Int) (w : World) :
    Calls Try.prog 52 #[.int .i64 t, .int .i64 d] w fun e w' => e = .returned (.tuple #[.int .i64 (beginOf t d).1, .int .i64 (beginOf t d).2]) ∧ w = w' := by
  by_cases hd : d < 1 ∨ 1099511627776 < d
  · rw [beginOf_width t d hd]
    rcases hd with h | h
    · go_enter Try.func52, Try.ntmps52
      go_wp2
      go_ret2
      exact ⟨rfl, rfl⟩
    · have h' : ¬ d < 1 := by omega
      go_enter Try.func52, Try.ntmps52
      go_wp2
      go_ret2
      exact ⟨rfl, rfl⟩
  · have d1 : 1 ≤ d := by omega
    have d2 : d ≤ 1099511627776 := by omega
    by_cases ht : t < 0 ∨ 1125899906842624 < t
    · rw [beginOf_time t d hd ht]
      clear hd
      rcases ht with h | h
      · go_enter Try.func52, Try.ntmps52
        go_wp2
        go_ret2
        exact ⟨rfl, rfl⟩
      · have h' : ¬ t < 0 := by omega
        go_enter Try.func52, Try.ntmps52
        go_wp2
        go_ret2
        exact ⟨rfl, rfl⟩
    · rw [beginOf_ok t d hd ht]
      have t1 : 0 ≤ t := by omega
      have t2 : t ≤ 1125899906842624 := by omega
      have hm : t % d ≤ t := by
        have h1 := Int.mul_ediv_add_emod t d
        have h2 : 0 ≤ d * (t / d) := Int.mul_nonneg (by omega) (Int.ediv_nonneg t1 (by omega))
        omega
      have hm0 : 0 ≤ t % d := Int.emod_nonneg t (by omega)
      clear hd ht
      have HE : Hid (t / d * d = t - t % d) := by
        have := Int.mul_ediv_add_emod t d
        rw [Int.mul_comm d] at this
        show t / d * d = t - t % d
        omega
      go_enter Try.func52, Try.ntmps52
      go_wp2
      go_ret2
      exact ⟨ret_pair HE.out.symm rfl, rfl⟩

set_option maxHeartbeats 400000 in
theorem rstart_any (t d : Int) (w : World) :
    Calls Try.prog 22 #[.int .i64 t, .int .i64 d] w fun e w' => e = .returned (.tuple #[.int .i64 (beginOf t d).1, .int .i64 (beginOf t d).2]) ∧ w = w' := by
  by_cases hd : d < 1 ∨ 1099511627776 < d
  · rw [beginOf_width t d hd]
    rcases hd with h | h
    · go_enter Try.func22, Try.ntmps22
      go_wp2
      go_ret2
      exact ⟨rfl, rfl⟩
    · have h' : ¬ d < 1 := by omega
      go_enter Try.func22, Try.ntmps22
      go_wp2
      go_ret2
      exact ⟨rfl, rfl⟩
  · have d1 : 1 ≤ d := by omega
    have d2 : d ≤ 1099511627776 := by omega
    by_cases ht : t < 0 ∨ 1125899906842624 < t
    · rw [beginOf_time t d hd ht]
      clear hd
      rcases ht with h | h
      · go_enter Try.func22, Try.ntmps22
        go_wp2
        go_ret2
        exact ⟨rfl, rfl⟩
      · have h' : ¬ t < 0 := by omega
        go_enter Try.func22, Try.ntmps22
        go_wp2
        go_ret2
        exact ⟨rfl, rfl⟩
    · rw [beginOf_ok t d hd ht]
      have t1 : 0 ≤ t := by omega
      have t2 : t ≤ 1125899906842624 := by omega
      have hm : t / d * d ≤ t := Int.ediv_mul_le t (by omega)
      have hm0 : 0 ≤ t / d * d := Int.mul_nonneg (Int.ediv_nonneg t1 (by omega)) (by omega)
      have hm1 : 0 ≤ t / d := (Int.ediv_nonneg t1 (by omega))
      have hm2 : t / d ≤ t := Int.ediv_le_self _ t1
      clear hd ht
      go_enter Try.func22, Try.ntmps22
      go_wp2
      go_ret2
      exact ⟨rfl, rfl⟩


theorem ext_frombits (v : Int) (w : World) : (callFunc 145 #[.int .u64 v]).run Try.prog w = .ok (.value (.float .f64 v.toNat)) w := by
  rw [run_callFunc_extern Try.func145 (e := Extern.MathFloatBits.float64frombits) (by kernel_rfl) (by kernel_rfl) (by kernel_rfl) (by kernel_rfl)]; rfl
theorem ext_bits (v : Nat) (w : World) : (callFunc 149 #[.float .f64 v]).run Try.prog w = .ok (.value (.int .u64 v)) w := by
  rw [run_callFunc_extern Try.func149 (e := Extern.MathFloatBits.float64bits) (by kernel_rfl) (by kernel_rfl) (by kernel_rfl) (by kernel_rfl)]; rfl
attribute [local go_sem] ext_frombits ext_bits

set_option maxHeartbeats 400000 in
theorem float_any (v : Int) (w : World) :
    Calls Try.prog 129 #[.int .u64 v] w fun e w' => e = .returned (.float .f64 v.toNat) ∧ w = w' := by
  go_enter Try.func129, Try.ntmps129
  go_wp2
  go_ret
  exact ⟨rfl, rfl⟩

/-- x != x -/
def nanB (x : Nat) : Bool := Ieee.double.order x x != some .eq

set_option maxHeartbeats 400000 in
theorem isNaN_any (x : Nat) (w : World) :
    Calls Try.prog 146 #[.float .f64 x] w fun e w' => e = .returned (.bool (nanB x)) ∧ w = w' := by
  go_enter Try.func146, Try.ntmps146
  go_wp2
  go_ret
  exact ⟨rfl, rfl⟩

theorem lt_zero_signed (x : Nat) (h : x < 18446744073709551616) : decide (wrap64 (x : Int) < 0) = decide (9223372036854775808 ≤ x) := by
  have : wrap64 (x : Int) = if x < 9223372036854775808 then (x : Int) else (x : Int) - 18446744073709551616 := by
    unfold wrap64; split <;> omega
  rw [this]; split <;> simp <;> omega

set_option maxHeartbeats 400000 in
theorem signbit_any (x : Nat) (w : World) (h : x < 18446744073709551616) :
    Calls Try.prog 159 #[.float .f64 x] w fun e w' => e = .returned (.bool (decide (9223372036854775808 ≤ x))) ∧ w = w' := by
  have HL := hidden (lt_zero_signed x h)
  clear h
  go_enter Try.func159, Try.ntmps159
  go_wp2
  go_ret
  exact ⟨ret_bool HL.out, rfl⟩

set_option maxHeartbeats 400000 in
theorem bits_any (x : Nat) (w : World) :
    Calls Try.prog 148 #[.float .f64 x] w fun e w' => e = .returned (.int .u64 (if nanB x then 9221120237041090560 else x)) ∧ w = w' := by
  by_cases hx : nanB x = true
  · rw [if_pos hx]
    have hb : (FloatKind.f64.format.order x x != some .eq) = true := hx
    go_enter Try.func148, Try.ntmps148
    go_wp2
    go_ret
    exact ⟨rfl, rfl⟩
  · rw [if_neg hx]
    have hb : (FloatKind.f64.format.order x x != some .eq) = false := by simpa [nanB, FloatKind.format] using hx
    go_enter Try.func148, Try.ntmps148
    go_wp2
    go_ret
    exact ⟨rfl, rfl⟩

def belowB (a b : Nat) : Bool :=
  if (FloatKind.f64.format.order a b == some .eq) = true then decide (9223372036854775808 ≤ a) && !decide (9223372036854775808 ≤ b) else FloatKind.f64.format.order a b == some .lt

set_option maxHeartbeats 400000 in
theorem below_any (a b : Nat) (w : World) (ha : a < 18446744073709551616) (hb : b < 18446744073709551616) :
    Calls Try.prog 147 #[.float .f64 a, .float .f64 b] w fun e w' => e = .returned (.bool (belowB a b)) ∧ w = w' := by
  by_cases hx : (FloatKind.f64.format.order a b == some .eq) = true
  · have HB : Hid (belowB a b = (decide (9223372036854775808 ≤ a) && !decide (9223372036854775808 ≤ b))) := if_pos hx
    by_cases h1 : 9223372036854775808 ≤ a
    · go_enter Try.func147, Try.ntmps147
      go_wp2_with (go_at_call 159; refine (signbit_any _ _ (by assumption)).mono ?_; rintro e w' ⟨rfl, rfl⟩)
      go_ret
      exact ⟨ret_bool (by rw [HB.out]; simp [h1]), rfl⟩
    · go_enter Try.func147, Try.ntmps147
      go_wp2_with (go_at_call 159; refine (signbit_any _ _ (by assumption)).mono ?_; rintro e w' ⟨rfl, rfl⟩)
      go_ret
      exact ⟨ret_bool (by rw [HB.out]; simp [h1]), rfl⟩
  · have HB : Hid (belowB a b = (FloatKind.f64.format.order a b == some .lt)) := if_neg hx
    have hx' : (FloatKind.f64.format.order a b == some .eq) = false := by simpa using hx
    clear hx
    go_enter Try.func147, Try.ntmps147
    go_wp2
    go_ret
    exact ⟨ret_bool (by rw [HB.out]), rfl⟩

end Go.Proofs.Ytohocdbneopooaa
