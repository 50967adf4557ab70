/- Leaf functions of package fold and of its reference: what each returns. The folder's method add: what it makes of the folder's six fields. Condition: the fields' bits fit 64 bits, the count is far from int's end. The folder's method window, and Fold over samples: what they return. Condition: bits fit 64 bits, the count is far from int's end. Fold over samples: what it returns. Condition: the samples' values fit 64 bits, the list is no longer than 2^62. Cells of rows of samples and of windows. No condition. -/
import Derived.Test.YtohocdbneopooaaBase
import Derived.Deep.DeepCutAuto
namespace Go.Proofs.Ytohocdbneopooaa
set_option maxRecDepth 100000
open Go.RowKit

/-- Where a window begins, and the error's number. -/
def beginOf (t d : Int) : Int × Int :=
  if d < 1 ∨ 1099511627776 < d then (0, 100) else if t < 0 ∨ 1125899906842624 < t then (0, 91) else (t / d * d, 0)

theorem beginOf_width (t d : Int) (h : d < 1 ∨ 1099511627776 < d) : beginOf t d = (0, 100) := by simp [beginOf, h]
theorem beginOf_time (t d : Int) (h : ¬(d < 1 ∨ 1099511627776 < d)) (h2 : t < 0 ∨ 1125899906842624 < t) : beginOf t d = (0, 91) := by simp [beginOf, h, h2]
theorem beginOf_ok (t d : Int) (h : ¬(d < 1 ∨ 1099511627776 < d)) (h2 : ¬(t < 0 ∨ 1125899906842624 < t)) : beginOf t d = (t / d * d, 0) := by simp [beginOf, h, h2]

set_option maxHeartbeats 400000 in
theorem start_any (t d : Int) (w : World) :
    Calls Try.prog 52 #[.int .i64 t, .int .i64 d] w fun e w' => e = .returned (.tuple #[.int .i64 (beginOf t d).1, .int .i64 (beginOf t d).2]) ∧ w = w' := by
  by_cases hd : d < 1 ∨ 1099511627776 < d
  · rw [beginOf_width t d hd]
    rcases hd with h | h
    · go_enter Try.func52, Try.ntmps52
      go_wp2
      go_ret2
      exact ⟨rfl, rfl⟩
    · have h' : ¬ d < 1 := by omega
      go_enter Try.func52, Try.ntmps52
      go_wp2
      go_ret2
      exact ⟨rfl, rfl⟩
  · have d1 : 1 ≤ d := by omega
    have d2 : d ≤ 1099511627776 := by omega
    by_cases ht : t < 0 ∨ 1125899906842624 < t
    · rw [beginOf_time t d hd ht]
      clear hd
      rcases ht with h | h
      · go_enter Try.func52, Try.ntmps52
        go_wp2
        go_ret2
        exact ⟨rfl, rfl⟩
      · have h' : ¬ t < 0 := by omega
        go_enter Try.func52, Try.ntmps52
        go_wp2
        go_ret2
        exact ⟨rfl, rfl⟩
    · rw [beginOf_ok t d hd ht]
      have t1 : 0 ≤ t := by omega
      have t2 : t ≤ 1125899906842624 := by omega
      have hm : t % d ≤ t := by
        have h1 := Int.mul_ediv_add_emod t d
        have h2 : 0 ≤ d * (t / d) := Int.mul_nonneg (by omega) (Int.ediv_nonneg t1 (by omega))
        omega
      have hm0 : 0 ≤ t % d := Int.emod_nonneg t (by omega)
      clear hd ht
      have HE : Hid (t / d * d = t - t % d) := by
        have := Int.mul_ediv_add_emod t d
        rw [Int.mul_comm d] at this
        show t / d * d = t - t % d
        omega
      go_enter Try.func52, Try.ntmps52
      go_wp2
      go_ret2
      exact ⟨ret_pair HE.out.symm rfl, rfl⟩

set_option maxHeartbeats 400000 in
theorem rstart_any (t d : Int) (w : World) :
    Calls Try.prog 22 #[.int .i64 t, .int .i64 d] w fun e w' => e = .returned (.tuple #[.int .i64 (beginOf t d).1, .int .i64 (beginOf t d).2]) ∧ w = w' := by
  by_cases hd : d < 1 ∨ 1099511627776 < d
  · rw [beginOf_width t d hd]
    rcases hd with h | h
    · go_enter Try.func22, Try.ntmps22
      go_wp2
      go_ret2
      exact ⟨rfl, rfl⟩
    · have h' : ¬ d < 1 := by omega
      go_enter Try.func22, Try.ntmps22
      go_wp2
      go_ret2
      exact ⟨rfl, rfl⟩
  · have d1 : 1 ≤ d := by omega
    have d2 : d ≤ 1099511627776 := by omega
    by_cases ht : t < 0 ∨ 1125899906842624 < t
    · rw [beginOf_time t d hd ht]
      clear hd
      rcases ht with h | h
      · go_enter Try.func22, Try.ntmps22
        go_wp2
        go_ret2
        exact ⟨rfl, rfl⟩
      · have h' : ¬ t < 0 := by omega
        go_enter Try.func22, Try.ntmps22
        go_wp2
        go_ret2
        exact ⟨rfl, rfl⟩
    · rw [beginOf_ok t d hd ht]
      have t1 : 0 ≤ t := by omega
      have t2 : t ≤ 1125899906842624 := by omega
      have hm : t / d * d ≤ t := Int.ediv_mul_le t (by omega)
      have hm0 : 0 ≤ t / d * d := Int.mul_nonneg (Int.ediv_nonneg t1 (by omega)) (by omega)
      have hm1 : 0 ≤ t / d := (Int.ediv_nonneg t1 (by omega))
      have hm2 : t / d ≤ t := Int.ediv_le_self _ t1
      clear hd ht
      go_enter Try.func22, Try.ntmps22
      go_wp2
      go_ret2
      exact ⟨rfl, rfl⟩


theorem ext_frombits (v : Int) (w : World) : (callFunc 145 #[.int .u64 v]).run Try.prog w = .ok (.value (.float .f64 v.toNat)) w := by
  rw [run_callFunc_extern Try.func145 (e := Extern.MathFloatBits.float64frombits) (by kernel_rfl) (by kernel_rfl) (by kernel_rfl) (by kernel_rfl)]; rfl
theorem ext_bits (v : Nat) (w : World) : (callFunc 149 #[.float .f64 v]).run Try.prog w = .ok (.value (.int .u64 v)) w := by
  rw [run_callFunc_extern Try.func149 (e := Extern.MathFloatBits.float64bits) (by kernel_rfl) (by kernel_rfl) (by kernel_rfl) (by kernel_rfl)]; rfl
attribute [local go_sem] ext_frombits ext_bits

set_option maxHeartbeats 400000 in
theorem float_any (v : Int) (w : World) :
    Calls Try.prog 129 #[.int .u64 v] w fun e w' => e = .returned (.float .f64 v.toNat) ∧ w = w' := by
  go_enter Try.func129, Try.ntmps129
  go_wp2
  go_ret
  exact ⟨rfl, rfl⟩

/-- x != x -/
def nanB (x : Nat) : Bool := Ieee.double.order x x != some .eq

set_option maxHeartbeats 400000 in
theorem isNaN_any (x : Nat) (w : World) :
    Calls Try.prog 146 #[.float .f64 x] w fun e w' => e = .returned (.bool (nanB x)) ∧ w = w' := by
  go_enter Try.func146, Try.ntmps146
  go_wp2
  go_ret
  exact ⟨rfl, rfl⟩

theorem lt_zero_signed (x : Nat) (h : x < 18446744073709551616) : decide (wrap64 (x : Int) < 0) = decide (9223372036854775808 ≤ x) := by
  have : wrap64 (x : Int) = if x < 9223372036854775808 then (x : Int) else (x : Int) - 18446744073709551616 := by
    unfold wrap64; split <;> omega
  rw [this]; split <;> simp <;> omega

set_option maxHeartbeats 400000 in
theorem signbit_any (x : Nat) (w : World) (h : x < 18446744073709551616) :
    Calls Try.prog 159 #[.float .f64 x] w fun e w' => e = .returned (.bool (decide (9223372036854775808 ≤ x))) ∧ w = w' := by
  have HL := hidden (lt_zero_signed x h)
  clear h
  go_enter Try.func159, Try.ntmps159
  go_wp2
  go_ret
  exact ⟨ret_bool HL.out, rfl⟩

set_option maxHeartbeats 400000 in
theorem bits_any (x : Nat) (w : World) :
    Calls Try.prog 148 #[.float .f64 x] w fun e w' => e = .returned (.int .u64 (if nanB x then 9221120237041090560 else x)) ∧ w = w' := by
  by_cases hx : nanB x = true
  · rw [if_pos hx]
    have hb : (FloatKind.f64.format.order x x != some .eq) = true := hx
    go_enter Try.func148, Try.ntmps148
    go_wp2
    go_ret
    exact ⟨rfl, rfl⟩
  · rw [if_neg hx]
    have hb : (FloatKind.f64.format.order x x != some .eq) = false := by simpa [nanB, FloatKind.format] using hx
    go_enter Try.func148, Try.ntmps148
    go_wp2
    go_ret
    exact ⟨rfl, rfl⟩

def belowB (a b : Nat) : Bool :=
  if (FloatKind.f64.format.order a b == some .eq) = true then decide (9223372036854775808 ≤ a) && !decide (9223372036854775808 ≤ b) else FloatKind.f64.format.order a b == some .lt

set_option maxHeartbeats 400000 in
theorem below_any (a b : Nat) (w : World) (ha : a < 18446744073709551616) (hb : b < 18446744073709551616) :
    Calls Try.prog 147 #[.float .f64 a, .float .f64 b] w fun e w' => e = .returned (.bool (belowB a b)) ∧ w = w' := by
  by_cases hx : (FloatKind.f64.format.order a b == some .eq) = true
  · have HB : Hid (belowB a b = (decide (9223372036854775808 ≤ a) && !decide (9223372036854775808 ≤ b))) := if_pos hx
    by_cases h1 : 9223372036854775808 ≤ a
    · go_enter Try.func147, Try.ntmps147
      go_wp2_with (go_at_call 159; refine (signbit_any _ _ (by assumption)).mono ?_; rintro e w' ⟨rfl, rfl⟩)
      go_ret
      exact ⟨ret_bool (by rw [HB.out]; simp [h1]), rfl⟩
    · go_enter Try.func147, Try.ntmps147
      go_wp2_with (go_at_call 159; refine (signbit_any _ _ (by assumption)).mono ?_; rintro e w' ⟨rfl, rfl⟩)
      go_ret
      exact ⟨ret_bool (by rw [HB.out]; simp [h1]), rfl⟩
  · have HB : Hid (belowB a b = (FloatKind.f64.format.order a b == some .lt)) := if_neg hx
    have hx' : (FloatKind.f64.format.order a b == some .eq) = false := by simpa using hx
    clear hx
    go_enter Try.func147, Try.ntmps147
    go_wp2
    go_ret
    exact ⟨ret_bool (by rw [HB.out]), rfl⟩

end Go.Proofs.Ytohocdbneopooaa

namespace Go.Proofs.Ytohocdbneopooaa
set_option maxRecDepth 100000
open Go.RowKit

/-- The fields of a folder. -/
structure Fd where
  s : Nat
  l : Nat
  m : Nat
  lo : Bool
  hi : Bool
  n : Int

def Fd.cells (f : Fd) : Array Value := #[.float .f64 f.s, .float .f64 f.l, .float .f64 f.m, .bool f.lo, .bool f.hi, .int .i64 f.n]

/-- r may be the sum of x and y: of a sum that is no number, whatever NaN. -/
def FAdd (x y r : Nat) : Prop := Ieee.double.add x y = some r ∨ (Ieee.double.add x y = none ∧ nanB r = true ∧ r < 18446744073709551616)

/-- the sum that may stand behind the call -/
def SumTo (f : Fd) (sum r : Nat) : Prop := (f.n = 0 ∧ r = sum) ∨ (f.n ≠ 0 ∧ FAdd f.s sum r)

def takesLow (f : Fd) (x : Nat) : Bool := !nanB x && (!f.lo || belowB x f.l)
def takesHigh (f : Fd) (x : Nat) : Bool := !nanB x && (!f.hi || belowB f.m x)

def Fd.added (f : Fd) (r least most : Nat) : Fd :=
  { s := r, l := if takesLow f least then least else f.l, m := if takesHigh f most then most else f.m, lo := f.lo || takesLow f least, hi := f.hi || takesHigh f most, n := f.n + 1 }

theorem dbl_sign : Ieee.double.signWeight = 9223372036854775808 := by simp [Ieee.Format.signWeight, Ieee.double]
theorem dbl_binade : Ieee.double.binade = 4503599627370496 := by simp [Ieee.Format.binade, Ieee.double]
theorem dbl_inf : Ieee.double.infRung = 9218868437227405312 := by simp [Ieee.Format.infRung, Ieee.Format.binade, Ieee.double]

theorem read_nan (v : Nat) (h : 9218868437227405312 < v % 9223372036854775808) : ∃ s f, Ieee.double.read v = .nan s f := by
  unfold Ieee.Format.read
  rw [dbl_sign, dbl_binade, dbl_inf]
  dsimp only
  generalize v % 9223372036854775808 = r at *
  rw [if_neg (by omega), if_neg (by omega), if_neg (by omega)]
  exact ⟨_, _, rfl⟩

theorem nanB_of (v : Nat) (h : 9218868437227405312 < v % 9223372036854775808) : nanB v = true := by
  obtain ⟨s, f, hr⟩ := read_nan v h
  simp [nanB, Ieee.Format.order, hr, Ieee.Datum.order]

theorem nan_drawn (a b : Nat) (h1 : a < 2) (h2 : b < 4503599627370495) : nanB (a * 9223372036854775808 + 9218868437227405312 + 1 + b) = true ∧ a * 9223372036854775808 + 9218868437227405312 + 1 + b < 18446744073709551616 := by
  refine ⟨nanB_of _ ?_, by omega⟩
  omega

/-- the sum of two floats in the model: some r that may be it -/
theorem run_fadd {P : Program} (t : TypeId) (x y : Nat) (w : World) : ∃ r n, (binOp .add t (.float .f64 x) (.float .f64 y)).run P w = .ok (.float .f64 r) (w.drewN n) ∧ FAdd x y r := by
  cases h : Ieee.double.add x y with
  | some r => exact ⟨r, 0, by rw [run_float_arith w .add t .f64 x y r h]; rfl, .inl h⟩
  | none =>
    have h' : FloatKind.f64.format.add x y = none := h
    have hc : ∀ t, Question.cut (.nanBits .f64 x y) t = t % 2 * 9223372036854775808 + 9218868437227405312 + 1 + t / 2 % 4503599627370495 := fun t => by simp [Question.cut]
    have hn := nan_drawn (w.tape w.drawn (.nanBits .f64 x y) % 2) (w.tape w.drawn (.nanBits .f64 x y) / 2 % 4503599627370495) (Nat.mod_lt _ (by decide)) (Nat.mod_lt _ (by decide))
    rw [← hc] at hn
    refine ⟨_, 1, ?_, .inr ⟨h, hn⟩⟩
    simp [binOp, Op.floatArith, h', choose, Sem.run, Question.forced, World.drewN]


theorem run_store_f64 (P : Program) (w : World) (a : Addr) (m : Mode) (k : FloatKind) (b : Nat) : (store a (.float k b) m).run P w = stored P w a (.float k b) m := run_store P w a _ m rfl
attribute [local go_sem] run_store_f64

set_option maxHeartbeats 1600000 in
theorem add_any (f : Fd) (g sum least most : Nat) (w : World) (hw : Whole1 w g 184 f.cells) (hn : 0 ≤ f.n) (hn2 : f.n ≤ 4611686018427387904)
    (b1 : least < 18446744073709551616) (b2 : most < 18446744073709551616) (b3 : f.l < 18446744073709551616) (b4 : f.m < 18446744073709551616) :
    Calls Try.prog 130 #[.pointer (some ⟨g, 0, none⟩), .float .f64 sum, .float .f64 least, .float .f64 most] w
      fun e w' => e = .returned (.tuple #[]) ∧ ∃ r, SumTo f sum r ∧ Whole1 w' g 184 (f.added r least most).cells ∧ w.grownBy w' (some g) := by
  obtain ⟨s, l, m, lo, hi, n⟩ := f
  simp only at hn hn2 b3 b4
  have c0 : w.cell? ⟨g, 0, none⟩ = some (.float .f64 s) := hw.cell 0
  have c5 : w.cell? ⟨g, 5, none⟩ = some (.int .i64 n) := hw.cell 5
  have f0 := hw.free 0
  obtain ⟨r, k, hr, hF⟩ := run_fadd (P := Try.prog) 182 s sum w
  have hw0 := hidden hw
  have hF0 := hidden hF
  clear hw hF
  go_enter Try.func130, Try.ntmps130
  go_upto_if 12 with (fail)
  go_cut [] (fun wx => ∃ r, SumTo ⟨s, l, m, lo, hi, n⟩ sum r ∧ Whole1 wx g 184 (Fd.mk r l m lo hi n).cells ∧ w.grownBy wx (some g))
  case first =>
    by_cases h0 : n = 0
    · have h0' : (n == 0) = true := by simp [h0]
      have H0 := hidden h0
      clear h0
      go_wp2
      go_meet
      exact ⟨sum, .inl ⟨H0.out, rfl⟩, hw0.out.put 0 _, gb_put (gb_refl _ _) _ _⟩
    · have h0' : (n == 0) = false := by simp [h0]
      have H0 := hidden h0
      clear h0
      go_wp2
      go_meet
      exact ⟨r, .inr ⟨H0.out, hF0.out⟩, (hw0.out.drewN k).put 0 _, gb_put (gb_drewN (gb_refl _ _) _) _ _⟩
  case rest =>
    clear c0 c5 f0 hr hw0 hF0
    obtain ⟨r, hr, hw, hg⟩ := hcut
    have hR := hidden hr
    clear hr
    have c1 : wc.cell? ⟨g, 1, none⟩ = some (.float .f64 l) := hw.cell 1
    have c3 : wc.cell? ⟨g, 3, none⟩ = some (.bool lo) := hw.cell 3
    have c5 : wc.cell? ⟨g, 5, none⟩ = some (.int .i64 n) := hw.cell 5
    have f1 := hw.free 1
    have f3 := hw.free 3
    have f5 := hw.free 5
    have hw1 := hidden (hw.put 5 (.int .i64 (n + 1)))
    have hg1 := hidden (gb_put hg 5 (.int .i64 (n + 1)))
    clear hw hg
    have HL : takesLow ⟨s, l, m, lo, hi, n⟩ least = (!nanB least && (!lo || belowB least l)) := rfl
    have HH : takesHigh ⟨s, l, m, lo, hi, n⟩ most = (!nanB most && (!hi || belowB m most)) := rfl
    have HL0 := hidden HL
    have HH0 := hidden HH
    clear HL HH
    go_upto_region 4 with (fail)
    go_cut [49] (fun v wx => v = .bool (takesLow ⟨s, l, m, lo, hi, n⟩ least) ∧ wx = wc.setCell ⟨g, 5, none⟩ (.int .i64 (n + 1)))
    case first =>
      clear HH0
      cases h1 : nanB least
      · cases lo
        · go_wp2_with (go_at_call 146; refine (isNaN_any _ _).mono ?_; rintro e w' ⟨rfl, rfl⟩)
          go_meet
          exact ⟨by rw [HL0.out]; simp [h1], rfl⟩
        · go_wp2_with (first | (go_at_call 146; refine (isNaN_any _ _).mono ?_; rintro e w' ⟨rfl, rfl⟩) | (go_at_call 147; refine (below_any _ _ _ (by assumption) (by assumption)).mono ?_; rintro e w' ⟨rfl, rfl⟩))
          go_meet
          exact ⟨by rw [HL0.out]; simp [h1], rfl⟩
      · go_wp2_with (go_at_call 146; refine (isNaN_any _ _).mono ?_; rintro e w' ⟨rfl, rfl⟩)
        go_meet
        exact ⟨by rw [HL0.out]; simp [h1], rfl⟩
    case rest =>
      obtain ⟨rfl, rfl⟩ := hcut
      clear c1 c3 c5 f1 f3 f5
      obtain ⟨w2, hw2⟩ : ∃ w2, w2 = wc.setCell ⟨g, 5, none⟩ (.int .i64 (n + 1)) := ⟨_, rfl⟩
      rw [← hw2] at hw1 hg1 ⊢
      clear hw2
      have hw := hw1.out
      have c2 : w2.cell? ⟨g, 2, none⟩ = some (.float .f64 m) := hw.cell 2
      have c4 : w2.cell? ⟨g, 4, none⟩ = some (.bool hi) := hw.cell 4
      have f1 := hw.free 1
      have f3 := hw.free 3
      clear hw
      go_upto_if 49 with (fail)
      go_cut [] (fun wx => Whole1 wx g 184 (Fd.mk r (if takesLow ⟨s, l, m, lo, hi, n⟩ least then least else l) m (lo || takesLow ⟨s, l, m, lo, hi, n⟩ least) hi (n + 1)).cells ∧ w.grownBy wx (some g))
      case first =>
        have c1 : w2.cell? ⟨g, 1, none⟩ = some (.float .f64 l) := hw1.out.cell 1
        have c3 : w2.cell? ⟨g, 3, none⟩ = some (.bool lo) := hw1.out.cell 3
        clear HL0 HH0 c2 c4
        cases ht : takesLow ⟨s, l, m, lo, hi, n⟩ least
        · have ht0 := hidden ht
          clear ht
          go_wp2
          go_meet
          exact ⟨by simpa [Fd.cells, ht0.out] using hw1.out, hg1.out⟩
        · have ht0 := hidden ht
          clear ht
          go_wp2
          go_meet
          exact ⟨by simpa [Fd.cells, ht0.out] using (hw1.out.put 1 (.float .f64 least)).put 3 (.bool true), gb_put (gb_put hg1.out _ _) _ _⟩
      case rest =>
        obtain ⟨hw', hg'⟩ := hcut
        obtain ⟨lo', hlo'⟩ : ∃ x, x = (lo || takesLow ⟨s, l, m, lo, hi, n⟩ least) := ⟨_, rfl⟩
        obtain ⟨l', hl'⟩ : ∃ x, x = (if takesLow ⟨s, l, m, lo, hi, n⟩ least = true then least else l) := ⟨_, rfl⟩
        rw [← hlo', ← hl'] at hw'
        have hlo0 := hidden hlo'
        have hl0 := hidden hl'
        have hw0 := hidden hw'
        have hg0 := hidden hg'
        clear hlo' hl' hw' hg' hw1 hg1 HL0 c2 c4 f1 f3 w2
        have d2 : wc.cell? ⟨g, 2, none⟩ = some (.float .f64 m) := hw0.out.cell 2
        have d4 : wc.cell? ⟨g, 4, none⟩ = some (.bool hi) := hw0.out.cell 4
        have f2 := hw0.out.free 2
        have f4 := hw0.out.free 4
        go_upto_region 6 with (fail)
        go_cut [74] (fun v wx => v = .bool (takesHigh ⟨s, l, m, lo, hi, n⟩ most) ∧ wx = wc)
        case first =>
          cases h1 : nanB most
          · cases hi
            · go_wp2_with (go_at_call 146; refine (isNaN_any _ _).mono ?_; rintro e w' ⟨rfl, rfl⟩)
              go_meet
              exact ⟨by rw [HH0.out]; simp [h1], rfl⟩
            · go_wp2_with (first | (go_at_call 146; refine (isNaN_any _ _).mono ?_; rintro e w' ⟨rfl, rfl⟩) | (go_at_call 147; refine (below_any _ _ _ (by assumption) (by assumption)).mono ?_; rintro e w' ⟨rfl, rfl⟩))
              go_meet
              exact ⟨by rw [HH0.out]; simp [h1], rfl⟩
          · go_wp2_with (go_at_call 146; refine (isNaN_any _ _).mono ?_; rintro e w' ⟨rfl, rfl⟩)
            go_meet
            exact ⟨by rw [HH0.out]; simp [h1], rfl⟩
        case rest =>
          obtain ⟨rfl, rfl⟩ := hcut
          cases ht : takesHigh ⟨s, l, m, lo, hi, n⟩ most
          · have ht0 := hidden ht
            clear ht
            go_wp2
            go_end0
            refine ⟨rfl, r, hR.out, ?_, hg0.out⟩
            have h1 := hw0.out
            rw [hlo0.out, hl0.out] at h1
            simpa [Fd.cells, Fd.added, ht0.out] using h1
          · have ht0 := hidden ht
            clear ht
            go_wp2
            go_end0
            refine ⟨rfl, r, hR.out, ?_, gb_put (gb_put hg0.out _ _) _ _⟩
            have h1 := (hw0.out.put 2 (.float .f64 most)).put 4 (.bool true)
            rw [hlo0.out, hl0.out] at h1
            simpa [Fd.cells, Fd.added, ht0.out] using h1

end Go.Proofs.Ytohocdbneopooaa

namespace Go.Proofs.Ytohocdbneopooaa
set_option maxRecDepth 100000
open Go.RowKit

def canon (x : Nat) : Nat := if nanB x then 9221120237041090560 else x

/-- A window's fields. -/
structure Win where
  start : Int
  count : Int
  sum : Nat
  min : Nat
  max : Nat
  last : Nat

def Win.cells (x : Win) : List Value := [.int .i64 x.start, .int .i64 x.count, .int .u64 x.sum, .int .u64 x.min, .int .u64 x.max, .int .u64 x.last]

def Fd.window (f : Fd) (start count : Int) (last : Nat) : Win :=
  if f.n = 0 then ⟨start, 0, 0, 0, 0, 0⟩ else ⟨start, count, canon f.s, if f.lo then canon f.l else 9221120237041090560, if f.hi then canon f.m else 9221120237041090560, last⟩

theorem bits_canon (x : Nat) (w : World) :
    Calls Try.prog 148 #[.float .f64 x] w fun e w' => e = .returned (.int .u64 ((canon x : Nat) : Int)) ∧ w = w' :=
  (bits_any x w).mono fun e w' ⟨he, hw⟩ => ⟨by rw [he]; unfold canon; split <;> rfl, hw⟩

set_option maxHeartbeats 1600000 in
theorem window_any (f : Fd) (g : Nat) (start count : Int) (last : Nat) (w : World) (hw : Whole1 w g 184 f.cells) :
    Calls Try.prog 131 #[.pointer (some ⟨g, 0, none⟩), .int .i64 start, .int .i64 count, .int .u64 last] w
      fun e w' => e = .returned (.agg (f.window start count last).cells.toArray) ∧ Below w.heap.size w w' := by
  obtain ⟨s, l, m, lo, hi, n⟩ := f
  have hgb := hw.lt
  have c0 : w.cell? ⟨g, 0, none⟩ = some (.float .f64 s) := hw.cell 0
  have c1 : w.cell? ⟨g, 1, none⟩ = some (.float .f64 l) := hw.cell 1
  have c2 : w.cell? ⟨g, 2, none⟩ = some (.float .f64 m) := hw.cell 2
  have c3 : w.cell? ⟨g, 3, none⟩ = some (.bool lo) := hw.cell 3
  have c4 : w.cell? ⟨g, 4, none⟩ = some (.bool hi) := hw.cell 4
  have c5 : w.cell? ⟨g, 5, none⟩ = some (.int .i64 n) := hw.cell 5
  clear hw
  have hne : g ≠ w.heap.size := by omega
  by_cases h0 : n = 0
  · have h0' : (n == 0) = true := by simp [h0]
    have H0 := hidden h0
    clear h0
    go_enter Try.func131, Try.ntmps131
    go_wp2_with (go_at_call 148; refine (bits_canon _ _).mono ?_; rintro e w' ⟨rfl, rfl⟩)
    refine bodyPost_ret (v := .agg #[.int .i64 start, .int .i64 0, .int .u64 0, .int .u64 0, .int .u64 0, .int .u64 0]) (by simp [results, Try.results131, go_sem]) rfl ⟨?_, ?_⟩
    · have : (Fd.mk s l m lo hi n).window start count last = ⟨start, 0, 0, 0, 0, 0⟩ := if_pos H0.out
      rw [this]; rfl
    · exact ((Below.refl _ _).alloc (Nat.le_refl _) _).alloc (by simp) _
  · have h0' : (n == 0) = false := by simp [h0]
    have H0 := hidden h0
    clear h0
    cases lo <;> cases hi
    all_goals
      go_enter Try.func131, Try.ntmps131
      go_wp2_with (go_at_call 148; refine (bits_canon _ _).mono ?_; rintro e w' ⟨rfl, rfl⟩)
    · refine bodyPost_ret (v := .agg #[.int .i64 start, .int .i64 count, .int .u64 ((canon s : Nat) : Int), .int .u64 9221120237041090560, .int .u64 9221120237041090560, .int .u64 last]) (by simp [results, Try.results131, go_sem]) rfl ⟨?_, ((Below.refl _ _).alloc (Nat.le_refl _) _).alloc (by simp) _⟩
      have : (Fd.mk s l m false false n).window start count last = ⟨start, count, canon s, 9221120237041090560, 9221120237041090560, last⟩ := if_neg H0.out
      rw [this]; rfl
    · refine bodyPost_ret (v := .agg #[.int .i64 start, .int .i64 count, .int .u64 ((canon s : Nat) : Int), .int .u64 9221120237041090560, .int .u64 ((canon m : Nat) : Int), .int .u64 last]) (by simp [results, Try.results131, go_sem]) rfl ⟨?_, ((Below.refl _ _).alloc (Nat.le_refl _) _).alloc (by simp) _⟩
      have : (Fd.mk s l m false true n).window start count last = ⟨start, count, canon s, 9221120237041090560, canon m, last⟩ := if_neg H0.out
      rw [this]; rfl
    · refine bodyPost_ret (v := .agg #[.int .i64 start, .int .i64 count, .int .u64 ((canon s : Nat) : Int), .int .u64 ((canon l : Nat) : Int), .int .u64 9221120237041090560, .int .u64 last]) (by simp [results, Try.results131, go_sem]) rfl ⟨?_, ((Below.refl _ _).alloc (Nat.le_refl _) _).alloc (by simp) _⟩
      have : (Fd.mk s l m true false n).window start count last = ⟨start, count, canon s, canon l, 9221120237041090560, last⟩ := if_neg H0.out
      rw [this]; rfl
    · refine bodyPost_ret (v := .agg #[.int .i64 start, .int .i64 count, .int .u64 ((canon s : Nat) : Int), .int .u64 ((canon l : Nat) : Int), .int .u64 ((canon m : Nat) : Int), .int .u64 last]) (by simp [results, Try.results131, go_sem]) rfl ⟨?_, ((Below.refl _ _).alloc (Nat.le_refl _) _).alloc (by simp) _⟩
      have : (Fd.mk s l m true true n).window start count last = ⟨start, count, canon s, canon l, canon m, last⟩ := if_neg H0.out
      rw [this]; rfl

end Go.Proofs.Ytohocdbneopooaa

namespace Go.Proofs.Ytohocdbneopooaa
set_option maxRecDepth 100000
open Go.RowKit

/-- A sample. -/
structure Smp where
  t : Int
  v : Nat

def smpCells (l : List Smp) : List Value := l.flatMap fun s => [.int .i64 s.t, .int .u64 s.v]

theorem smpCells_length (l : List Smp) : (smpCells l).length = l.length * 2 := by
  induction l with
  | nil => rfl
  | cons a l ih => simp only [smpCells, List.flatMap_cons, List.length_append, List.length_cons, List.length_nil] at ih ⊢; omega

theorem smpCells_at (l : List Smp) : ∀ (k : Nat) (h : k < l.length), (smpCells l)[k * 2]? = some (.int .i64 l[k].t) ∧ (smpCells l)[k * 2 + 1]? = some (.int .u64 l[k].v) := by
  induction l with
  | nil => intro k h; simp at h
  | cons a l ih =>
    intro k h
    cases k with
    | zero => simp [smpCells]
    | succ k =>
      have e : smpCells (a :: l) = .int .i64 a.t :: .int .u64 a.v :: smpCells l := by simp [smpCells]
      rw [e]
      have := ih k (by simpa using h)
      rw [show (k + 1) * 2 = k * 2 + 1 + 1 from by omega]
      simpa using this

def Fd.zero : Fd := ⟨0, 0, 0, false, false, 0⟩

/-- f is what these (sum, least, greatest) may have been folded into. -/
inductive Folded : List (Nat × Nat × Nat) → Fd → Prop where
  | nil : Folded [] Fd.zero
  | snoc {l : List (Nat × Nat × Nat)} {f : Fd} {s r a b : Nat} : Folded l f → SumTo f s r → Folded (l ++ [(s, a, b)]) (f.added r a b)

theorem Folded.n {l : List (Nat × Nat × Nat)} {f : Fd} (h : Folded l f) : f.n = l.length := by
  induction h with
  | nil => rfl
  | snoc h _ ih => simp [Fd.added, ih]

theorem Folded.bits {l : List (Nat × Nat × Nat)} {f : Fd} (h : Folded l f) (hb : ∀ x ∈ l, x.2.1 < 18446744073709551616 ∧ x.2.2 < 18446744073709551616) : f.l < 18446744073709551616 ∧ f.m < 18446744073709551616 := by
  induction h with
  | nil => exact ⟨by decide, by decide⟩
  | @snoc l f s r a b h _ ih =>
    have h1 := ih (fun x hx => hb x (by simp [hx]))
    have h2 := hb (s, a, b) (by simp)
    simp only [Fd.added]
    constructor <;> split <;> simp_all

def Smp.three (s : Smp) : Nat × Nat × Nat := (s.v, s.v, s.v)

def lastV (l : List Smp) : Nat := match l.getLast? with | some s => s.v | none => 0

theorem lastV_snoc (l : List Smp) (s : Smp) : lastV (l ++ [s]) = s.v := by simp [lastV]

theorem take_succ_snoc {α : Type} (l : List α) (k : Nat) (h : k < l.length) : l.take (k + 1) = l.take k ++ [l[k]] := by
  rw [List.take_succ_eq_append_getElem h]

def Smp.ok (s : Smp) : Prop := s.v < 18446744073709551616

theorem three_bits {l : List Smp} (h : ∀ s ∈ l, s.ok) (k : Nat) : ∀ x ∈ (l.take k).map Smp.three, x.2.1 < 18446744073709551616 ∧ x.2.2 < 18446744073709551616 := by
  intro x hx
  obtain ⟨s, hs, rfl⟩ := List.mem_map.1 hx
  have := h s (List.mem_of_mem_take hs)
  simp only [Smp.three, Smp.ok] at *
  omega

def zeroWin : Array Value := #[.int .i64 0, .int .i64 0, .int .u64 0, .int .u64 0, .int .u64 0, .int .u64 0]

set_option maxHeartbeats 1600000 in
theorem fold_any (start : Int) (A : Option Addr) (n cap : Nat) (l : List Smp) (w : World) (hr : Row w w.heap.size 2 A n (smpCells l)) (hl : l.length = n) (hn : n ≤ 4611686018427387904) (hok : ∀ s ∈ l, s.ok) :
    Calls Try.prog 95 #[.int .i64 start, .slice A n cap] w
      fun e w' => ∃ f, Folded (l.map Smp.three) f ∧ e = .returned (.agg (f.window start n (lastV l)).cells.toArray) ∧ Below w.heap.size w w' := by
  go_enter Try.func95, Try.ntmps95
  go_wp2
  go_loopw [6, 12] (fun last i wr => ∃ k : Nat, k ≤ n ∧ i = .int .i64 k ∧ last = .int .u64 (lastV (l.take k)) ∧ (∃ f, Folded ((l.take k).map Smp.three) f ∧ Whole1 wr (w.heap.size + 1) 184 f.cells) ∧ Whole1 wr w.heap.size 88 zeroWin ∧ Below w.heap.size w wr) (fun _ i _ => n - (intOf i).toNat)
  case atStart =>
    refine ⟨0, Nat.zero_le _, rfl, rfl, ⟨Fd.zero, .nil, ?_⟩, (Whole1.new _ _ _).alloc _, ((Below.refl _ _).alloc (Nat.le_refl _) _).alloc (by simp) _⟩
    have h := Whole1.new (w.alloc (Obj.cells zeroWin 88)) 184 Fd.zero.cells
    simp only [World.size_alloc] at h
    exact h
  case round =>
    obtain ⟨k, hk, rfl, rfl, ⟨f, hf, hw⟩, hz, hb⟩ := hrel
    have hfn := hf.n
    have hfb := hf.bits (three_bits hok k)
    rw [List.length_map, List.length_take, hl, Nat.min_eq_left hk] at hfn
    have hfn1 : 0 ≤ f.n := by omega
    have hfn2 : f.n ≤ 4611686018427387904 := by omega
    clear hfn
    by_cases hlt : k < n
    · obtain ⟨gs, o, rfl, hgs, hc⟩ := hr.at_ (by omega)
      have hkl : k < l.length := by omega
      have hs := smpCells_at l k hkl
      have c0 : wr.cell? ⟨gs, o + k * 2, none⟩ = some (.int .i64 l[k].t) := ((hb.cell (p := ⟨gs, o + k * 2, none⟩) hgs).trans (hc (k * 2) (by omega))).trans hs.1
      have c1 : wr.cell? ⟨gs, o + k * 2 + 1, none⟩ = some (.int .u64 l[k].v) := ((hb.cell (p := ⟨gs, o + k * 2 + 1, none⟩) hgs).trans (hc (k * 2 + 1) (by omega))).trans hs.2
      have hwlt := hw.lt
      have hok1 := hok l[k] (List.getElem_mem hkl)
      have hv : l[k].v < 18446744073709551616 := hok1
      clear hs hc
      have hT := hidden (take_succ_snoc l k hkl)
      have hL := hidden hl
      clear hl
      go_wp2_with (go_at_call 129; refine (float_any _ _).mono ?_; rintro e w' ⟨rfl, rfl⟩)
      refine (add_any f _ _ _ _ _ (hw.alloc _) hfn1 hfn2 hv hv hfb.1 hfb.2).mono ?_
      rintro e w1 ⟨rfl, r, hsum, hw1, hg1⟩
      have hx : Whole1 (wr.alloc (Obj.cells #[Value.int IntKind.i64 l[k].t, Value.int IntKind.u64 l[k].v] 55)) wr.heap.size 55 #[Value.int IntKind.i64 l[k].t, Value.int IntKind.u64 l[k].v] := Whole1.new _ _ _
      have hx1 := hx.grown hg1 (by simp; omega)
      have d1 : w1.cell? ⟨wr.heap.size, 1, none⟩ = some (.int .u64 l[k].v) := hx1.cell 1
      have hb1 : Below w.heap.size w w1 := below_gb (hb.alloc hb.size _) hg1 (by simp; have := hb.size; omega) (by omega)
      have hz1 := (hz.alloc (Obj.cells #[Value.int IntKind.i64 l[k].t, Value.int IntKind.u64 l[k].v] 55)).grown hg1 (by simp)
      have hF := hidden (hf.snoc (a := l[k].v) (b := l[k].v) hsum)
      clear hx hx1 hg1 hsum hf hw hz hb c0 c1
      go_wp2
      go_roundw
      case rel =>
        refine ⟨k + 1, by omega, by go_num, ?_, ⟨_, ?_, hw1⟩, hz1, hb1⟩
        · rw [hT.out, lastV_snoc]
        · rw [hT.out, List.map_append]; exact hF.out
      case measure => simp [intOf]; omega
    · obtain rfl : k = n := by omega
      have hL := hidden hl
      clear hl
      go_wp2_with (fail)
      obtain ⟨W, hW⟩ : ∃ W, f.window start k (lastV (l.take k)) = W := ⟨_, rfl⟩
      have hW0 := hidden hW
      refine (window_any f _ _ _ _ _ hw).mono ?_
      rintro e w1 ⟨rfl, hb1⟩
      rw [hW]
      clear hW
      obtain ⟨x0, x1, x2, x3, x4, x5⟩ := W
      rw [show (Win.mk x0 x1 x2 x3 x4 x5).cells.toArray = #[.int .i64 x0, .int .i64 x1, .int .u64 x2, .int .u64 x3, .int .u64 x4, .int .u64 x5] from rfl]
      have hz1 := hz.below hb1 hz.lt
      have d0 : w1.cell? ⟨w.heap.size, 0, none⟩ = some (.int .i64 0) := hz1.cell 0
      have d1 : w1.cell? ⟨w.heap.size, 1, none⟩ = some (.int .i64 0) := hz1.cell 1
      have d2 : w1.cell? ⟨w.heap.size, 2, none⟩ = some (.int .u64 0) := hz1.cell 2
      have d3 : w1.cell? ⟨w.heap.size, 3, none⟩ = some (.int .u64 0) := hz1.cell 3
      have d4 : w1.cell? ⟨w.heap.size, 4, none⟩ = some (.int .u64 0) := hz1.cell 4
      have d5 : w1.cell? ⟨w.heap.size, 5, none⟩ = some (.int .u64 0) := hz1.cell 5
      have e0 := hz1.free 0
      have e1 := hz1.free 1
      have e2 := hz1.free 2
      have e3 := hz1.free 3
      have e4 := hz1.free 4
      have e5 := hz1.free 5
      go_wp2
      have hF : Whole1 _ w.heap.size 88 (Win.mk x0 x1 x2 x3 x4 x5).cells.toArray := (((((hz1.put 0 (.int .i64 x0)).put 1 (.int .i64 x1)).put 2 (.int .u64 x2)).put 3 (.int .u64 x3)).put 4 (.int .u64 x4)).put 5 (.int .u64 x5)
      have hbF := (((((((hb.trans (hb1.mono hb.size)).setCell (p := ⟨w.heap.size, 0, none⟩) (Nat.le_refl _) (.int .i64 x0)).setCell (p := ⟨w.heap.size, 1, none⟩) (Nat.le_refl _) (.int .i64 x1)).setCell (p := ⟨w.heap.size, 2, none⟩) (Nat.le_refl _) (.int .u64 x2)).setCell (p := ⟨w.heap.size, 3, none⟩) (Nat.le_refl _) (.int .u64 x3)).setCell (p := ⟨w.heap.size, 4, none⟩) (Nat.le_refl _) (.int .u64 x4)).setCell (p := ⟨w.heap.size, 5, none⟩) (Nat.le_refl _) (.int .u64 x5))
      clear d0 d1 d2 d3 d4 d5 e0 e1 e2 e3 e4 e5
      generalize World.setCell _ _ _ = wF at hF hbF ⊢
      have d0 : wF.cell? ⟨w.heap.size, 0, none⟩ = some (.int .i64 x0) := hF.cell 0
      have d1 : wF.cell? ⟨w.heap.size, 1, none⟩ = some (.int .i64 x1) := hF.cell 1
      have d2 : wF.cell? ⟨w.heap.size, 2, none⟩ = some (.int .u64 x2) := hF.cell 2
      have d3 : wF.cell? ⟨w.heap.size, 3, none⟩ = some (.int .u64 x3) := hF.cell 3
      have d4 : wF.cell? ⟨w.heap.size, 4, none⟩ = some (.int .u64 x4) := hF.cell 4
      have d5 : wF.cell? ⟨w.heap.size, 5, none⟩ = some (.int .u64 x5) := hF.cell 5
      refine bodyPost_ret (v := .agg #[.int .i64 x0, .int .i64 x1, .int .u64 x2, .int .u64 x3, .int .u64 x4, .int .u64 x5]) (by simp [results, Try.results95, go_sem, d0, d1, d2, d3, d4, d5]) rfl ⟨f, ?_, ?_, hbF⟩
      · rw [List.take_of_length_le (by rw [hL.out]; exact Nat.le_refl _)] at hf; exact hf
      · have hW := hW0.out
        rw [List.take_of_length_le (by rw [hL.out]; exact Nat.le_refl _)] at hW
        rw [hW]; rfl

end Go.Proofs.Ytohocdbneopooaa

namespace Go.Proofs.Ytohocdbneopooaa
set_option maxRecDepth 100000
open Go.RowKit

def winCells (l : List Win) : List Value := l.flatMap Win.cells

theorem winCells_length (l : List Win) : (winCells l).length = l.length * 6 := by
  induction l with
  | nil => rfl
  | cons a l ih => simp only [winCells, List.flatMap_cons, List.length_append, List.length_cons, Win.cells, List.length_nil] at ih ⊢; omega

theorem winCells_cons (a : Win) (l : List Win) : winCells (a :: l) = .int .i64 a.start :: .int .i64 a.count :: .int .u64 a.sum :: .int .u64 a.min :: .int .u64 a.max :: .int .u64 a.last :: winCells l := by
  simp [winCells, Win.cells]

theorem winCells_at (l : List Win) : ∀ (k : Nat) (h : k < l.length), (winCells l)[k * 6]? = some (.int .i64 l[k].start) ∧ (winCells l)[k * 6 + 1]? = some (.int .i64 l[k].count) ∧ (winCells l)[k * 6 + 2]? = some (.int .u64 l[k].sum) ∧
    (winCells l)[k * 6 + 3]? = some (.int .u64 l[k].min) ∧ (winCells l)[k * 6 + 4]? = some (.int .u64 l[k].max) ∧ (winCells l)[k * 6 + 5]? = some (.int .u64 l[k].last) := by
  induction l with
  | nil => intro k h; simp at h
  | cons a l ih =>
    intro k h
    rw [winCells_cons]
    cases k with
    | zero => simp
    | succ k =>
      have := ih k (by simpa using h)
      rw [show (k + 1) * 6 = k * 6 + 1 + 1 + 1 + 1 + 1 + 1 from by omega]
      simpa using this

theorem smpCells_snoc (l : List Smp) (s : Smp) : smpCells (l ++ [s]) = smpCells l ++ [.int .i64 s.t, .int .u64 s.v] := by simp [smpCells]
theorem winCells_snoc (l : List Win) (s : Win) : winCells (l ++ [s]) = winCells l ++ [.int .i64 s.start, .int .i64 s.count, .int .u64 s.sum, .int .u64 s.min, .int .u64 s.max, .int .u64 s.last] := by simp [winCells, Win.cells]
theorem smpCells_one (l : List Smp) : ∀ u ∈ smpCells l, u.oneCell' = true := by
  intro u hu
  simp only [smpCells, List.mem_flatMap, List.mem_cons, List.not_mem_nil, or_false] at hu
  obtain ⟨s, _, rfl | rfl⟩ := hu <;> rfl
theorem winCells_one (l : List Win) : ∀ u ∈ winCells l, u.oneCell' = true := by
  intro u hu
  simp only [winCells, Win.cells, List.mem_flatMap, List.mem_cons, List.not_mem_nil, or_false] at hu
  obtain ⟨s, _, rfl | rfl | rfl | rfl | rfl | rfl⟩ := hu <;> rfl

theorem info_smp : (Try.prog.info? 55).map (fun i => (i.zero, i.size, i.bytes)) = some (some (.agg #[.int .i64 0, .int .u64 0]), 2, 16) := by kernel_rfl
theorem info_win : (Try.prog.info? 88).map (fun i => (i.zero, i.size, i.bytes)) = some (some (.agg #[.int .i64 0, .int .i64 0, .int .u64 0, .int .u64 0, .int .u64 0, .int .u64 0]), 6, 48) := by kernel_rfl
theorem info_rsmp : (Try.prog.info? 86).map (fun i => (i.zero, i.size, i.bytes)) = some (some (.agg #[.int .i64 0, .int .u64 0]), 2, 16) := by kernel_rfl
theorem info_rwin : (Try.prog.info? 89).map (fun i => (i.zero, i.size, i.bytes)) = some (some (.agg #[.int .i64 0, .int .i64 0, .int .u64 0, .int .u64 0, .int .u64 0, .int .u64 0]), 6, 48) := by kernel_rfl

theorem smp_cells_at {w wr : World} {A : Option Addr} {n : Nat} {l : List Smp} {B : Nat} (hr : Row w B 2 A n (smpCells l)) (hl : l.length = n) (hb : Below B w wr) (k : Nat) (hk : k < n) :
    ∃ gs o, A = some ⟨gs, o, none⟩ ∧ ∃ x, l[k]? = some x ∧ wr.cell? ⟨gs, o + k * 2, none⟩ = some (.int .i64 x.t) ∧ wr.cell? ⟨gs, o + k * 2 + 1, none⟩ = some (.int .u64 (x.v : Nat)) := by
  obtain ⟨gs, o, rfl, hgs, hc⟩ := hr.at_ (by omega)
  have hkl : k < l.length := by omega
  have hs := smpCells_at l k hkl
  exact ⟨gs, o, rfl, l[k], List.getElem?_eq_getElem hkl, ((hb.cell (p := ⟨gs, o + k * 2, none⟩) hgs).trans (hc (k * 2) (by omega))).trans hs.1, ((hb.cell (p := ⟨gs, o + k * 2 + 1, none⟩) hgs).trans (hc (k * 2 + 1) (by omega))).trans hs.2⟩
theorem win_cells_at {w wr : World} {A : Option Addr} {n : Nat} {l : List Win} {B : Nat} (hr : Row w B 6 A n (winCells l)) (hl : l.length = n) (hb : Below B w wr) (k : Nat) (hk : k < n) :
    ∃ gs o, A = some ⟨gs, o, none⟩ ∧ gs < B ∧ ∃ x, l[k]? = some x ∧ wr.cell? ⟨gs, o + k * 6, none⟩ = some (.int .i64 x.start) ∧ wr.cell? ⟨gs, o + k * 6 + 1, none⟩ = some (.int .i64 x.count) ∧ wr.cell? ⟨gs, o + k * 6 + 2, none⟩ = some (.int .u64 (x.sum : Nat)) ∧
      wr.cell? ⟨gs, o + k * 6 + 3, none⟩ = some (.int .u64 (x.min : Nat)) ∧ wr.cell? ⟨gs, o + k * 6 + 4, none⟩ = some (.int .u64 (x.max : Nat)) ∧ wr.cell? ⟨gs, o + k * 6 + 5, none⟩ = some (.int .u64 (x.last : Nat)) := by
  obtain ⟨gs, o, rfl, hgs, hc⟩ := hr.at_ (by omega)
  have hkl : k < l.length := by omega
  have hs := winCells_at l k hkl
  have hx : ∀ j u, j < 6 → (winCells l)[k * 6 + j]? = some u → wr.cell? ⟨gs, o + (k * 6 + j), none⟩ = some u := fun j u hj hu => ((hb.cell (p := ⟨gs, o + (k * 6 + j), none⟩) hgs).trans (hc (k * 6 + j) (by omega))).trans hu
  exact ⟨gs, o, rfl, hgs, l[k], List.getElem?_eq_getElem hkl, hx 0 _ (by omega) hs.1, hx 1 _ (by omega) hs.2.1, hx 2 _ (by omega) hs.2.2.1, hx 3 _ (by omega) hs.2.2.2.1, hx 4 _ (by omega) hs.2.2.2.2.1, hx 5 _ (by omega) hs.2.2.2.2.2⟩

end Go.Proofs.Ytohocdbneopooaa
