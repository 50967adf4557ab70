/- Plain laws of floats: the order of two floats that are no NaNs is that of their numbers; NaNs by their bits; a sum's bits. No program. -/
import Derived.Test.YtohocdbneopooaaFoldRef
namespace Go.Proofs.Ytohocdbneopooaa
set_option maxRecDepth 100000
open Go.RowKit

/-- magnitudes in units of the least one -/
def mag (r : Nat) : Nat := if r < 4503599627370496 then r else (4503599627370496 + r % 4503599627370496) * 2 ^ (r / 4503599627370496 - 1)

theorem mag_succ (r : Nat) : mag r < mag (r + 1) := by
  unfold mag
  by_cases h : r + 1 < 4503599627370496
  · rw [if_pos (by omega), if_pos h]; omega
  · rw [if_neg h]
    by_cases h2 : r < 4503599627370496
    · have : r + 1 = 4503599627370496 := by omega
      rw [if_pos h2, this]; simp; omega
    · rw [if_neg h2]
      by_cases h3 : r % 4503599627370496 + 1 < 4503599627370496
      · have e1 : (r + 1) / 4503599627370496 = r / 4503599627370496 := by omega
        have e2 : (r + 1) % 4503599627370496 = r % 4503599627370496 + 1 := by omega
        rw [e1, e2]
        exact Nat.mul_lt_mul_of_pos_right (by omega) (Nat.two_pow_pos _)
      · have e1 : (r + 1) / 4503599627370496 = r / 4503599627370496 + 1 := by omega
        have e2 : (r + 1) % 4503599627370496 = 0 := by omega
        have e3 : 1 ≤ r / 4503599627370496 := by omega
        rw [e1, e2]
        obtain ⟨q, hq⟩ : ∃ q, r / 4503599627370496 = q + 1 := ⟨_, (Nat.sub_add_cancel e3).symm⟩
        rw [hq, show q + 1 + 1 - 1 = q + 1 from rfl, show q + 1 - 1 = q from rfl, Nat.pow_succ]
        have hp := Nat.two_pow_pos q
        generalize 2 ^ q = p at *
        have hm : r % 4503599627370496 < 4503599627370496 := Nat.mod_lt _ (by decide)
        generalize r % 4503599627370496 = m at *
        have : (4503599627370496 + m) * p < (4503599627370496 * 2) * p := Nat.mul_lt_mul_of_pos_right (by omega) hp
        rw [Nat.mul_comm p 2, ← Nat.mul_assoc]
        simpa using this

theorem mag_lt {a b : Nat} (h : a < b) : mag a < mag b := by
  induction b with
  | zero => omega
  | succ b ih =>
    rcases Nat.lt_or_ge a b with h1 | h1
    · exact Nat.lt_trans (ih h1) (mag_succ b)
    · have : a = b := by omega
      subst this; exact mag_succ a

theorem mag_lt_iff {a b : Nat} : mag a < mag b ↔ a < b := by
  refine ⟨fun h => ?_, mag_lt⟩
  rcases Nat.lt_or_ge a b with h1 | h1
  · exact h1
  · rcases Nat.lt_or_eq_of_le h1 with h2 | h2
    · have := mag_lt h2; omega
    · subst h2; omega

theorem mag_eq_iff {a b : Nat} : mag a = mag b ↔ a = b := by
  refine ⟨fun h => ?_, fun h => by rw [h]⟩
  rcases Nat.lt_trichotomy a b with h1 | h1 | h1
  · have := mag_lt h1; omega
  · exact h1
  · have := mag_lt h1; omega

def key (v : Nat) : Int := if v / 9223372036854775808 % 2 == 1 then -((mag (v % 9223372036854775808) : Nat) : Int) else ((mag (v % 9223372036854775808) : Nat) : Int)

theorem compare_mul (x y : Int) (c : Int) (hc : 0 < c) : compare (x * c) (y * c) = compare x y := by
  simp only [compare, compareOfLessAndEq]
  have h1 : x * c < y * c ↔ x < y := Int.mul_lt_mul_right hc
  have h2 : x * c = y * c ↔ x = y := Int.mul_eq_mul_right_iff (by omega)
  simp only [h1, h2]

theorem signed_mul (s : Bool) (m up d : Nat) : Ieee.signed s m up * ((2 ^ d : Nat) : Int) = Ieee.signed s m (up + d) := by
  unfold Ieee.signed
  have h : ((m <<< up : Nat) : Int) * ((2 ^ d : Nat) : Int) = ((m <<< (up + d) : Nat) : Int) := by
    rw [← Int.natCast_mul, Nat.shiftLeft_eq, Nat.shiftLeft_eq, Nat.pow_add, Nat.mul_assoc]
  cases s
  · simpa using h
  · simp only [if_true]
    rw [Int.neg_mul, h]

/-- What a word below infinity reads as. -/
theorem read_fin (v : Nat) (h : v % 9223372036854775808 < 9218868437227405312) : ∃ (m e : Nat), Ieee.double.read v = .number (v / 9223372036854775808 % 2 == 1) m (Ieee.double.leastPlace + (e : Int)) ∧ m * 2 ^ e = mag (v % 9223372036854775808) := by
  unfold Ieee.Format.read mag
  rw [dbl_sign, dbl_binade, dbl_inf]
  dsimp only
  generalize v % 9223372036854775808 = r at *
  by_cases h1 : r < 4503599627370496
  · rw [if_pos h1, if_pos h1]
    exact ⟨r, 0, by simp, by simp⟩
  · rw [if_neg h1, if_pos h, if_neg h1]
    exact ⟨_, r / 4503599627370496 - 1, rfl, rfl⟩

theorem read_inf (v : Nat) (h : v % 9223372036854775808 = 9218868437227405312) : Ieee.double.read v = .infinity (v / 9223372036854775808 % 2 == 1) := by
  unfold Ieee.Format.read
  rw [dbl_sign, dbl_binade, dbl_inf]
  dsimp only
  rw [h, if_neg (by omega), if_neg (by omega), if_pos rfl]

theorem order_fin (s t : Bool) (m n e f : Nat) (lp : Int) : Ieee.Datum.order (.number s m (lp + (e : Int))) (.number t n (lp + (f : Int))) =
    some (compare (Ieee.signed s (m * 2 ^ e) 0) (Ieee.signed t (n * 2 ^ f) 0)) := by
  have hmin : min (lp + (e : Int)) (lp + (f : Int)) = lp + ((min e f : Nat) : Int) := by omega
  simp only [Ieee.Datum.order]
  rw [hmin]
  have e1 : (lp + (e : Int) - (lp + ((min e f : Nat) : Int))).toNat = e - min e f := by omega
  have e2 : (lp + (f : Int) - (lp + ((min e f : Nat) : Int))).toNat = f - min e f := by omega
  rw [e1, e2, ← compare_mul _ _ ((2 ^ (min e f) : Nat) : Int) (by have := Nat.two_pow_pos (min e f); omega), signed_mul, signed_mul]
  rw [show e - min e f + min e f = e from by omega, show f - min e f + min e f = f from by omega]
  congr 2
  · unfold Ieee.signed; rw [Nat.shiftLeft_eq, Nat.shiftLeft_zero]
  · unfold Ieee.signed; rw [Nat.shiftLeft_eq, Nat.shiftLeft_zero]

theorem signed_key (v : Nat) : Ieee.signed (v / 9223372036854775808 % 2 == 1) (mag (v % 9223372036854775808)) 0 = key v := by
  unfold Ieee.signed key
  rw [Nat.shiftLeft_zero]

theorem key_bound (v : Nat) (h : v % 9223372036854775808 < 9218868437227405312) : -((mag 9218868437227405312 : Nat) : Int) < key v ∧ key v < ((mag 9218868437227405312 : Nat) : Int) := by
  have := mag_lt h
  unfold key
  split <;> omega

theorem key_inf (v : Nat) (h : v % 9223372036854775808 = 9218868437227405312) : key v = if v / 9223372036854775808 % 2 == 1 then -((mag 9218868437227405312 : Nat) : Int) else ((mag 9218868437227405312 : Nat) : Int) := by
  unfold key; rw [h]

theorem order_key (a b : Nat) (ha : nanN a = false) (hb : nanN b = false) : Ieee.double.order a b = some (compare (key a) (key b)) := by
  have ha' : a % 9223372036854775808 ≤ 9218868437227405312 := by simpa [nanN] using ha
  have hb' : b % 9223372036854775808 ≤ 9218868437227405312 := by simpa [nanN] using hb
  have hpos : 0 < mag 9218868437227405312 := Nat.lt_of_le_of_lt (Nat.zero_le (mag 0)) (mag_lt (by decide))
  unfold Ieee.Format.order
  rcases Nat.lt_or_eq_of_le ha' with h1 | h1 <;> rcases Nat.lt_or_eq_of_le hb' with h2 | h2
  · obtain ⟨m, e, r1, m1⟩ := read_fin a h1
    obtain ⟨n, f, r2, m2⟩ := read_fin b h2
    rw [r1, r2, order_fin, m1, m2, signed_key, signed_key]
  · obtain ⟨m, e, r1, m1⟩ := read_fin a h1
    have kb := key_bound a h1
    rw [r1, read_inf b h2, key_inf b h2]
    generalize (b / 9223372036854775808 % 2 == 1) = t
    cases t
    · simp only [Ieee.Datum.order, compare, compareOfLessAndEq, Bool.false_eq_true, if_false]
      rw [if_pos (by omega)]
    · simp only [Ieee.Datum.order, compare, compareOfLessAndEq, if_true]
      rw [if_neg (by omega), if_neg (by omega)]
  · obtain ⟨m, e, r1, m1⟩ := read_fin b h2
    have kb := key_bound b h2
    rw [r1, read_inf a h1, key_inf a h1]
    generalize (a / 9223372036854775808 % 2 == 1) = t
    cases t
    · simp only [Ieee.Datum.order, compare, compareOfLessAndEq, Bool.false_eq_true, if_false]
      rw [if_neg (by omega), if_neg (by omega)]
    · simp only [Ieee.Datum.order, compare, compareOfLessAndEq, if_true]
      rw [if_pos (by omega)]
  · rw [read_inf a h1, read_inf b h2, key_inf a h1, key_inf b h2]
    generalize (a / 9223372036854775808 % 2 == 1) = s
    generalize (b / 9223372036854775808 % 2 == 1) = t
    cases s <;> cases t
    · simp [Ieee.Datum.order, compare, compareOfLessAndEq]
    · simp only [Ieee.Datum.order, compare, compareOfLessAndEq, Bool.false_eq_true, if_false, if_true, Bool.toNat_true, Bool.toNat_false]
      rw [if_neg (by omega), if_neg (by omega), if_neg (by omega), if_neg (by omega)]
    · simp only [Ieee.Datum.order, compare, compareOfLessAndEq, Bool.false_eq_true, if_false, if_true, Bool.toNat_true, Bool.toNat_false]
      rw [if_pos (by omega), if_pos (by omega)]
    · simp [Ieee.Datum.order, compare, compareOfLessAndEq]

theorem nanB_eq (v : Nat) : nanB v = nanN v := by
  cases h : nanN v
  · have := order_key v v h h
    simp [nanB, this, compare, compareOfLessAndEq]
  · exact nanB_of v (by simpa [nanN] using h)

theorem belowB_key (a b : Nat) (ha : nanN a = false) (hb : nanN b = false) : belowB a b = if key a = key b then decide (9223372036854775808 ≤ a) && !decide (9223372036854775808 ≤ b) else decide (key a < key b) := by
  have ho : FloatKind.f64.format.order a b = some (compare (key a) (key b)) := order_key a b ha hb
  unfold belowB
  rw [ho]
  generalize key a = x
  generalize key b = y
  rcases Int.lt_trichotomy x y with h | h | h
  · have hc : compare x y = .lt := by simp only [compare, compareOfLessAndEq]; rw [if_pos h]
    rw [hc, if_neg (show ¬ x = y by omega)]; simp [h]
  · have hc : compare x y = .eq := by simp only [compare, compareOfLessAndEq]; rw [if_neg (by omega), if_pos h]
    rw [hc, if_pos h]; simp
  · have hc : compare x y = .gt := by simp only [compare, compareOfLessAndEq]; rw [if_neg (by omega), if_neg (by omega)]
    rw [hc, if_neg (show ¬ x = y by omega)]; simp; omega

theorem key_low (v : Nat) (h : v < 9223372036854775808) : key v = (mag v : Nat) := by
  unfold key
  have h1 : v / 9223372036854775808 = 0 := by omega
  have h2 : v % 9223372036854775808 = v := by omega
  rw [h1, h2]; simp
theorem key_high (c : Nat) (h3 : c < 9223372036854775808) : key (c + 9223372036854775808) = -((mag c : Nat) : Int) := by
  unfold key
  have h1 : (c + 9223372036854775808) / 9223372036854775808 = 1 := by omega
  have h2 : (c + 9223372036854775808) % 9223372036854775808 = c := by omega
  rw [h1, h2]; simp

theorem mag_zero {r : Nat} : mag r = 0 ↔ r = 0 := by
  have := @mag_eq_iff r 0
  rwa [show mag 0 = 0 from by simp [mag]] at this

theorem belowB_ord (a b : Nat) (ha : nanN a = false) (hb : nanN b = false) (la : a < 18446744073709551616) (lb : b < 18446744073709551616) : belowB a b = decide (ordN a < ordN b) := by
  rw [belowB_key a b ha hb]
  unfold ordN
  by_cases h1 : 9223372036854775808 ≤ a <;> by_cases h2 : 9223372036854775808 ≤ b
  · obtain ⟨c, rfl⟩ : ∃ c, a = c + 9223372036854775808 := ⟨a - 9223372036854775808, by omega⟩
    obtain ⟨d, rfl⟩ : ∃ d, b = d + 9223372036854775808 := ⟨b - 9223372036854775808, by omega⟩
    rw [key_high c (by omega), key_high d (by omega), if_pos h1, if_pos h2]
    have hlt := @mag_lt_iff d c
    have heq := @mag_eq_iff c d
    generalize mag c = x at *
    generalize mag d = y at *
    by_cases e : x = y
    · rw [if_pos (by omega)]; simp only [h1, h2, decide_true, Bool.not_true, Bool.and_false]; symm; rw [decide_eq_false_iff_not]; omega
    · rw [if_neg (by omega), decide_eq_decide]; omega
  · obtain ⟨c, rfl⟩ : ∃ c, a = c + 9223372036854775808 := ⟨a - 9223372036854775808, by omega⟩
    rw [key_high c (by omega), key_low b (by omega), if_pos h1, if_neg h2]
    have z1 := @mag_zero c
    have z2 := @mag_zero b
    generalize mag c = x at *
    generalize mag b = y at *
    by_cases e : -(x : Int) = (y : Int)
    · rw [if_pos e]; simp only [h1, h2, decide_true, decide_false, Bool.not_false, Bool.and_true]; symm; rw [decide_eq_true_eq]; omega
    · rw [if_neg e, decide_eq_decide]; omega
  · obtain ⟨d, rfl⟩ : ∃ d, b = d + 9223372036854775808 := ⟨b - 9223372036854775808, by omega⟩
    rw [key_low a (by omega), key_high d (by omega), if_neg h1, if_pos h2]
    generalize mag a = x at *
    generalize mag d = y at *
    by_cases e : (x : Int) = -(y : Int)
    · rw [if_pos e]; simp only [h1, decide_false, Bool.false_and]; symm; rw [decide_eq_false_iff_not]; omega
    · rw [if_neg e, decide_eq_decide]; omega
  · rw [key_low a (by omega), key_low b (by omega), if_neg h1, if_neg h2]
    have hlt := @mag_lt_iff a b
    have heq := @mag_eq_iff a b
    generalize mag a = x at *
    generalize mag b = y at *
    by_cases e : x = y
    · rw [if_pos (by omega)]; simp only [h1, decide_false, Bool.false_and]; symm; rw [decide_eq_false_iff_not]; omega
    · rw [if_neg (by omega), decide_eq_decide]; omega

/-- A NaN adds to a NaN. -/
theorem add_nan (x y : Nat) (h : nanN x = true) : Ieee.double.add x y = none := by
  obtain ⟨s, f, hr⟩ := read_nan x (by simpa [nanN] using h)
  simp [Ieee.Format.add, hr, Ieee.Datum.sum]
theorem add_nan' (x y : Nat) (h : nanN y = true) : Ieee.double.add x y = none := by
  obtain ⟨s, f, hr⟩ := read_nan y (by simpa [nanN] using h)
  unfold Ieee.Format.add
  rw [hr]
  cases Ieee.double.read x <;> simp [Ieee.Datum.sum]

theorem nan_mod (v : Nat) (h : v % 9223372036854775808 ≤ 9218868437227405312) : nanN v = false := by simp [nanN]; omega

theorem word_mod (s : Bool) (r : Nat) (h : r ≤ 9218868437227405312) : nanN (Ieee.double.word s r) = false := by
  apply nan_mod
  unfold Ieee.Format.word
  rw [dbl_sign]
  cases s
  · simp only [Bool.false_eq_true, if_false]; omega
  · simp only [if_true]; omega

theorem write_nan (d : Ieee.Datum) (h : d.isNaN = false) : nanN (Ieee.double.write d) = false := by
  cases d with
  | number s m e =>
    simp only [Ieee.Format.write, Ieee.Format.nearest]
    split
    · exact word_mod _ _ (Nat.zero_le _)
    · refine word_mod _ _ ?_
      rw [← dbl_inf]
      exact Nat.min_le_right _ _
  | infinity s =>
    simp only [Ieee.Format.write]
    exact word_mod _ _ (by rw [dbl_inf]; exact Nat.le_refl _)
  | nan s f => simp [Ieee.Datum.isNaN] at h

theorem sum_nan {x y d : Ieee.Datum} (h : x.sum y = some d) : d.isNaN = false := by
  cases x <;> cases y <;> simp only [Ieee.Datum.sum] at h
  all_goals first
    | (cases h; done)
    | (injection h with h; subst h; rfl)
    | (split at h; (injection h with h; subst h; rfl); cases h)

theorem add_some {x y r : Nat} (h : Ieee.double.add x y = some r) : nanN r = false := by
  unfold Ieee.Format.add at h
  cases hs : (Ieee.double.read x).sum (Ieee.double.read y) with
  | none => rw [hs] at h; cases h
  | some d =>
    rw [hs] at h
    injection h with h
    subst h
    exact write_nan d (sum_nan hs)

/-- The canonical sum. -/
def canonN (x : Nat) : Nat := if nanN x then 9221120237041090560 else x
theorem canon_eq (x : Nat) : canon x = canonN x := by unfold canon canonN; rw [nanB_eq]

def cadd (x y : Nat) : Nat := match Ieee.double.add x y with | some r => r | none => 9221120237041090560
def csum : List Nat → Nat
  | [] => 0
  | x :: l => l.foldl cadd (canonN x)

theorem csum_snoc (x : Nat) (l : List Nat) (y : Nat) : csum (x :: l ++ [y]) = cadd (csum (x :: l)) y := by simp [csum]

theorem canon_nan : nanN 9221120237041090560 = true := by decide

theorem add_canon (x y : Nat) : Ieee.double.add (canonN x) y = Ieee.double.add x y := by
  unfold canonN
  cases h : nanN x
  · rfl
  · rw [if_pos rfl, add_nan _ _ canon_nan, add_nan _ _ h]

theorem FAdd.canon {x y r : Nat} (h : FAdd x y r) : canonN r = cadd (canonN x) y := by
  unfold cadd
  rw [add_canon]
  rcases h with h | ⟨h, hn, _⟩
  · rw [h]
    unfold canonN
    rw [add_some h]; rfl
  · rw [h]
    unfold canonN
    rw [nanB_eq] at hn
    rw [hn]; rfl

theorem SumOf.canon {l : List Nat} {r : Nat} (h : SumOf l r) : l ≠ [] ∧ canonN r = csum l := by
  induction h with
  | one => exact ⟨by simp, rfl⟩
  | @snoc l s y r h1 h2 ih =>
    refine ⟨by simp, ?_⟩
    obtain ⟨hl, hs⟩ := ih
    cases l with
    | nil => exact absurd rfl hl
    | cons a l => rw [csum_snoc, ← hs]; exact h2.canon

theorem Folded.sum {l : List (Nat × Nat × Nat)} {f : Fd} (h : Folded l f) : l ≠ [] → canonN f.s = csum (l.map (·.1)) := by
  induction h with
  | nil => intro h; exact absurd rfl h
  | @snoc l f s r a b h1 h2 ih =>
    intro _
    rw [List.map_append, List.map_cons, List.map_nil]
    rcases h2 with ⟨h0, rfl⟩ | ⟨h0, h2⟩
    · have : l = [] := by
        have := h1.n
        rw [h0] at this
        exact List.eq_nil_of_length_eq_zero (by omega)
      subst this
      rfl
    · cases l with
      | nil => exact absurd h1.n h0
      | cons x l =>
        have := ih (by simp)
        rw [List.map_cons, csum_snoc]
        rw [List.map_cons] at this
        rw [← this]
        exact h2.canon

theorem Folded.low {l : List (Nat × Nat × Nat)} {f : Fd} (h : Folded l f) (hb : ∀ x ∈ l, x.2.1 < 18446744073709551616) :
    f.lo = (leastOf (l.map (·.2.1))).1 ∧ (f.lo = true → f.l = (leastOf (l.map (·.2.1))).2 ∧ nanN f.l = false ∧ f.l < 18446744073709551616) ∧ (f.lo = false → (leastOf (l.map (·.2.1))).2 = 9221120237041090560) := by
  induction h with
  | nil => exact ⟨rfl, ⟨fun h => (by cases h), fun _ => rfl⟩⟩
  | @snoc l f s r a b h1 h2 ih =>
    have hb1 := hb (s, a, b) (by simp)
    simp only at hb1
    obtain ⟨i1, i2, i3⟩ := ih (fun x hx => hb x (by simp [hx]))
    rw [List.map_append, List.map_cons, List.map_nil, leastOf_snoc]
    simp only [Fd.added, takesLow, nanB_eq]
    unfold leastStep
    cases hN : nanN a
    · simp only [Bool.not_false, Bool.true_and, Bool.false_eq_true, if_false]
      cases hlo : f.lo
      · rw [hlo] at i1
        simp only [Bool.not_false, Bool.true_or, if_true, Bool.false_or, ← i1]
        simp [hN, hb1]
      · obtain ⟨j1, j2, j3⟩ := i2 hlo
        rw [hlo] at i1
        simp only [Bool.not_true, Bool.false_or, Bool.true_or, ← i1, ← j1]
        rw [belowB_ord a f.l hN j2 hb1 j3]
        refine ⟨trivial, fun _ => ⟨rfl, ?_⟩, fun h => by cases h⟩
        split
        · exact ⟨hN, hb1⟩
        · exact ⟨j2, j3⟩
    · simp only [Bool.not_true, Bool.false_and, Bool.or_false, Bool.false_eq_true, if_false, if_true]
      exact ⟨i1, i2, i3⟩

theorem Folded.high {l : List (Nat × Nat × Nat)} {f : Fd} (h : Folded l f) (hb : ∀ x ∈ l, x.2.2 < 18446744073709551616) :
    f.hi = (greatOf (l.map (·.2.2))).1 ∧ (f.hi = true → f.m = (greatOf (l.map (·.2.2))).2 ∧ nanN f.m = false ∧ f.m < 18446744073709551616) ∧ (f.hi = false → (greatOf (l.map (·.2.2))).2 = 9221120237041090560) := by
  induction h with
  | nil => exact ⟨rfl, ⟨fun h => (by cases h), fun _ => rfl⟩⟩
  | @snoc l f s r a b h1 h2 ih =>
    have hb1 := hb (s, a, b) (by simp)
    simp only at hb1
    obtain ⟨i1, i2, i3⟩ := ih (fun x hx => hb x (by simp [hx]))
    rw [List.map_append, List.map_cons, List.map_nil, greatOf_snoc]
    simp only [Fd.added, takesHigh, nanB_eq]
    unfold greatStep
    cases hN : nanN b
    · simp only [Bool.not_false, Bool.true_and, Bool.false_eq_true, if_false]
      cases hlo : f.hi
      · rw [hlo] at i1
        simp only [Bool.not_false, Bool.true_or, if_true, Bool.false_or, ← i1]
        simp [hN, hb1]
      · obtain ⟨j1, j2, j3⟩ := i2 hlo
        rw [hlo] at i1
        simp only [Bool.not_true, Bool.false_or, Bool.true_or, ← i1, ← j1]
        rw [belowB_ord f.m b j2 hN j3 hb1]
        refine ⟨trivial, fun _ => ⟨rfl, ?_⟩, fun h => by cases h⟩
        split
        · exact ⟨hN, hb1⟩
        · exact ⟨j2, j3⟩
    · simp only [Bool.not_true, Bool.false_and, Bool.or_false, Bool.false_eq_true, if_false, if_true]
      exact ⟨i1, i2, i3⟩

/-- The reference's window of three lists of bits. -/
def refWin (start count : Int) (last : Nat) (sums mins maxs : List Nat) : Win :=
  if sums = [] then ⟨start, 0, 0, 0, 0, 0⟩ else ⟨start, count, csum sums, (leastOf mins).2, (greatOf maxs).2, last⟩

theorem canonN_of {x : Nat} (h : nanN x = false) : canonN x = x := by unfold canonN; rw [h]; rfl

theorem Folded.win {l : List (Nat × Nat × Nat)} {f : Fd} (h : Folded l f) (hb : ∀ x ∈ l, x.2.1 < 18446744073709551616 ∧ x.2.2 < 18446744073709551616) (start count : Int) (last : Nat) :
    f.window start count last = refWin start count last (l.map (·.1)) (l.map (·.2.1)) (l.map (·.2.2)) := by
  unfold Fd.window refWin
  by_cases h0 : f.n = 0
  · have : l = [] := by
      have := h.n
      rw [h0] at this
      exact List.eq_nil_of_length_eq_zero (by omega)
    subst this
    rw [if_pos h0, if_pos (by rfl)]
  · have hl : l ≠ [] := by rintro rfl; exact h0 h.n
    have hl2 : l.map (·.1) ≠ [] := by simpa using hl
    rw [if_neg h0, if_neg hl2]
    obtain ⟨_, a2, a3⟩ := h.low (fun x hx => (hb x hx).1)
    obtain ⟨_, b2, b3⟩ := h.high (fun x hx => (hb x hx).2)
    rw [canon_eq, h.sum hl]
    congr 1
    · cases hlo : f.lo
      · rw [a3 hlo]; rfl
      · obtain ⟨c1, c2, _⟩ := a2 hlo
        rw [if_pos rfl, canon_eq, canonN_of c2, c1]
    · cases hhi : f.hi
      · rw [b3 hhi]; rfl
      · obtain ⟨c1, c2, _⟩ := b2 hhi
        rw [if_pos rfl, canon_eq, canonN_of c2, c1]

end Go.Proofs.Ytohocdbneopooaa
