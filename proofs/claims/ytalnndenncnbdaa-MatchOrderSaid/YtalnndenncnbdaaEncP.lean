/- The one form of a number, plainly: its bytes, and the number of bytes; there and back. No program. -/
import Derived.Test.YtalnndenncnbdaaBase
namespace Go.Proofs.Ytalnndenncnbdaa
set_option maxRecDepth 100000

/-- the one form of a number -/
def uintL (v : Nat) : List UInt8 := if h : v < 128 then [UInt8.ofNat v] else UInt8.ofNat (v % 128 + 128) :: uintL (v / 128)
termination_by v
decreasing_by omega
theorem uintL_small {v : Nat} (h : v < 128) : uintL v = [UInt8.ofNat v] := by rw [uintL, dif_pos h]
theorem uintL_big {v : Nat} (h : ¬ v < 128) : uintL v = UInt8.ofNat (v % 128 + 128) :: uintL (v / 128) := by rw [uintL, dif_neg h]
theorem uintL_ne (v : Nat) : uintL v ≠ [] := by
  rw [uintL]; split <;> simp
theorem uintL_pos (v : Nat) : 0 < (uintL v).length := List.length_pos_iff.2 (uintL_ne v)
theorem uintL_len (k : Nat) : ∀ v, v < 128 ^ (k + 1) → (uintL v).length ≤ k + 1 := by
  induction k with
  | zero => intro v h; rw [uintL_small (by simpa using h)]; simp
  | succ k ih =>
    intro v h
    by_cases hv : v < 128
    · rw [uintL_small hv]; simp
    · rw [uintL_big hv, List.length_cons]
      have := ih (v / 128) (by rw [Nat.div_lt_iff_lt_mul (by decide)]; rw [Nat.pow_succ] at h; exact h)
      omega
theorem uintL_ten {v : Nat} (h : v < 18446744073709551616) : (uintL v).length ≤ 10 := uintL_len 9 v (by
  have : (128 : Nat) ^ (9 + 1) = 1180591620717411303424 := by decide
  omega)
/-- what stands at the head of the bytes, the i-th of a number's and those behind: the value, how many bytes, the error -/
def ruL : Nat → List UInt8 → Nat × Nat × Int
  | _, [] => (0, 0, 20)
  | i, b :: l => if (i = 9 ∧ 1 < b.toNat) ∨ (0 < i ∧ b.toNat = 0) then (0, 0, 21) else if b.toNat < 128 then (b.toNat, 1, 0) else
      if (ruL (i + 1) l).2.2 = 0 then ((ruL (i + 1) l).1 * 128 + b.toNat % 128, (ruL (i + 1) l).2.1 + 1, 0) else (0, 0, (ruL (i + 1) l).2.2)
theorem ruL_cons (i : Nat) (b : UInt8) (l : List UInt8) : ruL i (b :: l) = if (i = 9 ∧ 1 < b.toNat) ∨ (0 < i ∧ b.toNat = 0) then (0, 0, 21) else if b.toNat < 128 then (b.toNat, 1, 0) else
      if (ruL (i + 1) l).2.2 = 0 then ((ruL (i + 1) l).1 * 128 + b.toNat % 128, (ruL (i + 1) l).2.1 + 1, 0) else (0, 0, (ruL (i + 1) l).2.2) := rfl
theorem ruL_err (i : Nat) (l : List UInt8) : (ruL i l).2.2 = 0 ∨ (ruL i l = (0, 0, 20) ∨ ruL i l = (0, 0, 21)) := by
  induction l generalizing i with
  | nil => exact .inr (.inl rfl)
  | cons b l ih =>
    rw [ruL_cons]
    split
    · exact .inr (.inr rfl)
    · split
      · exact .inl rfl
      · split
        · exact .inl rfl
        · rename_i h
          rcases ih (i + 1) with h1 | h1 | h1
          · exact absurd h1 h
          · rw [h1]; exact .inr (.inl rfl)
          · rw [h1]; exact .inr (.inr rfl)
/-- a number's bytes are read as the number -/
theorem ruL_uint (rest : List UInt8) (i : Nat) : ∀ (v : Nat), i ≤ 9 → v * 128 ^ i < 18446744073709551616 → (i = 0 ∨ v ≠ 0) → ruL i (uintL v ++ rest) = (v, (uintL v).length, 0) := by
  intro v
  induction v using Nat.strongRecOn generalizing i with
  | _ v ih =>
    intro hi hv h0
    by_cases hs : v < 128
    · rw [uintL_small hs, List.cons_append, ruL_cons]
      have hb : (UInt8.ofNat v).toNat = v := by simp; omega
      rw [hb]
      have hno : ¬ ((i = 9 ∧ 1 < v) ∨ (0 < i ∧ v = 0)) := by
        rintro (⟨rfl, h⟩ | ⟨h, h'⟩)
        · have : (128 : Nat) ^ 9 = 9223372036854775808 := by decide
          rw [this] at hv
          omega
        · omega
      rw [if_neg hno, if_pos hs]
      rfl
    · rw [uintL_big hs, List.cons_append, ruL_cons]
      have hb : (UInt8.ofNat (v % 128 + 128)).toNat = v % 128 + 128 := by simp; omega
      rw [hb]
      have h9 : i ≠ 9 := fun e => by
        subst e
        have : (128 : Nat) ^ 9 = 9223372036854775808 := by decide
        rw [this] at hv
        omega
      have hno : ¬ ((i = 9 ∧ 1 < v % 128 + 128) ∨ (0 < i ∧ v % 128 + 128 = 0)) := by omega
      rw [if_neg hno, if_neg (by omega)]
      have hd : v / 128 * 128 ^ (i + 1) < 18446744073709551616 := by
        have : v / 128 * 128 ^ (i + 1) = v / 128 * 128 * 128 ^ i := by rw [Nat.pow_succ, Nat.mul_comm (128 ^ i), Nat.mul_assoc]
        rw [this]
        exact Nat.lt_of_le_of_lt (Nat.mul_le_mul_right _ (Nat.div_mul_le_self _ _)) hv
      rw [ih (v / 128) (by omega) (i + 1) (by omega) hd (by omega)]
      simp only [if_true, List.length_cons]
      have e : v / 128 * 128 + (v % 128 + 128) % 128 = v := by omega
      rw [e]
/-- what is read is the one form of its value -/
theorem ruL_form (i : Nat) (l : List UInt8) : ∀ (v c : Nat), i ≤ 9 → ruL i l = (v, c, 0) → l.take c = uintL v ∧ c ≤ l.length ∧ v * 128 ^ i < 18446744073709551616 ∧ (i = 0 ∨ v ≠ 0) ∧ c = (uintL v).length := by
  induction l generalizing i with
  | nil => intro v c _ h; simp [ruL] at h
  | cons b l ih =>
    intro v c hi h
    rw [ruL_cons] at h
    split at h
    · simp at h
    · rename_i hno
      have hb := b.toNat_lt
      split at h
      · rename_i hs
        simp only [Prod.mk.injEq] at h
        obtain ⟨rfl, rfl, _⟩ := h
        rw [uintL_small hs]
        refine ⟨by simp, by simp, ?_, by omega, rfl⟩
        have hp : (128 : Nat) ^ i ≤ 128 ^ 9 := Nat.pow_le_pow_right (by decide) hi
        have h9 : (128 : Nat) ^ 9 = 9223372036854775808 := by decide
        rcases Nat.lt_or_ge i 9 with h | h
        · have hp : (128 : Nat) ^ i ≤ 128 ^ 8 := Nat.pow_le_pow_right (by decide) (by omega)
          have h8 : (128 : Nat) ^ 8 = 72057594037927936 := by decide
          have : b.toNat * 128 ^ i ≤ 127 * 128 ^ 8 := Nat.mul_le_mul (by omega) hp
          omega
        · have : i = 9 := by omega
          subst this
          rw [h9]; omega
      · rename_i hs
        split at h
        · rename_i he
          simp only [Prod.mk.injEq] at h
          obtain ⟨h1, h2, _⟩ := h
          have hi9 : i ≠ 9 := by omega
          obtain ⟨k1, k2, k3, k4, k5⟩ := ih (i + 1) (ruL (i + 1) l).1 (ruL (i + 1) l).2.1 (by omega) (by
            rw [← he])
          generalize (ruL (i + 1) l).1 = v' at *
          generalize (ruL (i + 1) l).2.1 = c' at *
          subst h1 h2
          have hv0 : v' ≠ 0 := by omega
          have hbig : ¬ (v' * 128 + b.toNat % 128) < 128 := by omega
          rw [uintL_big hbig]
          have e1 : (v' * 128 + b.toNat % 128) / 128 = v' := by omega
          have e2 : (v' * 128 + b.toNat % 128) % 128 + 128 = b.toNat := by omega
          rw [e1, e2]
          refine ⟨?_, by simp; omega, ?_, by omega, by rw [List.length_cons, ← k5]⟩
          · rw [List.take_succ_cons, k1]; simp
          · have e3 : v' * 128 ^ (i + 1) = v' * 128 * 128 ^ i := by rw [Nat.pow_succ, Nat.mul_comm (128 ^ i), Nat.mul_assoc]
            rw [e3] at k3
            -- both are multiples: v'*128^(i+1) < 2^64 leaves room below the next multiple of 128^i * 128
            have hdvd : ∃ q, 18446744073709551616 = q * (128 * 128 ^ i) ∨ i = 8 := by
              rcases Nat.lt_or_ge i 8 with h | h
              · refine ⟨18446744073709551616 / (128 * 128 ^ i), .inl ?_⟩
                have : i = 0 ∨ i = 1 ∨ i = 2 ∨ i = 3 ∨ i = 4 ∨ i = 5 ∨ i = 6 ∨ i = 7 := by omega
                rcases this with rfl | rfl | rfl | rfl | rfl | rfl | rfl | rfl <;> decide
              · exact ⟨0, .inr (by omega)⟩
            obtain ⟨q, hq | rfl⟩ := hdvd
            · have hp : 0 < 128 * 128 ^ i := Nat.mul_pos (by decide) (Nat.pow_pos (by decide))
              have e4 : v' * 128 * 128 ^ i = v' * (128 * 128 ^ i) := Nat.mul_assoc ..
              rw [e4, hq] at k3
              have hlt : v' < q := Nat.lt_of_mul_lt_mul_right k3
              rw [hq, Nat.add_mul, e4]
              have : b.toNat % 128 * 128 ^ i < 128 * 128 ^ i := Nat.mul_lt_mul_of_pos_right (by omega) (Nat.pow_pos (by decide))
              have h5 : (v' + 1) * (128 * 128 ^ i) ≤ q * (128 * 128 ^ i) := Nat.mul_le_mul_right _ hlt
              rw [Nat.add_mul, Nat.one_mul] at h5
              omega
            · have h8 : (128 : Nat) ^ 8 = 72057594037927936 := by decide
              rw [h8] at k3 ⊢
              clear h8 ih
              have hv1 : v' < 2 := by
                rcases Nat.lt_or_ge v' 2 with h | h
                · exact h
                · have := Nat.mul_le_mul_right 72057594037927936 (Nat.mul_le_mul_right 128 h)
                  omega
              have hle : v' * 128 + b.toNat % 128 ≤ 255 := by omega
              exact Nat.lt_of_le_of_lt (Nat.mul_le_mul_right _ hle) (by decide)
        · rename_i he
          simp only [Prod.mk.injEq] at h
          exact absurd h.2.2 he
/-- the number that is written at the place at, and the place behind it -/
def readU (s : List UInt8) (at_ : Int) : Nat × Int × Int :=
  if at_ < 0 ∨ (s.length : Int) ≤ at_ then (0, 0, 20) else if (ruL 0 (s.drop at_.toNat)).2.2 = 0 then ((ruL 0 (s.drop at_.toNat)).1, at_ + (ruL 0 (s.drop at_.toNat)).2.1, 0) else (0, 0, (ruL 0 (s.drop at_.toNat)).2.2)
theorem readU_err (s : List UInt8) (at_ : Int) : (readU s at_).2.2 = 0 ∨ readU s at_ = (0, 0, 20) ∨ readU s at_ = (0, 0, 21) := by
  unfold readU
  split
  · exact .inr (.inl rfl)
  · split
    · exact .inl rfl
    · rename_i h
      rcases ruL_err 0 (s.drop at_.toNat) with h1 | h1 | h1
      · exact absurd h1 h
      · rw [h1]; exact .inr (.inl rfl)
      · rw [h1]; exact .inr (.inr rfl)
theorem readU_ok {s : List UInt8} {at_ : Int} {v : Nat} {n : Int} (h : readU s at_ = (v, n, 0)) : 0 ≤ at_ ∧ n = at_ + (uintL v).length ∧ n ≤ s.length ∧ v < 18446744073709551616 ∧ (s.drop at_.toNat).take (uintL v).length = uintL v := by
  unfold readU at h
  split at h
  · simp at h
  · rename_i hr
    split at h
    · rename_i he
      simp only [Prod.mk.injEq] at h
      obtain ⟨h1, h2, _⟩ := h
      obtain ⟨k1, k2, k3, _, k5⟩ := ruL_form 0 (s.drop at_.toNat) _ _ (by decide) (by rw [← he])
      rw [h1] at k1 k3 k5
      rw [k5] at k1 k2 h2
      rw [List.length_drop] at k2
      refine ⟨by omega, by omega, by omega, by simpa using k3, k1⟩
    · rename_i he
      simp only [Prod.mk.injEq] at h
      exact absurd h.2.2 he
theorem readU_at {s : List UInt8} {at_ : Int} {v : Nat} {rest : List UInt8} (h0 : 0 ≤ at_) (h : s.drop at_.toNat = uintL v ++ rest) (hv : v < 18446744073709551616) : readU s at_ = (v, at_ + (uintL v).length, 0) := by
  have hl : (s.drop at_.toNat).length = (uintL v).length + rest.length := by rw [h, List.length_append]
  rw [List.length_drop] at hl
  have := uintL_pos v
  unfold readU
  rw [if_neg (by omega), h, ruL_uint rest 0 v (by decide) (by simpa using hv) (.inl rfl)]
  rfl
/-- a number with a sign as one without -/
def zz (v : Int) : Nat := if 0 ≤ v then (2 * v).toNat else (-(2 * v) - 1).toNat
def unzz (n : Nat) : Int := if n % 2 = 0 then (n / 2 : Nat) else -((n / 2 : Nat) : Int) - 1
theorem unzz_zz (v : Int) : unzz (zz v) = v := by
  unfold unzz zz
  split <;> split <;> omega
theorem zz_unzz (n : Nat) : zz (unzz n) = n := by
  unfold unzz zz
  split <;> split <;> omega
theorem zz_lt {v : Int} (h : -9223372036854775808 ≤ v) (h2 : v < 9223372036854775808) : zz v < 18446744073709551616 := by
  unfold zz
  split <;> omega
theorem unzz_in {n : Nat} (h : n < 18446744073709551616) : -9223372036854775808 ≤ unzz n ∧ unzz n < 9223372036854775808 := by
  unfold unzz
  split <;> omega
def intL (v : Int) : List UInt8 := uintL (zz v)
def readI (s : List UInt8) (at_ : Int) : Int × Int × Int := if (readU s at_).2.2 = 0 then (unzz (readU s at_).1, (readU s at_).2.1, 0) else (0, 0, (readU s at_).2.2)
end Go.Proofs.Ytalnndenncnbdaa
