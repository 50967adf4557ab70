/- Quotations, plainly: what a text is in quotation marks, and what such a quotation is read as. No program is walked here. The one form of a number, plainly: its bytes, and the number of bytes; there and back. No program. strings.Builder's methods, walked. enc.Uint and enc.Int, walked. -/
import Derived.Test.YthncochjhbmceaaGreatPkb5fb2d9c
import Derived.Lib.Builder
import Derived.Lib.AppendStr
import Derived.Lib.UnsafeStr
import Derived.Lib.Zigzag
namespace Go.Proofs.YthncochjhbmceaaGreat
set_option maxRecDepth 100000

/-- a digit to the base 16 -/
def hexD (n : Nat) : UInt8 := if n < 10 then UInt8.ofNat (48 + n) else UInt8.ofNat (87 + n)
/-- one byte, quoted -/
def quoB (b : UInt8) : List UInt8 := if b.toNat = 34 ∨ b.toNat = 92 then [92, b] else if 32 ≤ b.toNat ∧ b.toNat ≤ 126 then [b] else [92, 120, hexD (b.toNat / 16), hexD (b.toNat % 16)]
def quoL (v : List UInt8) : List UInt8 := v.flatMap quoB
/-- a text in quotation marks -/
def quoteL (v : List UInt8) : List UInt8 := 34 :: (quoL v ++ [34])
theorem quoB_len (b : UInt8) : 1 ≤ (quoB b).length ∧ (quoB b).length ≤ 4 := by
  unfold quoB
  split
  · simp
  · split <;> simp
theorem quoL_len (v : List UInt8) : (quoL v).length ≤ 4 * v.length := by
  induction v with
  | nil => simp [quoL]
  | cons b v ih =>
    have := (quoB_len b).2
    simp only [quoL, List.flatMap_cons, List.length_append, List.length_cons] at ih ⊢
    omega
theorem quoL_snoc (v : List UInt8) (b : UInt8) : quoL (v ++ [b]) = quoL v ++ quoB b := by simp [quoL]
/-- the value of a digit, or 16 -/
def hexV (b : UInt8) : Nat := if 48 ≤ b.toNat ∧ b.toNat ≤ 57 then b.toNat - 48 else if 97 ≤ b.toNat ∧ b.toNat ≤ 102 then b.toNat - 87 else 16
theorem hexV_D {n : Nat} (h : n < 16) : hexV (hexD n) = n := by
  unfold hexV hexD
  by_cases h1 : n < 10
  · rw [if_pos h1]
    have e : (UInt8.ofNat (48 + n)).toNat = 48 + n := by simp; omega
    rw [e, if_pos (by omega)]; omega
  · rw [if_neg h1]
    have e : (UInt8.ofNat (87 + n)).toNat = 87 + n := by simp; omega
    rw [e, if_neg (by omega), if_pos (by omega)]; omega
theorem hexD_V {b : UInt8} (h : hexV b < 16) : hexD (hexV b) = b := by
  unfold hexV at h ⊢
  have hb := b.toNat_lt
  split
  · rename_i h1
    rw [hexD, if_pos (by omega), show 48 + (b.toNat - 48) = b.toNat by omega]; simp
  · split
    · rename_i h1 h2
      rw [hexD, if_neg (by omega), show 87 + (b.toNat - 87) = b.toNat by omega]; simp
    · rename_i h1 h2
      rw [if_neg h1, if_neg h2] at h; omega
/-- a quotation read, its opening mark behind us: the text, and how many bytes it took -/
def parQ : List UInt8 → Option (List UInt8 × Nat)
  | [] => none
  | b :: r =>
    if b.toNat = 34 then some ([], 1)
    else if b.toNat < 32 ∨ 126 < b.toNat then none
    else if b.toNat ≠ 92 then (parQ r).map fun p => (b :: p.1, p.2 + 1)
    else match r with
      | [] => none
      | c :: r2 =>
        if c.toNat = 34 ∨ c.toNat = 92 then (parQ r2).map fun p => (c :: p.1, p.2 + 2)
        else match r2 with
          | h :: l :: r3 =>
            if c.toNat ≠ 120 then none
            else if hexV h < 16 ∧ hexV l < 16 ∧ ¬ (32 ≤ hexV h * 16 + hexV l ∧ hexV h * 16 + hexV l ≤ 126) then (parQ r3).map fun p => (UInt8.ofNat (hexV h * 16 + hexV l) :: p.1, p.2 + 4)
            else none
          | _ => none
theorem parQ_cons (b : UInt8) (r : List UInt8) : parQ (b :: r) = (
    if b.toNat = 34 then some ([], 1)
    else if b.toNat < 32 ∨ 126 < b.toNat then none
    else if b.toNat ≠ 92 then (parQ r).map fun p => (b :: p.1, p.2 + 1)
    else match r with
      | [] => none
      | c :: r2 =>
        if c.toNat = 34 ∨ c.toNat = 92 then (parQ r2).map fun p => (c :: p.1, p.2 + 2)
        else match r2 with
          | h :: l :: r3 =>
            if c.toNat ≠ 120 then none
            else if hexV h < 16 ∧ hexV l < 16 ∧ ¬ (32 ≤ hexV h * 16 + hexV l ∧ hexV h * 16 + hexV l ≤ 126) then (parQ r3).map fun p => (UInt8.ofNat (hexV h * 16 + hexV l) :: p.1, p.2 + 4)
            else none
          | _ => none) := by rw [parQ.eq_def]
theorem u8_eq {a b : UInt8} (h : a.toNat = b.toNat) : a = b := UInt8.toNat_inj.1 h
/-- what is quoted is read back -/
theorem parQ_quo (rest : List UInt8) : ∀ v : List UInt8, parQ (quoL v ++ 34 :: rest) = some (v, (quoL v).length + 1)
  | [] => by
    show parQ (34 :: rest) = _
    rw [parQ_cons, if_pos (show UInt8.toNat 34 = 34 from rfl)]; rfl
  | b :: v => by
    have ih := parQ_quo rest v
    have e : quoL (b :: v) = quoB b ++ quoL v := by simp [quoL]
    rw [e, List.append_assoc]
    unfold quoB
    by_cases h1 : b.toNat = 34 ∨ b.toNat = 92
    · rw [if_pos h1]
      simp only [List.cons_append, List.nil_append, List.length_cons]
      rw [parQ_cons, if_neg (by decide), if_neg (by decide), if_neg (by decide)]
      dsimp only
      rw [if_pos h1, ih]
      simp
    · rw [if_neg h1]
      by_cases h2 : 32 ≤ b.toNat ∧ b.toNat ≤ 126
      · rw [if_pos h2]
        simp only [List.cons_append, List.nil_append, List.length_cons]
        rw [parQ_cons, if_neg (fun h => h1 (.inl h)), if_neg (by omega), if_pos (fun h => h1 (.inr h)), ih]
        simp
      · rw [if_neg h2]
        have hb := b.toNat_lt
        simp only [List.cons_append, List.nil_append, List.length_cons]
        rw [parQ_cons, if_neg (by decide), if_neg (by decide), if_neg (by decide)]
        dsimp only
        rw [if_neg (by decide)]
        try dsimp only
        rw [if_neg (by decide), hexV_D (by omega), hexV_D (by omega), if_pos ⟨by omega, by omega, by omega⟩, ih, show b.toNat / 16 * 16 + b.toNat % 16 = b.toNat by omega]
        simp
/-- what is read is the one quotation of its text -/
theorem parQ_form : ∀ (s v : List UInt8) (n : Nat), parQ s = some (v, n) → ∃ rest, s = quoL v ++ 34 :: rest ∧ n = (quoL v).length + 1
  | [], v, n, h => by simp [parQ] at h
  | b :: r, v, n, h => by
    rw [parQ_cons] at h
    split at h
    · rename_i hb
      simp only [Option.some.injEq, Prod.mk.injEq] at h
      obtain ⟨rfl, rfl⟩ := h
      exact ⟨r, by rw [u8_eq (b := 34) hb]; rfl, rfl⟩
    · rename_i hb
      split at h
      · cases h
      · rename_i hr
        split at h
        · rename_i hne
          cases hp : parQ r with
          | none => rw [hp] at h; cases h
          | some p =>
            obtain ⟨v2, n2⟩ := p
            rw [hp] at h
            simp only [Option.map_some, Option.some.injEq, Prod.mk.injEq] at h
            obtain ⟨rfl, rfl⟩ := h
            obtain ⟨rest, e1, e2⟩ := parQ_form r v2 n2 hp
            have e : quoL (b :: v2) = b :: quoL v2 := by
              have : quoB b = [b] := by unfold quoB; rw [if_neg (by omega), if_pos (by omega)]
              simp [quoL, this]
            exact ⟨rest, by rw [e, e1]; rfl, by rw [e, e2]; rfl⟩
        · rename_i h92
          have h92 : b.toNat = 92 := by omega
          have eb : b = 92 := u8_eq h92
          match r, h with
          | [], h => simp at h
          | c :: r2, h =>
            simp only at h
            split at h
            · rename_i hc
              cases hp : parQ r2 with
              | none => rw [hp] at h; cases h
              | some p =>
                obtain ⟨v2, n2⟩ := p
                rw [hp] at h
                simp only [Option.map_some, Option.some.injEq, Prod.mk.injEq] at h
                obtain ⟨rfl, rfl⟩ := h
                obtain ⟨rest, e1, e2⟩ := parQ_form r2 v2 n2 hp
                have e : quoL (c :: v2) = 92 :: c :: quoL v2 := by
                  have : quoB c = [92, c] := by unfold quoB; rw [if_pos hc]
                  simp [quoL, this]
                exact ⟨rest, by rw [e, e1, eb]; rfl, by rw [e, e2]; rfl⟩
            · rename_i hc
              match r2, h with
              | [], h => simp at h
              | [_], h => simp at h
              | hh :: ll :: r3, h =>
                simp only at h
                split at h
                · cases h
                · rename_i hx
                  split at h
                  · rename_i hv
                    obtain ⟨v1, v2', v3⟩ := hv
                    cases hp : parQ r3 with
                    | none => rw [hp] at h; cases h
                    | some p =>
                      obtain ⟨v2, n2⟩ := p
                      rw [hp] at h
                      simp only [Option.map_some, Option.some.injEq, Prod.mk.injEq] at h
                      obtain ⟨rfl, rfl⟩ := h
                      obtain ⟨rest, e1, e2⟩ := parQ_form r3 v2 n2 hp
                      have hval : (UInt8.ofNat (hexV hh * 16 + hexV ll)).toNat = hexV hh * 16 + hexV ll := by simp; omega
                      have e : quoL (UInt8.ofNat (hexV hh * 16 + hexV ll) :: v2) = 92 :: 120 :: hh :: ll :: quoL v2 := by
                        have : quoB (UInt8.ofNat (hexV hh * 16 + hexV ll)) = [92, 120, hh, ll] := by
                          unfold quoB
                          rw [hval, if_neg (by omega), if_neg v3, show (hexV hh * 16 + hexV ll) / 16 = hexV hh by omega, show (hexV hh * 16 + hexV ll) % 16 = hexV ll by omega, hexD_V v1, hexD_V v2']
                        rw [quoL, List.flatMap_cons, this]; rfl
                      have ec : c = 120 := u8_eq (by
                        have : c.toNat = 120 := by omega
                        exact this)
                      exact ⟨rest, by rw [e, e1, eb, ec]; rfl, by rw [e, e2]; rfl⟩
                  · cases h
end Go.Proofs.YthncochjhbmceaaGreat

namespace Go.Proofs.YthncochjhbmceaaGreat
set_option maxRecDepth 100000

/-- the one form of a number -/
def uintL (v : Nat) : List UInt8 := if h : v < 128 then [UInt8.ofNat v] else UInt8.ofNat (v % 128 + 128) :: uintL (v / 128)
termination_by v
decreasing_by omega
theorem uintL_small {v : Nat} (h : v < 128) : uintL v = [UInt8.ofNat v] := by rw [uintL, dif_pos h]
theorem uintL_big {v : Nat} (h : ¬ v < 128) : uintL v = UInt8.ofNat (v % 128 + 128) :: uintL (v / 128) := by rw [uintL, dif_neg h]
theorem uintL_ne (v : Nat) : uintL v ≠ [] := by
  rw [uintL]; split <;> simp
theorem uintL_pos (v : Nat) : 0 < (uintL v).length := List.length_pos_iff.2 (uintL_ne v)
theorem uintL_len (k : Nat) : ∀ v, v < 128 ^ (k + 1) → (uintL v).length ≤ k + 1 := by
  induction k with
  | zero => intro v h; rw [uintL_small (by simpa using h)]; simp
  | succ k ih =>
    intro v h
    by_cases hv : v < 128
    · rw [uintL_small hv]; simp
    · rw [uintL_big hv, List.length_cons]
      have := ih (v / 128) (by rw [Nat.div_lt_iff_lt_mul (by decide)]; rw [Nat.pow_succ] at h; exact h)
      omega
theorem uintL_ten {v : Nat} (h : v < 18446744073709551616) : (uintL v).length ≤ 10 := uintL_len 9 v (by
  have : (128 : Nat) ^ (9 + 1) = 1180591620717411303424 := by decide
  omega)
/-- what stands at the head of the bytes, the i-th of a number's and those behind: the value, how many bytes, the error -/
def ruL : Nat → List UInt8 → Nat × Nat × Int
  | _, [] => (0, 0, 20)
  | i, b :: l => if (i = 9 ∧ 1 < b.toNat) ∨ (0 < i ∧ b.toNat = 0) then (0, 0, 21) else if b.toNat < 128 then (b.toNat, 1, 0) else
      if (ruL (i + 1) l).2.2 = 0 then ((ruL (i + 1) l).1 * 128 + b.toNat % 128, (ruL (i + 1) l).2.1 + 1, 0) else (0, 0, (ruL (i + 1) l).2.2)
theorem ruL_cons (i : Nat) (b : UInt8) (l : List UInt8) : ruL i (b :: l) = if (i = 9 ∧ 1 < b.toNat) ∨ (0 < i ∧ b.toNat = 0) then (0, 0, 21) else if b.toNat < 128 then (b.toNat, 1, 0) else
      if (ruL (i + 1) l).2.2 = 0 then ((ruL (i + 1) l).1 * 128 + b.toNat % 128, (ruL (i + 1) l).2.1 + 1, 0) else (0, 0, (ruL (i + 1) l).2.2) := rfl
theorem ruL_err (i : Nat) (l : List UInt8) : (ruL i l).2.2 = 0 ∨ (ruL i l = (0, 0, 20) ∨ ruL i l = (0, 0, 21)) := by
  induction l generalizing i with
  | nil => exact .inr (.inl rfl)
  | cons b l ih =>
    rw [ruL_cons]
    split
    · exact .inr (.inr rfl)
    · split
      · exact .inl rfl
      · split
        · exact .inl rfl
        · rename_i h
          rcases ih (i + 1) with h1 | h1 | h1
          · exact absurd h1 h
          · rw [h1]; exact .inr (.inl rfl)
          · rw [h1]; exact .inr (.inr rfl)
/-- a number's bytes are read as the number -/
theorem ruL_uint (rest : List UInt8) (i : Nat) : ∀ (v : Nat), i ≤ 9 → v * 128 ^ i < 18446744073709551616 → (i = 0 ∨ v ≠ 0) → ruL i (uintL v ++ rest) = (v, (uintL v).length, 0) := by
  intro v
  induction v using Nat.strongRecOn generalizing i with
  | _ v ih =>
    intro hi hv h0
    by_cases hs : v < 128
    · rw [uintL_small hs, List.cons_append, ruL_cons]
      have hb : (UInt8.ofNat v).toNat = v := by simp; omega
      rw [hb]
      have hno : ¬ ((i = 9 ∧ 1 < v) ∨ (0 < i ∧ v = 0)) := by
        rintro (⟨rfl, h⟩ | ⟨h, h'⟩)
        · have : (128 : Nat) ^ 9 = 9223372036854775808 := by decide
          rw [this] at hv
          omega
        · omega
      rw [if_neg hno, if_pos hs]
      rfl
    · rw [uintL_big hs, List.cons_append, ruL_cons]
      have hb : (UInt8.ofNat (v % 128 + 128)).toNat = v % 128 + 128 := by simp; omega
      rw [hb]
      have h9 : i ≠ 9 := fun e => by
        subst e
        have : (128 : Nat) ^ 9 = 9223372036854775808 := by decide
        rw [this] at hv
        omega
      have hno : ¬ ((i = 9 ∧ 1 < v % 128 + 128) ∨ (0 < i ∧ v % 128 + 128 = 0)) := by omega
      rw [if_neg hno, if_neg (by omega)]
      have hd : v / 128 * 128 ^ (i + 1) < 18446744073709551616 := by
        have : v / 128 * 128 ^ (i + 1) = v / 128 * 128 * 128 ^ i := by rw [Nat.pow_succ, Nat.mul_comm (128 ^ i), Nat.mul_assoc]
        rw [this]
        exact Nat.lt_of_le_of_lt (Nat.mul_le_mul_right _ (Nat.div_mul_le_self _ _)) hv
      rw [ih (v / 128) (by omega) (i + 1) (by omega) hd (by omega)]
      simp only [if_true, List.length_cons]
      have e : v / 128 * 128 + (v % 128 + 128) % 128 = v := by omega
      rw [e]
/-- what is read is the one form of its value -/
theorem ruL_form (i : Nat) (l : List UInt8) : ∀ (v c : Nat), i ≤ 9 → ruL i l = (v, c, 0) → l.take c = uintL v ∧ c ≤ l.length ∧ v * 128 ^ i < 18446744073709551616 ∧ (i = 0 ∨ v ≠ 0) ∧ c = (uintL v).length := by
  induction l generalizing i with
  | nil => intro v c _ h; simp [ruL] at h
  | cons b l ih =>
    intro v c hi h
    rw [ruL_cons] at h
    split at h
    · simp at h
    · rename_i hno
      have hb := b.toNat_lt
      split at h
      · rename_i hs
        simp only [Prod.mk.injEq] at h
        obtain ⟨rfl, rfl, _⟩ := h
        rw [uintL_small hs]
        refine ⟨by simp, by simp, ?_, by omega, rfl⟩
        have hp : (128 : Nat) ^ i ≤ 128 ^ 9 := Nat.pow_le_pow_right (by decide) hi
        have h9 : (128 : Nat) ^ 9 = 9223372036854775808 := by decide
        rcases Nat.lt_or_ge i 9 with h | h
        · have hp : (128 : Nat) ^ i ≤ 128 ^ 8 := Nat.pow_le_pow_right (by decide) (by omega)
          have h8 : (128 : Nat) ^ 8 = 72057594037927936 := by decide
          have : b.toNat * 128 ^ i ≤ 127 * 128 ^ 8 := Nat.mul_le_mul (by omega) hp
          omega
        · have : i = 9 := by omega
          subst this
          rw [h9]; omega
      · rename_i hs
        split at h
        · rename_i he
          simp only [Prod.mk.injEq] at h
          obtain ⟨h1, h2, _⟩ := h
          have hi9 : i ≠ 9 := by omega
          obtain ⟨k1, k2, k3, k4, k5⟩ := ih (i + 1) (ruL (i + 1) l).1 (ruL (i + 1) l).2.1 (by omega) (by
            rw [← he])
          generalize (ruL (i + 1) l).1 = v' at *
          generalize (ruL (i + 1) l).2.1 = c' at *
          subst h1 h2
          have hv0 : v' ≠ 0 := by omega
          have hbig : ¬ (v' * 128 + b.toNat % 128) < 128 := by omega
          rw [uintL_big hbig]
          have e1 : (v' * 128 + b.toNat % 128) / 128 = v' := by omega
          have e2 : (v' * 128 + b.toNat % 128) % 128 + 128 = b.toNat := by omega
          rw [e1, e2]
          refine ⟨?_, by simp; omega, ?_, by omega, by rw [List.length_cons, ← k5]⟩
          · rw [List.take_succ_cons, k1]; simp
          · have e3 : v' * 128 ^ (i + 1) = v' * 128 * 128 ^ i := by rw [Nat.pow_succ, Nat.mul_comm (128 ^ i), Nat.mul_assoc]
            rw [e3] at k3
            -- both are multiples: v'*128^(i+1) < 2^64 leaves room below the next multiple of 128^i * 128
            have hdvd : ∃ q, 18446744073709551616 = q * (128 * 128 ^ i) ∨ i = 8 := by
              rcases Nat.lt_or_ge i 8 with h | h
              · refine ⟨18446744073709551616 / (128 * 128 ^ i), .inl ?_⟩
                have : i = 0 ∨ i = 1 ∨ i = 2 ∨ i = 3 ∨ i = 4 ∨ i = 5 ∨ i = 6 ∨ i = 7 := by omega
                rcases this with rfl | rfl | rfl | rfl | rfl | rfl | rfl | rfl <;> decide
              · exact ⟨0, .inr (by omega)⟩
            obtain ⟨q, hq | rfl⟩ := hdvd
            · have hp : 0 < 128 * 128 ^ i := Nat.mul_pos (by decide) (Nat.pow_pos (by decide))
              have e4 : v' * 128 * 128 ^ i = v' * (128 * 128 ^ i) := Nat.mul_assoc ..
              rw [e4, hq] at k3
              have hlt : v' < q := Nat.lt_of_mul_lt_mul_right k3
              rw [hq, Nat.add_mul, e4]
              have : b.toNat % 128 * 128 ^ i < 128 * 128 ^ i := Nat.mul_lt_mul_of_pos_right (by omega) (Nat.pow_pos (by decide))
              have h5 : (v' + 1) * (128 * 128 ^ i) ≤ q * (128 * 128 ^ i) := Nat.mul_le_mul_right _ hlt
              rw [Nat.add_mul, Nat.one_mul] at h5
              omega
            · have h8 : (128 : Nat) ^ 8 = 72057594037927936 := by decide
              rw [h8] at k3 ⊢
              clear h8 ih
              have hv1 : v' < 2 := by
                rcases Nat.lt_or_ge v' 2 with h | h
                · exact h
                · have := Nat.mul_le_mul_right 72057594037927936 (Nat.mul_le_mul_right 128 h)
                  omega
              have hle : v' * 128 + b.toNat % 128 ≤ 255 := by omega
              exact Nat.lt_of_le_of_lt (Nat.mul_le_mul_right _ hle) (by decide)
        · rename_i he
          simp only [Prod.mk.injEq] at h
          exact absurd h.2.2 he
/-- the number that is written at the place at, and the place behind it -/
def readU (s : List UInt8) (at_ : Int) : Nat × Int × Int :=
  if at_ < 0 ∨ (s.length : Int) ≤ at_ then (0, 0, 20) else if (ruL 0 (s.drop at_.toNat)).2.2 = 0 then ((ruL 0 (s.drop at_.toNat)).1, at_ + (ruL 0 (s.drop at_.toNat)).2.1, 0) else (0, 0, (ruL 0 (s.drop at_.toNat)).2.2)
theorem readU_err (s : List UInt8) (at_ : Int) : (readU s at_).2.2 = 0 ∨ readU s at_ = (0, 0, 20) ∨ readU s at_ = (0, 0, 21) := by
  unfold readU
  split
  · exact .inr (.inl rfl)
  · split
    · exact .inl rfl
    · rename_i h
      rcases ruL_err 0 (s.drop at_.toNat) with h1 | h1 | h1
      · exact absurd h1 h
      · rw [h1]; exact .inr (.inl rfl)
      · rw [h1]; exact .inr (.inr rfl)
theorem readU_ok {s : List UInt8} {at_ : Int} {v : Nat} {n : Int} (h : readU s at_ = (v, n, 0)) : 0 ≤ at_ ∧ n = at_ + (uintL v).length ∧ n ≤ s.length ∧ v < 18446744073709551616 ∧ (s.drop at_.toNat).take (uintL v).length = uintL v := by
  unfold readU at h
  split at h
  · simp at h
  · rename_i hr
    split at h
    · rename_i he
      simp only [Prod.mk.injEq] at h
      obtain ⟨h1, h2, _⟩ := h
      obtain ⟨k1, k2, k3, _, k5⟩ := ruL_form 0 (s.drop at_.toNat) _ _ (by decide) (by rw [← he])
      rw [h1] at k1 k3 k5
      rw [k5] at k1 k2 h2
      rw [List.length_drop] at k2
      refine ⟨by omega, by omega, by omega, by simpa using k3, k1⟩
    · rename_i he
      simp only [Prod.mk.injEq] at h
      exact absurd h.2.2 he
theorem readU_at {s : List UInt8} {at_ : Int} {v : Nat} {rest : List UInt8} (h0 : 0 ≤ at_) (h : s.drop at_.toNat = uintL v ++ rest) (hv : v < 18446744073709551616) : readU s at_ = (v, at_ + (uintL v).length, 0) := by
  have hl : (s.drop at_.toNat).length = (uintL v).length + rest.length := by rw [h, List.length_append]
  rw [List.length_drop] at hl
  have := uintL_pos v
  unfold readU
  rw [if_neg (by omega), h, ruL_uint rest 0 v (by decide) (by simpa using hv) (.inl rfl)]
  rfl
/-- a number with a sign as one without -/
def zz (v : Int) : Nat := if 0 ≤ v then (2 * v).toNat else (-(2 * v) - 1).toNat
def unzz (n : Nat) : Int := if n % 2 = 0 then (n / 2 : Nat) else -((n / 2 : Nat) : Int) - 1
theorem unzz_zz (v : Int) : unzz (zz v) = v := by
  unfold unzz zz
  split <;> split <;> omega
theorem zz_unzz (n : Nat) : zz (unzz n) = n := by
  unfold unzz zz
  split <;> split <;> omega
theorem zz_lt {v : Int} (h : -9223372036854775808 ≤ v) (h2 : v < 9223372036854775808) : zz v < 18446744073709551616 := by
  unfold zz
  split <;> omega
theorem unzz_in {n : Nat} (h : n < 18446744073709551616) : -9223372036854775808 ≤ unzz n ∧ unzz n < 9223372036854775808 := by
  unfold unzz
  split <;> omega
def intL (v : Int) : List UInt8 := uintL (zz v)
def readI (s : List UInt8) (at_ : Int) : Int × Int × Int := if (readU s at_).2.2 = 0 then (unzz (readU s at_).1, (readU s at_).2.1, 0) else (0, 0, (readU s at_).2.2)
end Go.Proofs.YthncochjhbmceaaGreat

namespace Go.Proofs.YthncochjhbmceaaGreat
set_option maxRecDepth 100000
open Go.RowKit Go.Shelf

theorem sizeBld : (Tryz.prog.info? 178).map (·.size) = some 2 := by kernel_rfl
theorem liesBld : liesAt Tryz.prog Tryz.prog.depth 178 (2 / Tryz.prog.cellsOf 178) 0 178 1 = true := by kernel_rfl

set_option maxHeartbeats 1000000 in
theorem bldCheck_used (b : Nat) (w : World) (h0 : w.cell? ⟨b, 0, none⟩ = some (.pointer (some ⟨b, 0, none⟩))) :
    Calls Tryz.prog 108 #[.pointer (some ⟨b, 0, none⟩)] w fun e w' => e = .returned (.tuple #[]) ∧ w' = w := by
  obtain ⟨j, hj, _⟩ := Option.map_eq_some_iff.1 sizeBld
  have HN := Lib.run_neq_ptr_same w ⟨b, 0, none⟩ Tryz.underlying175 hj
  go_enter Tryz.func108, Tryz.ntmps108
  go_wp2_with fail
  go_end0
  exact ⟨rfl, rfl⟩

set_option maxHeartbeats 1000000 in
theorem bldCheck_fresh (b : Nat) (w : World) (h0 : w.cell? ⟨b, 0, none⟩ = some (.pointer none)) (hsh : w.shape? b = some (178, 2)) (hfz : w.frozen? ⟨b, 0, none⟩ = false) :
    Calls Tryz.prog 108 #[.pointer (some ⟨b, 0, none⟩)] w fun e w' => e = .returned (.tuple #[]) ∧ w' = w.setCell ⟨b, 0, none⟩ (.pointer (some ⟨b, 0, none⟩)) := by
  obtain ⟨j, hj, hjs⟩ := Option.map_eq_some_iff.1 sizeBld
  go_enter Tryz.func108, Tryz.ntmps108
  go_wp2_with fail
  rw [Lib.run_to_unsafe w ⟨b, 0, none⟩ Tryz.underlying175 Tryz.underlying290 hj (by rw [hjs]; decide) hsh (Nat.zero_lt_succ 1)]
  simp only [Result.andThen]
  rw [Oper.upon_value]
  go_wp2_with fail
  rw [run_callFunc_extern Tryz.func151 (by kernel_rfl) (by kernel_rfl) (by kernel_rfl) (e := Extern.AbiNoEscape.same) (by kernel_rfl)]
  rw [Lib.run_noEscape]
  simp only [Result.andThen]
  rw [Oper.upon_value]
  go_wp2_with fail
  rw [Lib.run_from_unsafe w ⟨b, 0, none⟩ Tryz.underlying290 Tryz.underlying175 hj hsh liesBld]
  simp only [Result.andThen]
  rw [Oper.upon_value]
  go_wp2_with fail
  go_end0
  exact ⟨rfl, rfl⟩

/-- blocks of other types than a builder's and a byte row's are as they were -/
def Others (w w' : World) : Prop := ∀ (j : Nat) (cs : Array Value) (T : TypeId) (fr : Nat × Nat), w.heap[j]? = some (.cells cs T fr) → T ≠ 5 → T ≠ 178 → w'.heap[j]? = some (.cells cs T fr)
theorem Others.trans {a b c : World} (h : Others a b) (k : Others b c) : Others a c := fun j cs T fr h1 h2 h3 => k j cs T fr (h j cs T fr h1 h2 h3) h2 h3
theorem Others.refl (a : World) : Others a a := fun _ _ _ _ h _ _ => h
theorem Others.put {w : World} {b o : Nat} {c : Array Value} {u : Value} (hb : w.heap[b]? = some (.cells c 178 (0, 0))) : Others w (w.setCell ⟨b, o, none⟩ u) := fun j cs T fr h1 _ h3 => by
  rw [Below.heap_setCell w ⟨b, o, none⟩ u j (fun e => by
    have e' : j = b := e
    rw [e', hb] at h1
    simp only [Option.some.injEq, Obj.cells.injEq] at h1
    exact h3 h1.2.1.symm)]
  exact h1
theorem Others.alloc (w : World) (o : Obj) : Others w (w.alloc o) := fun j cs T fr h1 _ _ => by
  have hl : j < w.heap.size := by
    rcases Nat.lt_or_ge j w.heap.size with h | h
    · exact h
    · simp [Array.getElem?_eq_none h] at h1
  rw [Below.heap_alloc w o j hl]
  exact h1
theorem Others.grown {w w' : World} {B n : Nat} {v : Value} {xs : List Value} (hown : w.ownsRow B 5 1 v n xs) (hg : w.grownBy w' v.ownBlock) : Others w w' := fun j cs T fr h1 h2 _ => by
  have hl : j < w.heap.size := by
    rcases Nat.lt_or_ge j w.heap.size with h | h
    · exact h
    · simp [Array.getElem?_eq_none h] at h1
  rw [hg.block j hl (fun e => Lib.ownBlock_ne hown h1 h2 e.symm)]
  exact h1

theorem bldCheck_any (B b : Nat) (bs : List Value) (w : World) (h : Lib.IsBuilder 178 5 B b bs w) :
    Calls Tryz.prog 108 #[.pointer (some ⟨b, 0, none⟩)] w fun e w' => e = .returned (.tuple #[]) ∧ Lib.BuilderAt 178 5 B b (.pointer (some ⟨b, 0, none⟩)) bs w' ∧ Below B w w' ∧ Others w w' := by
  rcases h with h | h
  · refine (bldCheck_fresh b w h.cell0 h.shape h.frozen0).mono ?_
    rintro e w' ⟨rfl, rfl⟩
    obtain ⟨_, _, hbk, _⟩ := id h
    exact ⟨rfl, h.used _, (Below.refl B w).setCell (p := ⟨b, 0, none⟩) h.1 _, Others.put hbk⟩
  · refine (bldCheck_used b w h.cell0).mono ?_
    rintro e w' ⟨rfl, rfl⟩
    exact ⟨rfl, h, Below.refl B _, Others.refl _⟩

theorem infoByte : (Tryz.prog.info? 5).map (fun i => (i.zero, i.size, i.bytes)) = some (some (.int .u8 0), 1, 1) := by kernel_rfl

set_option maxHeartbeats 2000000 in
theorem bldStr_any (B b : Nat) (bs : List Value) (s : ByteArray) (w : World) (h : Lib.IsBuilder 178 5 B b bs w) (hlen : bs.length + s.size ≤ 140737488355328) (hBw : B ≤ w.heap.size) :
    Calls Tryz.prog 62 #[.pointer (some ⟨b, 0, none⟩), .string s] w fun e w' => e = .returned (.tuple #[.int .i64 s.size, .nilIface]) ∧ Lib.BuilderAt 178 5 B b (.pointer (some ⟨b, 0, none⟩)) (bs ++ Lib.strCells s) w' ∧ Below B w w' ∧ Others w w' := by
  obtain ⟨i0, hi, hz0, hz1, hz2⟩ := info_parts infoByte
  have HC := bldCheck_any B b bs w h
  go_enter Tryz.func62, Tryz.ntmps62
  go_wp2_with fail
  refine HC.mono ?_
  rintro e w1 ⟨rfl, h1, hb1, ho1⟩
  obtain ⟨hB, v, hbk, hown, hne⟩ := h1
  have c0 : w1.cell? ⟨b, 0, none⟩ = some (.pointer (some ⟨b, 0, none⟩)) := by rw [Lib.cell_of_heap hbk]; rfl
  have c1 : w1.cell? ⟨b, 1, none⟩ = some v := by rw [Lib.cell_of_heap hbk]; rfl
  go_wp2_with (at_builtin; refine Lib.wpList_append_own_string _ rfl _ _ 176 9 rfl B 5 i0 Tryz.underlying176 Tryz.underlying9 hi hz0 hz1 hz2 _ _ _ rfl hown s rfl ?c3 ?c4 ?c5 ?_)
  case c3 => unfold maxLen; omega
  case c4 => omega
  case c5 => have := hb1.size; omega
  intro v' w2 hown' hgrow _
  have hlt : b < w1.heap.size := by
    rcases Nat.lt_or_ge b w1.heap.size with h' | h'
    · exact h'
    · simp [Array.getElem?_eq_none h'] at hbk
  have hb2 : w2.heap[b]? = some (.cells #[.pointer (some ⟨b, 0, none⟩), v] 178 (0, 0)) := by
    rw [hgrow.block b hlt (fun e => hne e.symm)]
    exact hbk
  have d0 : w2.cell? ⟨b, 0, none⟩ = some (.pointer (some ⟨b, 0, none⟩)) := by rw [Lib.cell_of_heap hb2]; rfl
  have d1 : w2.cell? ⟨b, 1, none⟩ = some v := by rw [Lib.cell_of_heap hb2]; rfl
  have f1 : w2.frozen? ⟨b, 1, none⟩ = false := Lib.frozen_of_heap hb2 1
  obtain ⟨ao, n', cap, rfl⟩ : ∃ ao n' cap, v' = .slice ao n' cap := by
    rcases hown'.2 with ⟨hv, _⟩ | ⟨g, cap, cur, hv, _⟩
    · exact ⟨_, _, _, hv⟩
    · exact ⟨_, _, _, hv⟩
  go_wp2
  go_ret2
  refine ⟨rfl, ?_, ?_, ?_⟩
  · exact Lib.BuilderAt.put (T := 178) (e := 5) hB hb2 (bs' := bs ++ Lib.strCells s) (by simpa [Lib.strCells_length] using hown') (by decide)
  · exact (hb1.grown hgrow (by have := hb1.size; omega) (fun k hk => (hown.lt k hk).1)).setCell (p := ⟨b, 1, none⟩) hB _
  · exact ho1.trans ((Others.grown hown hgrow).trans (Others.put hb2))

set_option maxHeartbeats 2000000 in
theorem bldByte_any (B b : Nat) (bs : List Value) (c : Int) (w : World) (h : Lib.IsBuilder 178 5 B b bs w) (hlen : bs.length + 1 ≤ 140737488355328) (hBw : B ≤ w.heap.size) :
    Calls Tryz.prog 109 #[.pointer (some ⟨b, 0, none⟩), .int .u8 c] w fun e w' => e = .returned .nilIface ∧ Lib.BuilderAt 178 5 B b (.pointer (some ⟨b, 0, none⟩)) (bs ++ [.int .u8 c]) w' ∧ Below B w w' ∧ Others w w' := by
  obtain ⟨i0, hi, hz0, hz1, hz2⟩ := info_parts infoByte
  have HC := bldCheck_any B b bs w h
  go_enter Tryz.func109, Tryz.ntmps109
  go_wp2_with fail
  refine HC.mono ?_
  rintro e w1 ⟨rfl, h1, hb1, ho1⟩
  obtain ⟨hB, v, hbk, hown, hne⟩ := h1
  have c0 : w1.cell? ⟨b, 0, none⟩ = some (.pointer (some ⟨b, 0, none⟩)) := by rw [Lib.cell_of_heap hbk]; rfl
  have c1 : w1.cell? ⟨b, 1, none⟩ = some v := by rw [Lib.cell_of_heap hbk]; rfl
  go_wp2_with (at_builtin; refine wpList_append_own _ rfl _ _ 176 rfl B 5 i0 (.int .u8 0) 1 1 Tryz.underlying176 hi hz0 hz1 hz2 rfl (by decide) _ _ _ rfl (hown.alloc _) ⟨w1.heap.size, 0, none⟩ 1 1 [.int .u8 c] rfl rfl ?c1 ?c2 ?c3 ?c4 ?c5 ?_)
  case c1 =>
    intro j u hj
    match j, hj with
    | 0, hj => simp at hj; subst hj; simp [Addr.add]
  case c2 => intro u hu; simp at hu; subst hu; rfl
  case c3 => unfold maxLen; omega
  case c4 => omega
  case c5 => have := hb1.size; simp; omega
  intro v' w2 hown' hgrow _
  have hlt : b < w1.heap.size := by
    rcases Nat.lt_or_ge b w1.heap.size with h' | h'
    · exact h'
    · simp [Array.getElem?_eq_none h'] at hbk
  have hb2 : w2.heap[b]? = some (.cells #[.pointer (some ⟨b, 0, none⟩), v] 178 (0, 0)) := by
    rw [hgrow.block b (by simp; omega) (fun e => hne e.symm), Lib.alloc_old w1 _ b hlt]
    exact hbk
  have d0 : w2.cell? ⟨b, 0, none⟩ = some (.pointer (some ⟨b, 0, none⟩)) := by rw [Lib.cell_of_heap hb2]; rfl
  have d1 : w2.cell? ⟨b, 1, none⟩ = some v := by rw [Lib.cell_of_heap hb2]; rfl
  have f1 : w2.frozen? ⟨b, 1, none⟩ = false := Lib.frozen_of_heap hb2 1
  obtain ⟨g, cap, rfl⟩ : ∃ g cap, v' = .slice (some ⟨g, 0, none⟩) (bs.length + 1) cap := by
    rcases hown'.2 with ⟨_, h0⟩ | ⟨g, cap, cur, hv, _⟩
    · omega
    · exact ⟨g, cap, hv⟩
  go_wp2
  go_ret
  refine ⟨rfl, ?_, ?_, ?_⟩
  · exact Lib.BuilderAt.put (T := 178) (e := 5) hB hb2 (bs' := bs ++ [.int .u8 c]) (by simpa using hown') (by decide)
  · exact ((hb1.alloc (by have := hb1.size; omega) _).grown hgrow (by have := hb1.size; simp; omega) (fun k hk => (hown.lt k hk).1)).setCell (p := ⟨b, 1, none⟩) hB _
  · exact ho1.trans ((Others.alloc _ _).trans ((Others.grown (hown.alloc _) hgrow).trans (Others.put hb2)))

set_option maxHeartbeats 1000000 in
theorem bldString_any (B b : Nat) (l : List UInt8) (w : World) (h : Lib.IsBuilder 178 5 B b (Lib.byteCells l) w) (h0 : l ≠ []) :
    Calls Tryz.prog 65 #[.pointer (some ⟨b, 0, none⟩)] w fun e w' => e = .returned (.string ⟨l.toArray⟩) ∧ Below B w w' := by
  obtain ⟨p, hB, v, hbk, hown, hne⟩ : ∃ p, Lib.BuilderAt 178 5 B b p (Lib.byteCells l) w := by
    rcases h with h | h
    · exact ⟨_, h⟩
    · exact ⟨_, h⟩
  have hl0 : l.length ≠ 0 := by simpa using h0
  rw [Lib.byteCells_length] at hown
  obtain ⟨g, cap, cur, rfl, hbg, hg, hnc, hcm, hcs, htake⟩ : ∃ g cap cur, v = .slice (some ⟨g, 0, none⟩) l.length cap ∧ B ≤ g ∧ w.heap[g]? = some (.cells cur 5 (0, 0)) ∧ l.length ≤ cap ∧ cap ≤ maxLen ∧ cur.size = cap * 1 ∧ cur.toList.take (l.length * 1) = Lib.byteCells l := by
    rcases hown.2 with ⟨_, hz⟩ | ⟨g, cap, cur, hv, r⟩
    · exact absurd hz hl0
    · exact ⟨g, cap, cur, hv, r⟩
  have c1 : w.drew.cell? ⟨b, 1, none⟩ = some (.slice (some ⟨g, 0, none⟩) l.length cap) := by
    have : w.drew.heap[b]? = some (.cells #[p, .slice (some ⟨g, 0, none⟩) l.length cap] 178 (0, 0)) := hbk
    rw [Lib.cell_of_heap this]; rfl
  have hSD : (Builtin.unsafeSliceData_ #[176] 240 #[.slice (some ⟨g, 0, none⟩) l.length cap]).run Tryz.prog w.drew = .ok (.pointer (some ⟨g, 0, none⟩)) w.drew :=
    Lib.run_unsafeSliceData_row _ _ _ _ _ _ (by omega)
  have hUS : (Builtin.unsafeString_ #[240, 3] 9 #[.pointer (some ⟨g, 0, none⟩), .int .i64 l.length]).run Tryz.prog w.drew = .ok (.string ⟨l.toArray⟩) (w.drew.freeze ⟨g, 0, none⟩ l.length) := by
    refine Lib.run_unsafeString_row w.drew 240 3 9 5 Tryz.underlying240 (by kernel_rfl) g cur.size (by have hg' : w.drew.heap[g]? = some (.cells cur 5 (0, 0)) := hg; simp [World.shape?, hg']) l h0 (by omega) (by unfold maxLen at hcm; omega) ?_
    intro j x hx
    have := hown.cells (g := g) rfl j (.int .u8 x.toNat) (by simp [Lib.byteCells, hx])
    exact this
  have mixed : Tryz.prog.follows Departure.mixedOrders = true := by kernel_rfl
  go_enter Tryz.func65, Tryz.ntmps65
  go_wp2
  go_region_o
  all_goals (go_wp2; go_ret; exact ⟨rfl, Lib.below_freeze (Below.drew (Below.refl B w)) (p := ⟨g, 0, none⟩) hbg _⟩)
end Go.Proofs.YthncochjhbmceaaGreat

namespace Go.Proofs.YthncochjhbmceaaGreat
set_option maxRecDepth 100000
open Go.RowKit Go.Shelf

theorem or128 (k : Nat) : bits .or .u8 ((k : Int) % 256) 128 = ((k % 128 + 128 : Nat) : Int) := by
  have e : (k : Int) % 256 = ((k % 256 : Nat) : Int) := by omega
  have hb := (bits_nat .u8 8 (by decide) wraps_u8 (k % 256) 128 (by omega) (by decide)).2
  have h : ∀ b : Fin 256, b.val ||| 128 = b.val % 128 + 128 := by decide
  have := h ⟨k % 256, by omega⟩
  simp only at this
  rw [e]
  refine hb.trans ?_
  rw [this]
  omega
theorem byteCells_one {b : Nat} (h : b < 256) : Lib.byteCells [UInt8.ofNat b] = [.int .u8 (b : Int)] := by
  simp [Lib.byteCells]; omega
theorem uintL_pre {pre l m : List UInt8} (h : pre ++ l = m) (h0 : 0 < l.length) : pre.length + 1 ≤ m.length := by
  rw [← h, List.length_append]; omega
theorem bld_new (w : World) : Lib.IsBuilder 178 5 w.heap.size w.heap.size (Lib.byteCells []) (w.alloc (.cells #[.pointer none, .slice none 0 0] 178)) :=
  .inl ⟨Nat.le_refl _, .slice none 0 0, Array.getElem?_push_size, World.ownsRow_nil _ _ _ _, by simp [Value.ownBlock]⟩

theorem bld_below {B b : Nat} {bs : List Value} {w w' : World} (h : Lib.IsBuilder 178 5 B b bs w) (hb : Below w.heap.size w w') : Lib.IsBuilder 178 5 B b bs w' := by
  rcases h with h | h
  · have hl := h.lt
    obtain ⟨h1, v, h2, h3, h4⟩ := h
    exact .inl ⟨h1, v, (hb.block b hl).trans h2, own_below h3 hb (Nat.le_refl _), h4⟩
  · have hl := h.lt
    obtain ⟨h1, v, h2, h3, h4⟩ := h
    exact .inr ⟨h1, v, (hb.block b hl).trans h2, own_below h3 hb (Nat.le_refl _), h4⟩

set_option maxHeartbeats 2000000 in
theorem uint_any (v : Nat) (w : World) (hv : v < 18446744073709551616) :
    Calls Tryz.prog 63 #[.int .u64 v] w fun e w' => e = .returned (.string ⟨(uintL v).toArray⟩) ∧ Below w.heap.size w w' := by
  go_enter Tryz.func63, Tryz.ntmps63
  go_wp2_with fail
  have hI : Lib.IsBuilder 178 5 w.heap.size w.heap.size (Lib.byteCells []) (w.alloc (.cells #[.pointer none, .slice none 0 0] 178)) := bld_new w
  have hB : Below w.heap.size w (w.alloc (.cells #[.pointer none, .slice none 0 0] 178)) := (Below.refl _ _).alloc (Nat.le_refl _) _
  generalize w.alloc (.cells #[.pointer none, .slice none 0 0] 178) = w1 at hI hB ⊢
  obtain ⟨g, hg⟩ : ∃ g, w.heap.size = g := ⟨_, rfl⟩
  rw [hg] at hI hB ⊢
  go_loopw [0] (fun x wr => ∃ (k : Nat) (pre : List UInt8), x = .int .u64 k ∧ k < 18446744073709551616 ∧ Lib.IsBuilder 178 5 g g (Lib.byteCells pre) wr ∧ Hid (pre ++ uintL k = uintL v) ∧ Below g w wr) (fun x _ => (intOf x).toNat)
  case atStart => exact ⟨v, [], rfl, hv, hI, hidden rfl, hB⟩
  case round =>
    obtain ⟨k, pre, rfl, hk, hb, hp, hbl⟩ := hrel
    by_cases hs : k < 128
    · have h1 : ¬ (127 : Int) < (k : Int) := by omega
      go_wp2_with fail
      have hpl := uintL_pre hp.out (by rw [uintL_small hs]; simp)
      refine (bldByte_any g g (Lib.byteCells pre) k wr hb (by rw [Lib.byteCells_length]; have := uintL_ten hv; omega) (by have := hbl.size; omega)).mono ?_
      rintro e w2 ⟨rfl, hb2, hbl2, _⟩
      have hby : Lib.byteCells pre ++ [.int .u8 (k : Int)] = Lib.byteCells (uintL v) := by rw [← hp.out, uintL_small hs, Lib.byteCells_append, byteCells_one (by omega)]
      rw [hby] at hb2
      go_wp2_with fail
      refine (bldString_any g g (uintL v) w2 (.inr hb2) (uintL_ne v)).mono ?_
      rintro e w3 ⟨rfl, hbl3⟩
      go_wp2_with fail
      go_ret
      subst hg; exact ⟨rfl, hbl.trans (hbl2.trans hbl3)⟩
    · have h1 : (127 : Int) < (k : Int) := by omega
      go_wp2_with fail
      have hor := or128 k
      have hpl := uintL_pre hp.out (List.length_pos_iff.2 (uintL_ne k))
      refine (bldByte_any g g (Lib.byteCells pre) _ wr hb (by rw [Lib.byteCells_length]; have := uintL_ten hv; omega) (by have := hbl.size; omega)).mono ?_
      rintro e w2 ⟨rfl, hb2, hbl2, _⟩
      rw [hor] at hb2
      have hby : Lib.byteCells pre ++ [.int .u8 ((k % 128 + 128 : Nat) : Int)] = Lib.byteCells (pre ++ [UInt8.ofNat (k % 128 + 128)]) := by rw [Lib.byteCells_append, byteCells_one (by omega)]
      rw [hby] at hb2
      have hp2 : Hid ((pre ++ [UInt8.ofNat (k % 128 + 128)]) ++ uintL (k / 128) = uintL v) := hidden (by rw [← hp.out, uintL_big hs, List.append_assoc]; rfl)
      have hbl4 := hbl.trans hbl2
      clear hb hbl hbl2 hor hpl hby hp
      go_wp2_with fail
      go_roundw
      case rel => exact ⟨k / 128, _, by go_num, by omega, .inr hb2, hp2, hbl4⟩
      case measure => simp [intOf]; omega

theorem u64_wrap64 (n : Int) : IntKind.u64.wrap (wrap64 n) = n % 18446744073709551616 := by
  rw [IntKind.wrap_u64]
  unfold wrap64
  omega
theorem zz_bits {v : Int} (h0 : -9223372036854775808 ≤ v) (h1 : v < 9223372036854775808) : bits .xor .u64 (IntKind.u64.wrap (wrap64 (v * 2))) (IntKind.u64.wrap (v / 9223372036854775808)) = (zz v : Nat) := by
  rw [u64_wrap64, IntKind.wrap_u64]
  by_cases hv : 0 ≤ v
  · have e1 : v * 2 % 18446744073709551616 = ((2 * v).toNat : Nat) := by omega
    have e2 : v / 9223372036854775808 % 18446744073709551616 = ((0 : Nat) : Int) := by omega
    rw [e1, e2, bits_xor_u64_nat _ _ (by omega) (by decide), Nat.xor_zero]
    simp [zz, hv]
  · have e1 : v * 2 % 18446744073709551616 = ((2 * v + 18446744073709551616).toNat : Nat) := by omega
    have e2 : v / 9223372036854775808 % 18446744073709551616 = ((2 ^ 64 - 1 : Nat) : Int) := by omega
    rw [e1, e2, bits_xor_u64_nat _ _ (by omega) (by decide), Nat.xor_comm, Lib.xor_ones64 _ (by omega)]
    unfold zz
    rw [if_neg hv]
    omega

set_option maxHeartbeats 1000000 in
theorem int_any (v : Int) (w : World) (h0 : -9223372036854775808 ≤ v) (h1 : v < 9223372036854775808) :
    Calls Tryz.prog 112 #[.int .i64 v] w fun e w' => e = .returned (.string ⟨(intL v).toArray⟩) ∧ Below w.heap.size w w' := by
  have HU := fun w => uint_any (zz v) w (zz_lt h0 h1)
  go_enter Tryz.func112, Tryz.ntmps112
  go_wp2_with fail
  rw [zz_bits h0 h1]
  refine (HU _).mono ?_
  rintro e w1 ⟨rfl, hb⟩
  go_wp2_with fail
  go_ret
  exact ⟨rfl, hb⟩
end Go.Proofs.YthncochjhbmceaaGreat
