/- Quotations, plainly: what a text is in quotation marks, and what such a quotation is read as. No program is walked here. -/
import Derived.Test.YtalnndenncnbdaaBase
namespace Go.Proofs.Ytalnndenncnbdaa
set_option maxRecDepth 100000

/-- a digit to the base 16 -/
def hexD (n : Nat) : UInt8 := if n < 10 then UInt8.ofNat (48 + n) else UInt8.ofNat (87 + n)
/-- one byte, quoted -/
def quoB (b : UInt8) : List UInt8 := if b.toNat = 34 ∨ b.toNat = 92 then [92, b] else if 32 ≤ b.toNat ∧ b.toNat ≤ 126 then [b] else [92, 120, hexD (b.toNat / 16), hexD (b.toNat % 16)]
def quoL (v : List UInt8) : List UInt8 := v.flatMap quoB
/-- a text in quotation marks -/
def quoteL (v : List UInt8) : List UInt8 := 34 :: (quoL v ++ [34])
theorem quoB_len (b : UInt8) : 1 ≤ (quoB b).length ∧ (quoB b).length ≤ 4 := by
  unfold quoB
  split
  · simp
  · split <;> simp
theorem quoL_len (v : List UInt8) : (quoL v).length ≤ 4 * v.length := by
  induction v with
  | nil => simp [quoL]
  | cons b v ih =>
    have := (quoB_len b).2
    simp only [quoL, List.flatMap_cons, List.length_append, List.length_cons] at ih ⊢
    omega
theorem quoL_snoc (v : List UInt8) (b : UInt8) : quoL (v ++ [b]) = quoL v ++ quoB b := by simp [quoL]
/-- the value of a digit, or 16 -/
def hexV (b : UInt8) : Nat := if 48 ≤ b.toNat ∧ b.toNat ≤ 57 then b.toNat - 48 else if 97 ≤ b.toNat ∧ b.toNat ≤ 102 then b.toNat - 87 else 16
theorem hexV_D {n : Nat} (h : n < 16) : hexV (hexD n) = n := by
  unfold hexV hexD
  by_cases h1 : n < 10
  · rw [if_pos h1]
    have e : (UInt8.ofNat (48 + n)).toNat = 48 + n := by simp; omega
    rw [e, if_pos (by omega)]; omega
  · rw [if_neg h1]
    have e : (UInt8.ofNat (87 + n)).toNat = 87 + n := by simp; omega
    rw [e, if_neg (by omega), if_pos (by omega)]; omega
theorem hexD_V {b : UInt8} (h : hexV b < 16) : hexD (hexV b) = b := by
  unfold hexV at h ⊢
  have hb := b.toNat_lt
  split
  · rename_i h1
    rw [hexD, if_pos (by omega), show 48 + (b.toNat - 48) = b.toNat by omega]; simp
  · split
    · rename_i h1 h2
      rw [hexD, if_neg (by omega), show 87 + (b.toNat - 87) = b.toNat by omega]; simp
    · rename_i h1 h2
      rw [if_neg h1, if_neg h2] at h; omega
/-- a quotation read, its opening mark behind us: the text, and how many bytes it took -/
def parQ : List UInt8 → Option (List UInt8 × Nat)
  | [] => none
  | b :: r =>
    if b.toNat = 34 then some ([], 1)
    else if b.toNat < 32 ∨ 126 < b.toNat then none
    else if b.toNat ≠ 92 then (parQ r).map fun p => (b :: p.1, p.2 + 1)
    else match r with
      | [] => none
      | c :: r2 =>
        if c.toNat = 34 ∨ c.toNat = 92 then (parQ r2).map fun p => (c :: p.1, p.2 + 2)
        else match r2 with
          | h :: l :: r3 =>
            if c.toNat ≠ 120 then none
            else if hexV h < 16 ∧ hexV l < 16 ∧ ¬ (32 ≤ hexV h * 16 + hexV l ∧ hexV h * 16 + hexV l ≤ 126) then (parQ r3).map fun p => (UInt8.ofNat (hexV h * 16 + hexV l) :: p.1, p.2 + 4)
            else none
          | _ => none
theorem parQ_cons (b : UInt8) (r : List UInt8) : parQ (b :: r) = (
    if b.toNat = 34 then some ([], 1)
    else if b.toNat < 32 ∨ 126 < b.toNat then none
    else if b.toNat ≠ 92 then (parQ r).map fun p => (b :: p.1, p.2 + 1)
    else match r with
      | [] => none
      | c :: r2 =>
        if c.toNat = 34 ∨ c.toNat = 92 then (parQ r2).map fun p => (c :: p.1, p.2 + 2)
        else match r2 with
          | h :: l :: r3 =>
            if c.toNat ≠ 120 then none
            else if hexV h < 16 ∧ hexV l < 16 ∧ ¬ (32 ≤ hexV h * 16 + hexV l ∧ hexV h * 16 + hexV l ≤ 126) then (parQ r3).map fun p => (UInt8.ofNat (hexV h * 16 + hexV l) :: p.1, p.2 + 4)
            else none
          | _ => none) := by rw [parQ.eq_def]
theorem u8_eq {a b : UInt8} (h : a.toNat = b.toNat) : a = b := UInt8.toNat_inj.1 h
/-- what is quoted is read back -/
theorem parQ_quo (rest : List UInt8) : ∀ v : List UInt8, parQ (quoL v ++ 34 :: rest) = some (v, (quoL v).length + 1)
  | [] => by
    show parQ (34 :: rest) = _
    rw [parQ_cons, if_pos (show UInt8.toNat 34 = 34 from rfl)]; rfl
  | b :: v => by
    have ih := parQ_quo rest v
    have e : quoL (b :: v) = quoB b ++ quoL v := by simp [quoL]
    rw [e, List.append_assoc]
    unfold quoB
    by_cases h1 : b.toNat = 34 ∨ b.toNat = 92
    · rw [if_pos h1]
      simp only [List.cons_append, List.nil_append, List.length_cons]
      rw [parQ_cons, if_neg (by decide), if_neg (by decide), if_neg (by decide)]
      dsimp only
      rw [if_pos h1, ih]
      simp
    · rw [if_neg h1]
      by_cases h2 : 32 ≤ b.toNat ∧ b.toNat ≤ 126
      · rw [if_pos h2]
        simp only [List.cons_append, List.nil_append, List.length_cons]
        rw [parQ_cons, if_neg (fun h => h1 (.inl h)), if_neg (by omega), if_pos (fun h => h1 (.inr h)), ih]
        simp
      · rw [if_neg h2]
        have hb := b.toNat_lt
        simp only [List.cons_append, List.nil_append, List.length_cons]
        rw [parQ_cons, if_neg (by decide), if_neg (by decide), if_neg (by decide)]
        dsimp only
        rw [if_neg (by decide)]
        try dsimp only
        rw [if_neg (by decide), hexV_D (by omega), hexV_D (by omega), if_pos ⟨by omega, by omega, by omega⟩, ih, show b.toNat / 16 * 16 + b.toNat % 16 = b.toNat by omega]
        simp
/-- what is read is the one quotation of its text -/
theorem parQ_form : ∀ (s v : List UInt8) (n : Nat), parQ s = some (v, n) → ∃ rest, s = quoL v ++ 34 :: rest ∧ n = (quoL v).length + 1
  | [], v, n, h => by simp [parQ] at h
  | b :: r, v, n, h => by
    rw [parQ_cons] at h
    split at h
    · rename_i hb
      simp only [Option.some.injEq, Prod.mk.injEq] at h
      obtain ⟨rfl, rfl⟩ := h
      exact ⟨r, by rw [u8_eq (b := 34) hb]; rfl, rfl⟩
    · rename_i hb
      split at h
      · cases h
      · rename_i hr
        split at h
        · rename_i hne
          cases hp : parQ r with
          | none => rw [hp] at h; cases h
          | some p =>
            obtain ⟨v2, n2⟩ := p
            rw [hp] at h
            simp only [Option.map_some, Option.some.injEq, Prod.mk.injEq] at h
            obtain ⟨rfl, rfl⟩ := h
            obtain ⟨rest, e1, e2⟩ := parQ_form r v2 n2 hp
            have e : quoL (b :: v2) = b :: quoL v2 := by
              have : quoB b = [b] := by unfold quoB; rw [if_neg (by omega), if_pos (by omega)]
              simp [quoL, this]
            exact ⟨rest, by rw [e, e1]; rfl, by rw [e, e2]; rfl⟩
        · rename_i h92
          have h92 : b.toNat = 92 := by omega
          have eb : b = 92 := u8_eq h92
          match r, h with
          | [], h => simp at h
          | c :: r2, h =>
            simp only at h
            split at h
            · rename_i hc
              cases hp : parQ r2 with
              | none => rw [hp] at h; cases h
              | some p =>
                obtain ⟨v2, n2⟩ := p
                rw [hp] at h
                simp only [Option.map_some, Option.some.injEq, Prod.mk.injEq] at h
                obtain ⟨rfl, rfl⟩ := h
                obtain ⟨rest, e1, e2⟩ := parQ_form r2 v2 n2 hp
                have e : quoL (c :: v2) = 92 :: c :: quoL v2 := by
                  have : quoB c = [92, c] := by unfold quoB; rw [if_pos hc]
                  simp [quoL, this]
                exact ⟨rest, by rw [e, e1, eb]; rfl, by rw [e, e2]; rfl⟩
            · rename_i hc
              match r2, h with
              | [], h => simp at h
              | [_], h => simp at h
              | hh :: ll :: r3, h =>
                simp only at h
                split at h
                · cases h
                · rename_i hx
                  split at h
                  · rename_i hv
                    obtain ⟨v1, v2', v3⟩ := hv
                    cases hp : parQ r3 with
                    | none => rw [hp] at h; cases h
                    | some p =>
                      obtain ⟨v2, n2⟩ := p
                      rw [hp] at h
                      simp only [Option.map_some, Option.some.injEq, Prod.mk.injEq] at h
                      obtain ⟨rfl, rfl⟩ := h
                      obtain ⟨rest, e1, e2⟩ := parQ_form r3 v2 n2 hp
                      have hval : (UInt8.ofNat (hexV hh * 16 + hexV ll)).toNat = hexV hh * 16 + hexV ll := by simp; omega
                      have e : quoL (UInt8.ofNat (hexV hh * 16 + hexV ll) :: v2) = 92 :: 120 :: hh :: ll :: quoL v2 := by
                        have : quoB (UInt8.ofNat (hexV hh * 16 + hexV ll)) = [92, 120, hh, ll] := by
                          unfold quoB
                          rw [hval, if_neg (by omega), if_neg v3, show (hexV hh * 16 + hexV ll) / 16 = hexV hh by omega, show (hexV hh * 16 + hexV ll) % 16 = hexV ll by omega, hexD_V v1, hexD_V v2']
                        rw [quoL, List.flatMap_cons, this]; rfl
                      have ec : c = 120 := u8_eq (by
                        have : c.toNat = 120 := by omega
                        exact this)
                      exact ⟨rest, by rw [e, e1, eb, ec]; rfl, by rw [e, e2]; rfl⟩
                  · cases h
end Go.Proofs.Ytalnndenncnbdaa
