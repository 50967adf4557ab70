/- The bytes of rising numbers, plainly: written, read, and back. No program. -/
import Derived.Test.YtnedgjdhpdejdaaReadP
namespace Go.Proofs.Ytnedgjdhpdejdaa
set_option maxRecDepth 100000

/-- one number more behind the bytes, the last number, and whether there is none yet -/
def stepE (st : Option (List UInt8 × Int × Bool)) (x : Int) : Option (List UInt8 × Int × Bool) := match st with
  | none => none
  | some (b, last, fst) => if x < 0 ∨ (fst = false ∧ x ≤ last) then none else some (b ++ uintL (x - last).toNat, x, false)
def encS (l : List Int) : Option (List UInt8 × Int × Bool) := l.foldl stepE (some ([], 0, true))
theorem encS_snoc (l : List Int) (x : Int) : encS (l ++ [x]) = stepE (encS l) x := by simp [encS]
theorem fold_none : ∀ l : List Int, l.foldl stepE none = none
  | [] => rfl
  | _ :: l => fold_none l
theorem encS_none {l : List Int} {k : Nat} (h : encS (l.take k) = none) : encS l = none := by
  rw [← List.take_append_drop k l, encS, List.foldl_append]
  show (l.drop k).foldl stepE (encS (l.take k)) = none
  rw [h]; exact fold_none _
/-- the bytes of numbers, or the error -/
def encN (l : List Int) : List UInt8 × Int := match encS l with
  | none => ([], 90)
  | some (b, _, _) => (uintL l.length ++ b, 0)
theorem encN_no {l : List Int} (h : encS l = none) : encN l = ([], 90) := by rw [encN, h]
theorem encN_yes {l : List Int} {b : List UInt8} {t : Int} {f : Bool} (h : encS l = some (b, t, f)) : encN l = (uintL l.length ++ b, 0) := by rw [encN, h]
theorem stepE_bad {b : List UInt8} {t x : Int} {f : Bool} (h : x < 0 ∨ (f = false ∧ x ≤ t)) : stepE (some (b, t, f)) x = none := if_pos h
theorem stepE_go {b : List UInt8} {t x : Int} {f : Bool} (h : ¬ (x < 0 ∨ (f = false ∧ x ≤ t))) : stepE (some (b, t, f)) x = some (b ++ uintL (x - t).toNat, x, false) := if_neg h

/-- the numbers that are read: so many, from this place on, behind these, the last of them -/
def decI (s : List UInt8) : Nat → Int → List Int → Nat → List Int × Int × Int
  | 0, a, out, _ => (out, a, 0)
  | k + 1, a, out, t => if (readU s a).2.2 = 0 then
      if (0 < out.length ∧ (readU s a).1 = 0) ∨ 4611686018427387904 - t < (readU s a).1 then ([], 0, 90)
      else decI s k (readU s a).2.1 (out ++ [((t + (readU s a).1 : Nat) : Int)]) (t + (readU s a).1)
    else ([], 0, (readU s a).2.2)
section
variable {s : List UInt8} {k d t : Nat} {a b e : Int} {out : List Int}
theorem decI_e (h : readU s a = (d, b, e)) (he : e ≠ 0) : decI s (k + 1) a out t = ([], 0, e) := by
  rw [decI, h]; exact if_neg he
theorem decI_bad (h : readU s a = (d, b, 0)) (hb : (0 < out.length ∧ d = 0) ∨ 4611686018427387904 - t < d) : decI s (k + 1) a out t = ([], 0, 90) := by
  rw [decI, h]; simp only [if_true]; exact if_pos hb
theorem decI_go (h : readU s a = (d, b, 0)) (hb : ¬ ((0 < out.length ∧ d = 0) ∨ 4611686018427387904 - t < d)) : decI s (k + 1) a out t = decI s k b (out ++ [((t + d : Nat) : Int)]) (t + d) := by
  rw [decI, h]; simp only [if_true]; exact if_neg hb
/-- the numbers that are read at a place, the place behind them, the error -/
def decN (s : List UInt8) (a : Int) : List Int × Int × Int := if (readU s a).2.2 = 0 then decI s (readU s a).1 (readU s a).2.1 [] 0 else ([], 0, (readU s a).2.2)
theorem decN_e (h : readU s a = (d, b, e)) (he : e ≠ 0) : decN s a = ([], 0, e) := by
  rw [decN, h]; exact if_neg he
theorem decN_go (h : readU s a = (d, b, 0)) : decN s a = decI s d b [] 0 := by
  rw [decN, h]; exact if_pos rfl
end
theorem readU_form {s : List UInt8} {a b : Int} {d : Nat} (h : readU s a = (d, b, 0)) : 0 ≤ a ∧ a < b ∧ b ≤ s.length ∧ d < 18446744073709551616 ∧ s.drop a.toNat = uintL d ++ s.drop b.toNat := by
  obtain ⟨p1, p2, p3, p4, p5⟩ := readU_ok h
  have hp := uintL_pos d
  refine ⟨p1, by omega, p3, p4, ?_⟩
  have := List.take_append_drop (uintL d).length (s.drop a.toNat)
  rw [p5, List.drop_drop, show a.toNat + (uintL d).length = b.toNat by omega] at this
  exact this.symm
theorem decI_form (s : List UInt8) : ∀ (k : Nat) (a : Int) (out : List Int) (t : Nat) (L : List Int) (b : Int) (B : List UInt8), decI s k a out t = (L, b, 0) → encS out = some (B, (t : Int), decide (out.length = 0)) → 0 ≤ a → a ≤ s.length → (out.length : Int) ≤ a →
    ∃ (C : List UInt8) (t2 : Int) (f : Bool), encS L = some (B ++ C, t2, f) ∧ L.length = out.length + k ∧ a ≤ b ∧ b ≤ s.length ∧ (L.length : Int) ≤ b ∧ s.drop a.toNat = C ++ s.drop b.toNat := by
  intro k
  induction k with
  | zero =>
    intro a out t L b B h h1 h2 h3 h4
    simp only [decI, Prod.mk.injEq, and_true] at h
    obtain ⟨rfl, rfl⟩ := h
    exact ⟨[], t, _, by rw [List.append_nil]; exact h1, rfl, Int.le_refl _, h3, h4, rfl⟩
  | succ k ih =>
    intro a out t L b B h h1 h2 h3 h4
    obtain ⟨d, p, e, r1⟩ : ∃ d b e, readU s a = (d, b, e) := ⟨_, _, _, rfl⟩
    by_cases he : e = 0
    · subst he
      by_cases hb : (0 < out.length ∧ d = 0) ∨ 4611686018427387904 - t < d
      · rw [decI_bad r1 hb] at h; simp at h
      · rw [decI_go r1 hb] at h
        obtain ⟨k1, k2, k3, k4, k5⟩ := readU_form r1
        have hs : encS (out ++ [((t + d : Nat) : Int)]) = some (B ++ uintL d, ((t + d : Nat) : Int), decide ((out ++ [((t + d : Nat) : Int)]).length = 0)) := by
          rw [encS_snoc, h1, stepE_go (by
            rintro (h | ⟨h, h'⟩)
            · omega
            · have := of_decide_eq_false h
              omega), show (((t + d : Nat) : Int) - (t : Int)).toNat = d by omega]
          simp
        obtain ⟨C, t2, f, g1, g2, g3, g4, g5, g6⟩ := ih p _ _ L b _ h hs (by omega) k3 (by simp; omega)
        refine ⟨uintL d ++ C, t2, f, by rw [g1, List.append_assoc], by rw [g2]; simp; omega, by omega, g4, g5, ?_⟩
        rw [k5, g6, List.append_assoc]
    · rw [decI_e r1 he] at h
      simp only [Prod.mk.injEq] at h
      exact absurd h.2.2 he
/-- what is read is written as the bytes that it was read from -/
theorem decN_form {s : List UInt8} {a b : Int} {L : List Int} (h : decN s a = (L, b, 0)) : 0 ≤ a ∧ a ≤ b ∧ b ≤ s.length ∧ (L.length : Int) ≤ b ∧ encN L = ((s.drop a.toNat).take (b.toNat - a.toNat), 0) := by
  obtain ⟨n, m, e, h1⟩ : ∃ n b e, readU s a = (n, b, e) := ⟨_, _, _, rfl⟩
  by_cases he : e = 0
  · subst he
    rw [decN_go h1] at h
    obtain ⟨k1, k2, k3, k4, k5⟩ := readU_form h1
    obtain ⟨C, t2, f, g1, g2, g3, g4, g5, g6⟩ := decI_form s n m [] 0 L b [] h rfl (by omega) k3 (by simp; omega)
    rw [List.nil_append] at g1
    refine ⟨k1, by omega, g4, g5, ?_⟩
    rw [encN_yes g1]
    have hln : L.length = n := by rw [g2]; simp
    have e2 : s.drop a.toNat = (uintL L.length ++ C) ++ s.drop b.toNat := by rw [hln, k5, g6, List.append_assoc]
    have hl := congrArg List.length e2
    rw [List.length_append, List.length_drop, List.length_drop] at hl
    have hbn : b.toNat - a.toNat = (uintL L.length ++ C).length := by omega
    rw [hbn, e2, List.take_left]
  · rw [decN_e h1 he] at h
    simp only [Prod.mk.injEq] at h
    exact absurd h.2.2 he
theorem decI_ints (s : List UInt8) : ∀ (k : Nat) (a : Int) (out : List Int) (t : Nat), t ≤ 4611686018427387904 → (∀ x ∈ out, 0 ≤ x ∧ x ≤ 4611686018427387904) → ∀ x ∈ (decI s k a out t).1, 0 ≤ x ∧ x ≤ 4611686018427387904 := by
  intro k
  induction k with
  | zero => intro a out t h1 h2; exact h2
  | succ k ih =>
    intro a out t h1 h2
    obtain ⟨d, p, e, r1⟩ : ∃ d b e, readU s a = (d, b, e) := ⟨_, _, _, rfl⟩
    by_cases he : e = 0
    · subst he
      by_cases hb : (0 < out.length ∧ d = 0) ∨ 4611686018427387904 - t < d
      · rw [decI_bad r1 hb]; intro x hx; cases hx
      · rw [decI_go r1 hb]
        refine ih p _ _ (by omega) fun x hx => ?_
        rcases List.mem_append.1 hx with hx | hx
        · exact h2 x hx
        · rw [List.mem_singleton.1 hx]; omega
    · rw [decI_e r1 he]; intro x hx; cases hx
theorem decN_ints (s : List UInt8) (a : Int) : ∀ x ∈ (decN s a).1, 0 ≤ x ∧ x ≤ 4611686018427387904 := by
  unfold decN
  split
  · exact decI_ints s _ _ [] 0 (by omega) (fun x hx => by cases hx)
  · intro x hx; cases hx
end Go.Proofs.Ytnedgjdhpdejdaa
