/- Reading a pattern never fails with the number 0. No program is walked here. -/
import Derived.Test.YtalnndenncnbdaaParP
namespace Go.Proofs.Ytalnndenncnbdaa
def NZ {α : Type} (r : PR α) : Prop := ∀ c, r = .bad c → c ≠ 0
theorem nz_ok {α : Type} (a : α) (j : Nat) : NZ (PR.ok a j) := fun c h => by cases h
theorem nz_bad {α : Type} {n : Nat} (h : n ≠ 0) : NZ (PR.bad n : PR α) := fun c e => by cases e; exact h
section
variable (s : List UInt8)
theorem nz_esc (i : Nat) : NZ (escP s i) := by
  unfold escP; split
  · exact nz_ok _ _
  · exact nz_bad (by decide)
theorem nz_let (i : Nat) : NZ (letP s i) := by
  unfold letP; split
  · split
    · exact nz_esc s _
    · exact nz_ok _ _
  · exact nz_bad (by decide)
theorem nz_item (i : Nat) : NZ (itemP s i) := by
  unfold itemP
  split
  · rename_i e h; exact nz_bad (nz_let s i e h)
  · split
    · split
      · rename_i e h; exact nz_bad (nz_let s _ e h)
      · exact nz_ok _ _
    · exact nz_ok _ _
theorem nz_items : ∀ (f i : Nat) (S : BS) (n : Nat) (fl : Bool), NZ (itemsP s f i S n fl)
  | 0, _, _, _, _ => nz_bad (by decide)
  | f + 1, i, S, n, fl => by
    unfold itemsP
    split
    · exact nz_ok _ _
    · split
      · rename_i e h; exact nz_bad (nz_item s i e h)
      · exact nz_items f _ _ _ _
theorem nz_class (i : Nat) : NZ (classP s i) := by
  unfold classP
  simp only
  split
  · rename_i e h; exact nz_bad (nz_items s _ _ _ _ _ e h)
  · repeat' split
    all_goals first
      | exact nz_bad (n := 63) (by decide)
      | exact nz_ok _ _
theorem nz_atom {m : Nat} {sub : Nat → PR Tr} (hs : m ≠ 0 → ∀ i, NZ (sub i)) (i : Nat) : NZ (atomP s m sub i) := by
  unfold atomP
  simp only
  split
  · exact nz_bad (by decide)
  · split
    · split
      · exact nz_bad (by decide)
      · rename_i hm
        split
        · rename_i e h; exact nz_bad (hs hm _ e h)
        · split
          · exact nz_ok _ _
          · exact nz_bad (by decide)
    · split
      · split
        · rename_i e h; exact nz_bad (nz_class s _ e h)
        · exact nz_ok _ _
      · split
        · exact nz_ok _ _
        · split
          · split
            · rename_i e h; exact nz_bad (nz_esc s _ e h)
            · exact nz_ok _ _
          · exact nz_ok _ _
theorem nz_piece {m : Nat} {sub : Nat → PR Tr} (hs : m ≠ 0 → ∀ i, NZ (sub i)) (i : Nat) : NZ (pieceP s m sub i) := by
  unfold pieceP
  split
  · rename_i e h; exact nz_bad (nz_atom s hs i e h)
  · exact nz_ok _ _
theorem nz_branchL {m : Nat} {top : Bool} {sub : Nat → PR Tr} (hs : m ≠ 0 → ∀ i, NZ (sub i)) : ∀ (f i : Nat) (n : Option Tr), NZ (branchL s m top sub f i n)
  | 0, _, _ => nz_bad (by decide)
  | f + 1, i, n => by
    unfold branchL
    split
    · exact nz_bad (by decide)
    · split
      · split
        · rename_i e h; exact nz_bad (nz_piece s hs i e h)
        · exact nz_branchL hs f _ _
      · exact nz_ok _ _
theorem nz_branchesL {m : Nat} {top : Bool} {sub : Nat → PR Tr} (hs : m ≠ 0 → ∀ i, NZ (sub i)) : ∀ (f i : Nat) (n : Tr), NZ (branchesL s m top sub f i n)
  | 0, _, _ => nz_bad (by decide)
  | f + 1, i, n => by
    unfold branchesL
    split
    · split
      · rename_i e h; exact nz_bad (nz_branchL s hs _ _ _ e h)
      · exact nz_branchesL hs f _ _
    · exact nz_ok _ _
theorem nz_branches {m : Nat} {top : Bool} {sub : Nat → PR Tr} (hs : m ≠ 0 → ∀ i, NZ (sub i)) (i : Nat) : NZ (branchesP s m top sub i) := by
  unfold branchesP
  split
  · rename_i e h; exact nz_bad (nz_branchL s hs _ _ _ e h)
  · exact nz_branchesL s hs _ _ _
theorem nz_depth : ∀ (m i : Nat), NZ (depthP s m i)
  | 0, i => nz_branches s (fun h => absurd rfl h) i
  | m + 1, i => nz_branches s (fun _ i => nz_depth m i) i
theorem nz_parse : NZ (parseP s) := by
  unfold parseP
  split
  · exact nz_bad (by decide)
  · exact nz_depth s 16 0
end
end Go.Proofs.Ytalnndenncnbdaa
