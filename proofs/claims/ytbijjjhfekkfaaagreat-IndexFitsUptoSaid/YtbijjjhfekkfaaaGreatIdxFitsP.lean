/- What is selected, as a list. No program is walked here. -/
import Derived.Test.YtbijjjhfekkfaaaGreatIdxSel
namespace Go.Proofs.YtbijjjhfekkfaaaGreat
set_option maxRecDepth 100000
open Go.RowKit Go.Shelf

/-- the numbers of those of the first k sets that fit -/
def fitsTo (E : List (List Lbl)) (ms : List Mt) : Nat → List Int
  | 0 => []
  | k + 1 => fitsTo E ms k ++ (match E[k]? with
    | some l => if allM l ms = true then [(k : Int)] else []
    | none => [])
theorem fitsTo_yes {E : List (List Lbl)} {ms : List Mt} {k : Nat} {l : List Lbl} (h : E[k]? = some l) (hf : allM l ms = true) : fitsTo E ms (k + 1) = fitsTo E ms k ++ [(k : Int)] := by
  rw [fitsTo, h]; simp [hf]
theorem fitsTo_no {E : List (List Lbl)} {ms : List Mt} {k : Nat} {l : List Lbl} (h : E[k]? = some l) (hf : allM l ms = false) : fitsTo E ms (k + 1) = fitsTo E ms k := by
  rw [fitsTo, h]; simp [hf]
theorem mem_fitsTo {E : List (List Lbl)} {ms : List Mt} {z : Int} : ∀ {k : Nat}, z ∈ fitsTo E ms k ↔ ∃ (i : Nat) (l : List Lbl), i < k ∧ E[i]? = some l ∧ z = (i : Int) ∧ allM l ms = true
  | 0 => by simp [fitsTo]
  | k + 1 => by
    have ih := mem_fitsTo (E := E) (ms := ms) (z := z) (k := k)
    rw [fitsTo, List.mem_append, ih]
    constructor
    · rintro (⟨i, l, h1, h2, h3, h4⟩ | h)
      · exact ⟨i, l, by omega, h2, h3, h4⟩
      · cases he : E[k]? with
        | none => rw [he] at h; simp at h
        | some l =>
          rw [he] at h
          simp only at h
          split at h
          · rename_i hf
            exact ⟨k, l, by omega, he, by simpa using h, hf⟩
          · simp at h
    · rintro ⟨i, l, h1, h2, h3, h4⟩
      rcases Nat.lt_or_ge i k with hi | hi
      · exact .inl ⟨i, l, hi, h2, h3, h4⟩
      · obtain rfl : i = k := by omega
        refine .inr ?_
        rw [h2]
        simp [h4, h3]
theorem fitsTo_rising (E : List (List Lbl)) (ms : List Mt) : ∀ k, rising (fitsTo E ms k)
  | 0 => List.Pairwise.nil
  | k + 1 => by
    rw [fitsTo]
    refine List.pairwise_append.2 ⟨fitsTo_rising E ms k, ?_, fun a ha b hb => ?_⟩
    · split
      · split
        · exact List.pairwise_singleton _ _
        · exact List.Pairwise.nil
      · exact List.Pairwise.nil
    · obtain ⟨i, l, h1, _, rfl, _⟩ := mem_fitsTo.1 ha
      have : b = (k : Int) := by
        split at hb
        · split at hb
          · simpa using hb
          · simp at hb
        · simp at hb
      omega
theorem fitsTo_pre (E : List (List Lbl)) (ms : List Mt) {k m : Nat} (h : k ≤ m) : ∃ r, fitsTo E ms m = fitsTo E ms k ++ r := by
  induction h with
  | refl => exact ⟨[], by simp⟩
  | step _ ih =>
    obtain ⟨r, hr⟩ := ih
    rw [fitsTo, hr]
    exact ⟨_, List.append_assoc _ _ _⟩
theorem fitsTo_len (E : List (List Lbl)) (ms : List Mt) : ∀ k, (fitsTo E ms k).length ≤ k
  | 0 => Nat.le_refl _
  | k + 1 => by
    have ih := fitsTo_len E ms k
    rw [fitsTo, List.length_append]
    have : (match E[k]? with
      | some l => if allM l ms = true then [(k : Int)] else []
      | none => []).length ≤ 1 := by
      split
      · split <;> simp
      · simp
    omega
theorem sel_is {E : List (List Lbl)} {ms : List Mt} {S : List Int} (hr : rising S) (hm : ∀ z, z ∈ S ↔ selE E ms z) : S = fitsTo E ms E.length :=
  rising_ext hr (fitsTo_rising _ _ _) fun z => (hm z).trans ((⟨fun ⟨i, l, h1, h2, h3⟩ => ⟨i, l, (List.getElem?_eq_some_iff.1 h1).1, h1, h2, h3⟩, fun ⟨i, l, _, h2, h3, h4⟩ => ⟨i, l, h2, h3, h4⟩⟩ : selE E ms z ↔ _).trans mem_fitsTo.symm)
/-- the next one that fits is the next of the list -/
theorem fitsTo_at {E : List (List Lbl)} {ms : List Mt} {k : Nat} {l : List Lbl} (h : E[k]? = some l) (hf : allM l ms = true) : (fitsTo E ms E.length)[(fitsTo E ms k).length]? = some (k : Int) := by
  obtain ⟨r, hr⟩ := fitsTo_pre E ms (show k + 1 ≤ E.length from (List.getElem?_eq_some_iff.1 h).1)
  rw [hr, fitsTo_yes h hf]
  simp
end Go.Proofs.YtbijjjhfekkfaaaGreat
