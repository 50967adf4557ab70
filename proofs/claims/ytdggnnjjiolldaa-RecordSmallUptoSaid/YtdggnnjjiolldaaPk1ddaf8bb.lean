/- The reference's Make, walked: the sorted set of labels, or its error. Condition: the row is within the reach. -/
import Derived.Test.YtdggnnjjiolldaaPkcbb96029
import Derived.Test.YtdggnnjjiolldaaPkd7a12640
import Derived.IntWalk
namespace Go.Proofs.Ytdggnnjjiolldaa
set_option maxRecDepth 100000
open Go.RowKit

theorem hkl (x : Lbl) : x.cells.length = 2 := rfl
/-- x put in at place j -/
def putAt (O : List Lbl) (j : Nat) (x : Lbl) : List Lbl := O.take j ++ x :: O.drop j
theorem putAt_len (O : List Lbl) (j : Nat) (x : Lbl) : (putAt O j x).length = O.length + 1 := by simp [putAt]; omega
theorem putAt_end (O : List Lbl) (x : Lbl) : putAt O O.length x = O ++ [x] := by simp [putAt]
theorem putAt_here {O : List Lbl} {j : Nat} {x : Lbl} (hj : j ≤ O.length) : (putAt O j x)[j]? = some x := by
  rw [putAt, List.getElem?_append_right (by rw [List.length_take]; omega), List.length_take, Nat.min_eq_left hj, Nat.sub_self]; rfl
theorem putAt_before {O : List Lbl} {j : Nat} {x y : Lbl} (hy : O[j]? = some y) : (putAt O (j + 1) x)[j]? = some y := by
  have hj := (List.getElem?_eq_some_iff.1 hy).1
  rw [putAt, List.getElem?_append_left (by rw [List.length_take]; omega), List.getElem?_take_of_lt (by omega), hy]
theorem putAt_swap {O : List Lbl} {j : Nat} {x y : Lbl} (hy : O[j]? = some y) : ((putAt O (j + 1) x).set (j + 1) y).set j x = putAt O j x := by
  obtain ⟨hj, he⟩ := List.getElem?_eq_some_iff.1 hy
  have e1 : O.take (j + 1) = O.take j ++ [y] := take_snoc? hy
  have e2 : O.drop j = y :: O.drop (j + 1) := by rw [List.drop_eq_getElem_cons hj, he]
  have hl : (O.take (j + 1)).length = j + 1 := by rw [List.length_take]; omega
  have hl2 : (O.take j).length = j := by rw [List.length_take]; omega
  rw [putAt, List.set_append_right _ _ (by omega), hl, Nat.sub_self, List.set_cons_zero, putAt, e1, e2, List.append_assoc, List.set_append_right _ _ (by omega), hl2, Nat.sub_self]
  rfl
theorem putAt_up {O : List Lbl} (h : upN O) {j : Nat} {x : Lbl} (hlo : ∀ y, 0 < j → O[j - 1]? = some y → ltN y x) (hhi : ∀ y ∈ O.drop j, ltN x y) (hj : j ≤ O.length) : upN (putAt O j x) := by
  have hs : O = O.take j ++ O.drop j := (List.take_append_drop j O).symm
  have hp := h
  unfold upN at hp
  rw [hs] at hp
  obtain ⟨p1, p2, p3⟩ := List.pairwise_append.1 hp
  unfold upN putAt
  rw [List.pairwise_append]
  have htk : ∀ a ∈ O.take j, ltN a x := fun a ha => by
    obtain ⟨i, hi⟩ := List.mem_iff_getElem?.1 ha
    have hil := (List.getElem?_eq_some_iff.1 hi).1
    have hij : i < j := by rw [List.length_take] at hil; omega
    rw [List.getElem?_take_of_lt hij] at hi
    obtain ⟨z, hz⟩ : ∃ z, O[j - 1]? = some z := ⟨_, List.getElem?_eq_getElem (by omega)⟩
    have hzx := hlo z (by omega) hz
    by_cases e : i = j - 1
    · subst e; have := hi.symm.trans hz; cases this; exact hzx
    · obtain ⟨i1, i2⟩ := List.getElem?_eq_some_iff.1 hi
      obtain ⟨z1, z2⟩ := List.getElem?_eq_some_iff.1 hz
      have haz : ltN a z := by
        have := List.pairwise_iff_getElem.1 h i (j - 1) i1 z1 (by omega)
        rw [i2, z2] at this; exact this
      exact ltN_trans haz hzx
  refine ⟨p1, List.pairwise_cons.2 ⟨hhi, p2⟩, fun a ha b hb => ?_⟩
  rcases List.mem_cons.1 hb with rfl | hb
  · exact htk a ha
  · exact p3 a ha b hb
theorem putAt_perm (O : List Lbl) (j : Nat) (x : Lbl) : (putAt O j x).Perm (O ++ [x]) := by
  unfold putAt
  have h1 : (O.take j ++ x :: O.drop j).Perm (x :: (O.take j ++ O.drop j)) := List.perm_middle
  rw [List.take_append_drop] at h1
  exact h1.trans (List.perm_append_singleton x O).symm

end Go.Proofs.Ytdggnnjjiolldaa
