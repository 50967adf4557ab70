/- A list with one element put in, plainly; in order. No program. -/
import Derived.Test.YtalnndenncnbdaaGreatBase
import Derived.Sort.Statements
namespace Go.Proofs.YtalnndenncnbdaaGreat.PutG
set_option maxRecDepth 100000
open Go.RowKit Go.Sort

variable {α : Type}
theorem drop_cons? {l : List α} {k : Nat} {x : α} (h : l[k]? = some x) : l.drop k = x :: l.drop (k + 1) := by
  obtain ⟨hk, rfl⟩ := List.getElem?_eq_some_iff.1 h
  exact List.drop_eq_getElem_cons hk
/-- x stands at place k -/
def putAt (k : Nat) (x : α) (l : List α) : List α := l.take k ++ x :: l.drop k
theorem putAt_len (k : Nat) (x : α) (l : List α) (hk : k ≤ l.length) : (putAt k x l).length = l.length + 1 := by
  unfold putAt
  simp only [List.length_append, List.length_take, List.length_cons, List.length_drop]
  omega
theorem putAt_end (x : α) (l : List α) : putAt l.length x l = l ++ [x] := by
  unfold putAt
  simp
theorem putAt_at (k : Nat) (x : α) (l : List α) (hk : k ≤ l.length) : (putAt k x l)[k]? = some x := by
  unfold putAt
  rw [List.getElem?_append_right (by simp; omega)]
  simp [List.length_take, Nat.min_eq_left hk]
theorem putAt_low (k j : Nat) (x : α) (l : List α) (hj : j < k) : (putAt k x l)[j]? = if j < l.length then l[j]? else (putAt k x l)[j]? := by
  unfold putAt
  by_cases h : j < l.length
  · rw [if_pos h, List.getElem?_append_left (by simp; omega), List.getElem?_take, if_pos hj]
  · rw [if_neg h]
theorem putAt_swap (k : Nat) (x y : α) (l : List α) (hk : k + 1 ≤ l.length) (hy : l[k]? = some y) : ((putAt (k + 1) x l).set (k + 1) y).set k x = putAt k x l := by
  have hl : (l.take k).length = k := by rw [List.length_take]; omega
  unfold putAt
  rw [take_snoc? hy, drop_cons? hy, List.append_assoc]
  have e1 : (l.take k ++ ([y] ++ x :: l.drop (k + 1))).set (k + 1) y = l.take k ++ ([y] ++ y :: l.drop (k + 1)) := by
    rw [List.set_append, if_neg (by omega), hl]
    simp
  rw [e1, List.set_append, if_neg (by omega), hl]
  simp
theorem putAt_perm (k : Nat) (x : α) (l : List α) : (putAt k x l).Perm (l ++ [x]) := by
  unfold putAt
  have h1 : (l.take k ++ x :: l.drop k).Perm (x :: (l.take k ++ l.drop k)) := List.perm_middle
  rw [List.take_append_drop] at h1
  exact h1.trans (List.perm_append_singleton x l).symm
/-- in order -/
def InOrd (lt : α → α → Bool) (l : List α) : Prop := l.Pairwise fun a b => lt b a = false
theorem asym {lt : α → α → Bool} (h : SWO lt) {a b : α} (k : lt a b = true) : lt b a = false := by
  cases h2 : lt b a with
  | false => rfl
  | true =>
    have := h.trans _ _ _ k h2
    rw [h.irrefl] at this
    cases this
variable {lt : α → α → Bool}
theorem putAt_ord (k : Nat) (x : α) (l : List α) (h : SWO lt) (hl : InOrd lt l) (hk : k ≤ l.length) (hup : ∀ (j : Nat) (y : α), k ≤ j → l[j]? = some y → lt x y = true) (hlow : ∀ (y : α), 0 < k → l[k - 1]? = some y → lt x y = false) : InOrd lt (putAt k x l) := by
  unfold InOrd putAt at *
  have hsplit := hl
  rw [← List.take_append_drop k l, List.pairwise_append] at hsplit
  obtain ⟨p1, p2, p3⟩ := hsplit
  rw [List.pairwise_append]
  have hdr : ∀ y ∈ l.drop k, lt x y = true := by
    intro y hy
    obtain ⟨j, hj, rfl⟩ := List.getElem_of_mem hy
    rw [List.length_drop] at hj
    refine hup (k + j) _ (by omega) ?_
    rw [List.getElem_drop]
    exact List.getElem?_eq_getElem (by omega)
  have htk : ∀ y ∈ l.take k, lt x y = false := by
    intro y hy
    obtain ⟨j, hj, rfl⟩ := List.getElem_of_mem hy
    rw [List.length_take] at hj
    have hk1 : k - 1 < l.length := by omega
    have h0 := hlow l[k - 1] (by omega) (List.getElem?_eq_getElem hk1)
    rw [List.getElem_take]
    rcases Nat.lt_or_ge j (k - 1) with hj1 | hj1
    · have h1 := List.pairwise_iff_getElem.1 hl j (k - 1) (by omega) hk1 hj1
      exact h.ntrans _ _ _ h0 h1
    · have : j = k - 1 := by omega
      subst this
      exact h0
  refine ⟨p1, List.pairwise_cons.2 ⟨fun y hy => asym h (hdr y hy), p2⟩, ?_⟩
  intro a ha b hb
  rcases List.mem_cons.1 hb with rfl | hb
  · exact htk a ha
  · exact p3 a ha b hb
end Go.Proofs.YtalnndenncnbdaaGreat.PutG
