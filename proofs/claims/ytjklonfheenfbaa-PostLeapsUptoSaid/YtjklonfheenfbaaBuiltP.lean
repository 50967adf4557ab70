/- What nodes make, plainly: a stack of rising lists. No program is walked here. -/
import Derived.Test.YtjklonfheenfbaaRefAnd
namespace Go.Proofs.Ytjklonfheenfbaa
set_option maxRecDepth 100000
open Go.RowKit Go.Shelf

theorem snoc_rec {α : Type} {Q : List α → Prop} (h0 : Q []) (h1 : ∀ l x, Q l → Q (l ++ [x])) (l : List α) : Q l := by
  have h : ∀ r : List α, Q r.reverse := fun r => by
    induction r with
    | nil => exact h0
    | cons x r ih => rw [List.reverse_cons]; exact h1 _ x ih
  have := h l.reverse
  rwa [List.reverse_reverse] at this
/-- the rising list of these numbers -/
def riseOf (L : List Int) : List Int := Lib.compact (L.mergeSort fun a b => decide (a ≤ b))
theorem riseOf_spec (L : List Int) : rising (riseOf L) ∧ ∀ x, x ∈ riseOf L ↔ x ∈ L := by
  have hs : (L.mergeSort fun a b => decide (a ≤ b)).Pairwise (· ≤ ·) := by
    have := List.pairwise_mergeSort (le := fun a b : Int => decide (a ≤ b)) (fun a b c h1 h2 => by simp at *; omega) (fun a b => by simp; omega) L
    exact this.imp fun h => by simpa using h
  obtain ⟨h1, h2⟩ := compact_sorted hs
  exact ⟨h1, fun x => by rw [riseOf, h2 x]; exact (List.mergeSort_perm L _).mem_iff⟩
theorem riseOf_uniq {E L : List Int} (h : rising E) (hm : ∀ x, x ∈ E ↔ x ∈ L) : E = riseOf L :=
  rising_ext h (riseOf_spec L).1 fun x => by rw [hm x, (riseOf_spec L).2 x]
theorem riseOf_le (L : List Int) : (riseOf L).length ≤ L.length := rising_le (riseOf_spec L).1 fun x hx => ((riseOf_spec L).2 x).1 hx

def andE : List (List Int) → List Int
  | [] => []
  | l :: r => riseOf (l.filter fun y => r.all fun s => decide (y ∈ s))
theorem andE_spec (L : List (List Int)) : rising (andE L) ∧ ∀ x, x ∈ andE L ↔ L ≠ [] ∧ ∀ l ∈ L, x ∈ l := by
  cases L with
  | nil => exact ⟨List.Pairwise.nil, by simp [andE]⟩
  | cons l r =>
    refine ⟨(riseOf_spec _).1, fun x => ?_⟩
    rw [andE, (riseOf_spec _).2 x, List.mem_filter, List.all_eq_true]
    exact ⟨fun h => ⟨by simp, fun s hs => by
      rcases List.mem_cons.1 hs with rfl | hs
      · exact h.1
      · simpa using h.2 s hs⟩, fun h => ⟨h.2 l (by simp), fun s hs => by simpa using h.2 s (by simp [hs])⟩⟩
def woE (a b : List Int) : List Int := riseOf (a.filter fun y => decide (y ∉ b))
theorem woE_spec (a b : List Int) : rising (woE a b) ∧ ∀ x, x ∈ woE a b ↔ x ∈ a ∧ x ∉ b :=
  ⟨(riseOf_spec _).1, fun x => by rw [woE, (riseOf_spec _).2 x, List.mem_filter]; simp⟩

structure Nd where
  kind : Int
  take : Int
  s : Sl Int
def Nd.cells (x : Nd) : List Value := [.int .i64 x.kind, .int .i64 x.take, x.s.val]
/-- how many the node takes of N -/
def Nd.k (x : Nd) (N : Nat) : Nat := min x.take.toNat N
def stepS (x : Nd) (st : List (List Int)) : List (List Int) :=
  if x.kind = 2 then st.take (st.length - x.k st.length) ++ [andE (st.drop (st.length - x.k st.length))]
  else if x.kind = 3 then st.take (st.length - x.k st.length) ++ [riseOf (st.drop (st.length - x.k st.length)).flatten]
  else if x.kind = 4 then (if st.length < 2 then st else st.take (st.length - 2) ++ [woE (st.getD (st.length - 2) []) (st.getD (st.length - 1) [])])
  else st ++ [riseOf x.s.l]
def stackOf (l : List Nd) : List (List Int) := l.foldl (fun st x => stepS x st) []
/-- the list that is made last -/
def topOf (l : List Nd) : List Int := (stackOf l).getLastD []
theorem stackOf_snoc (l : List Nd) (x : Nd) : stackOf (l ++ [x]) = stepS x (stackOf l) := by simp [stackOf, List.foldl_append]
def totL (st : List (List Int)) : Nat := (st.map List.length).sum
theorem totL_app (a b : List (List Int)) : totL (a ++ b) = totL a + totL b := by simp [totL]
theorem totL_cut (st : List (List Int)) (k : Nat) : totL st = totL (st.take k) + totL (st.drop k) := by rw [← totL_app, List.take_append_drop]
theorem totL_flat (st : List (List Int)) : st.flatten.length = totL st := by rw [List.length_flatten]; rfl
theorem totL_mem {st : List (List Int)} {l : List Int} (h : l ∈ st) : l.length ≤ totL st := by
  obtain ⟨a, b, rfl⟩ := List.append_of_mem h
  simp [totL]; omega
theorem andE_le (L : List (List Int)) : (andE L).length ≤ totL L := by
  cases L with
  | nil => simp [andE]
  | cons l r =>
    have h1 := riseOf_le (l.filter fun y => r.all fun s => decide (y ∈ s))
    have h2 := List.length_filter_le (fun y => r.all fun s => decide (y ∈ s)) l
    have h3 := totL_mem (st := l :: r) (l := l) (by simp)
    rw [andE]; omega
theorem woE_le (a b : List Int) : (woE a b).length ≤ a.length := by
  have h1 := riseOf_le (a.filter fun y => decide (y ∉ b))
  have h2 := List.length_filter_le (fun y => decide (y ∉ b)) a
  rw [woE]; omega
theorem step_tot (x : Nd) (st : List (List Int)) : totL (stepS x st) ≤ totL st + x.s.l.length ∧ (stepS x st).length ≤ st.length + 1 := by
  have one : ∀ l : List Int, totL [l] = l.length := fun l => by simp [totL]
  unfold stepS
  split
  · have h1 := totL_cut st (st.length - x.k st.length)
    have h2 := andE_le (st.drop (st.length - x.k st.length))
    rw [totL_app, one]
    exact ⟨by omega, by simp⟩
  · split
    · have h1 := totL_cut st (st.length - x.k st.length)
      have h2 := riseOf_le (st.drop (st.length - x.k st.length)).flatten
      rw [totL_flat] at h2
      rw [totL_app, one]
      exact ⟨by omega, by simp⟩
    · split
      · split
        · exact ⟨by omega, by omega⟩
        · rename_i h2
          have h1 := totL_cut st (st.length - 2)
          have h3 := woE_le (st.getD (st.length - 2) []) (st.getD (st.length - 1) [])
          have h4 : st.getD (st.length - 2) [] ∈ st.drop (st.length - 2) := by
            refine List.mem_iff_getElem?.2 ⟨0, ?_⟩
            rw [List.getElem?_drop, Nat.add_zero, List.getD]
            rw [List.getElem?_eq_getElem (show st.length - 2 < st.length by omega)]; rfl
          have h5 := totL_mem h4
          rw [totL_app, one]
          exact ⟨by omega, by simp⟩
      · rw [totL_app, one]
        have := riseOf_le x.s.l
        exact ⟨by omega, by simp⟩
def ndSum (l : List Nd) : Nat := (l.map fun x => x.s.l.length).sum
theorem stack_tot (l : List Nd) : totL (stackOf l) ≤ ndSum l ∧ (stackOf l).length ≤ l.length := by
  refine snoc_rec (Q := fun l => totL (stackOf l) ≤ ndSum l ∧ (stackOf l).length ≤ l.length) ⟨Nat.le_refl _, Nat.le_refl _⟩ ?_ l
  · intro l x ih
    have h := step_tot x (stackOf l)
    rw [stackOf_snoc]
    have e : ndSum (l ++ [x]) = ndSum l + x.s.l.length := by simp [ndSum]
    rw [e, List.length_append, List.length_singleton]
    omega
theorem ndSum_le (l : List Nd) (k : Nat) : ndSum (l.take k) ≤ ndSum l := by
  have : ndSum l = ndSum (l.take k) + ndSum (l.drop k) := by
    have h := List.take_append_drop k l
    unfold ndSum
    rw [← List.sum_append, ← List.map_append, h]
  omega
/-- every list of the stack rises, its numbers are ints -/
theorem stack_rise {l : List Nd} (hI : ∀ x ∈ l, ∀ y ∈ x.s.l, inI y) : ∀ e ∈ stackOf l, rising e ∧ ∀ y ∈ e, inI y := by
  revert hI
  refine snoc_rec (Q := fun l => (∀ x ∈ l, ∀ y ∈ x.s.l, inI y) → ∀ e ∈ stackOf l, rising e ∧ ∀ y ∈ e, inI y) (by simp [stackOf]) ?_ l
  · intro l x ih hI
    have ih := ih fun z hz => hI z (by simp [hz])
    have hx := hI x (by simp)
    rw [stackOf_snoc]
    generalize stackOf l = st at ih
    intro e he
    unfold stepS at he
    split at he
    · rcases List.mem_append.1 he with he | he
      · exact ih e (List.mem_of_mem_take he)
      · rw [List.mem_singleton.1 he]
        refine ⟨(andE_spec _).1, fun y hy => ?_⟩
        obtain ⟨hne, hall⟩ := ((andE_spec _).2 y).1 hy
        obtain ⟨z, hz⟩ := List.exists_mem_of_ne_nil _ hne
        exact (ih z (List.mem_of_mem_drop hz)).2 y (hall z hz)
    · split at he
      · rcases List.mem_append.1 he with he | he
        · exact ih e (List.mem_of_mem_take he)
        · rw [List.mem_singleton.1 he]
          refine ⟨(riseOf_spec _).1, fun y hy => ?_⟩
          obtain ⟨z, hz, hyz⟩ := List.mem_flatten.1 (((riseOf_spec _).2 y).1 hy)
          exact (ih z (List.mem_of_mem_drop hz)).2 y hyz
      · split at he
        · split at he
          · exact ih e he
          · rename_i hlt
            rcases List.mem_append.1 he with he | he
            · exact ih e (List.mem_of_mem_take he)
            · rw [List.mem_singleton.1 he]
              refine ⟨(woE_spec _ _).1, fun y hy => ?_⟩
              have h1 := (((woE_spec _ _).2 y).1 hy).1
              have h4 : st.getD (st.length - 2) [] ∈ st := by
                refine List.mem_iff_getElem?.2 ⟨st.length - 2, ?_⟩
                rw [List.getD, List.getElem?_eq_getElem (show st.length - 2 < st.length by omega)]; rfl
              exact (ih _ h4).2 y h1
        · rcases List.mem_append.1 he with he | he
          · exact ih e he
          · rw [List.mem_singleton.1 he]
            exact ⟨(riseOf_spec _).1, fun y hy => hx y (((riseOf_spec _).2 y).1 hy)⟩
theorem k_of {x : Nd} {st : List (List Int)} {N K j : Nat} (hN : st.length = N) (hK : max (0 : Int) (min x.take (N : Int)) = (K : Int)) (hj : N = j + K) : st.length - x.k st.length = j := by
  unfold Nd.k; omega
theorem step_and {x : Nd} {st : List (List Int)} {N K j : Nat} (hN : st.length = N) (hK : max (0 : Int) (min x.take (N : Int)) = (K : Int)) (hj : N = j + K) (h : x.kind = 2) : stepS x st = st.take j ++ [andE (st.drop j)] := by
  rw [stepS, if_pos h, k_of hN hK hj]
theorem step_or {x : Nd} {st : List (List Int)} {N K j : Nat} (hN : st.length = N) (hK : max (0 : Int) (min x.take (N : Int)) = (K : Int)) (hj : N = j + K) (h : x.kind = 3) : stepS x st = st.take j ++ [riseOf (st.drop j).flatten] := by
  rw [stepS, if_neg (by omega), if_pos h, k_of hN hK hj]
theorem step_few {x : Nd} {st : List (List Int)} (hN : st.length < 2) (h : x.kind = 4) : stepS x st = st := by
  rw [stepS, if_neg (by omega), if_neg (by omega), if_pos h, if_pos hN]
theorem step_wo {x : Nd} {st : List (List Int)} (hN : ¬ st.length < 2) (h : x.kind = 4) : stepS x st = st.take (st.length - 2) ++ [woE (st.getD (st.length - 2) []) (st.getD (st.length - 1) [])] := by
  rw [stepS, if_neg (by omega), if_neg (by omega), if_pos h, if_neg hN]
theorem step_of {x : Nd} {st : List (List Int)} (h2 : ¬ x.kind = 2) (h3 : ¬ x.kind = 3) (h4 : ¬ x.kind = 4) : stepS x st = st ++ [riseOf x.s.l] := by
  rw [stepS, if_neg h2, if_neg h3, if_neg h4]
end Go.Proofs.Ytjklonfheenfbaa
