/- almanacref21.sample: one of samples put in at its place. Condition: the row is within the reach. -/
import Derived.Test.YtcndncklgbeloaaOncSmp
import Derived.Deep.CutBlock

namespace Go.Proofs.Ytcndncklgbeloaa.InsSmp
set_option maxRecDepth 100000
open Go.RowKit Go.Shelf

theorem hkk (x : Smp) : x.cells.length = 2 := rfl
theorem once_has {l : List Smp} (hs : l.Pairwise fun x y => x.t < y.t) {x y : Smp} (hy : y ∈ l) (he : y.t = x.t) : OncSmp.Once (l ++ [x]) l := by
  refine ⟨hs, fun t => ?_⟩
  rw [List.find?_append]
  cases hf : l.find? (fun z => z.t == t) with
  | some z => rfl
  | none =>
    have := List.find?_eq_none.1 hf y hy
    rw [List.find?_cons_of_neg (by simpa [he] using this)]
    rfl
theorem once_put {l : List Smp} (hs : l.Pairwise fun x y => x.t < y.t) {x : Smp} {k : Nat} (hlo : ∀ y ∈ l.take k, y.t < x.t) (hhi : ∀ y ∈ l.drop k, x.t < y.t) : OncSmp.Once (l ++ [x]) (l.take k ++ x :: l.drop k) := by
  have hsp : l.take k ++ l.drop k = l := List.take_append_drop k l
  constructor
  · rw [← hsp, List.pairwise_append] at hs
    rw [List.pairwise_append, List.pairwise_cons]
    refine ⟨hs.1, ⟨hhi, hs.2.1⟩, fun a ha b hb => ?_⟩
    rcases List.mem_cons.1 hb with rfl | hb
    · exact hlo a ha
    · exact hs.2.2 a ha b hb
  · intro t
    have e : l ++ [x] = l.take k ++ l.drop k ++ [x] := by rw [hsp]
    rw [e, List.find?_append, List.find?_append, List.find?_append, List.find?_cons, List.find?_cons, List.find?_nil]
    by_cases ht : x.t = t
    · have h1 : (l.take k).find? (fun z => z.t == t) = none := List.find?_eq_none.2 fun z hz => by have := hlo z hz; simp; omega
      have h2 : (l.drop k).find? (fun z => z.t == t) = none := List.find?_eq_none.2 fun z hz => by have := hhi z hz; simp; omega
      rw [h1, h2]; simp [ht]
    · have h3 : (x.t == t) = false := by simpa using ht
      rw [h3]; simp

theorem dropAt {α : Type} {l : List α} {k : Nat} {x : α} (h : l[k]? = some x) : l.drop k = x :: l.drop (k + 1) := by
  obtain ⟨h1, h2⟩ := List.getElem?_eq_some_iff.1 h
  rw [List.drop_eq_getElem_cons h1, h2]
theorem below_at {l : List Smp} (hs : l.Pairwise fun x y => x.t < y.t) {k : Nat} {x y : Smp} (hy : l[k]? = some y) (h : y.t < x.t) : ∀ z ∈ l.take (k + 1), z.t < x.t := by
  obtain ⟨h1, h2⟩ := List.getElem?_eq_some_iff.1 hy
  intro z hz
  rw [List.take_succ_eq_append_getElem h1, h2] at hz
  rcases List.mem_append.1 hz with hz | hz
  · rw [← List.take_append_drop k l, List.pairwise_append, dropAt hy] at hs
    have := hs.2.2 z hz y (List.mem_cons_self ..)
    omega
  · rw [List.mem_singleton.1 hz]; exact h
theorem above_at {l : List Smp} (hs : l.Pairwise fun x y => x.t < y.t) {k : Nat} {x : Smp} (hhi : ∀ y ∈ l.drop k, x.t ≤ y.t) (hne : ∀ y, l[k]? = some y → y.t = x.t → False) : ∀ y ∈ l.drop k, x.t < y.t := by
  intro y hy
  rcases Nat.lt_or_ge k l.length with hk | hk
  · have hz : l[k]? = some l[k] := List.getElem?_eq_getElem hk
    rw [dropAt hz] at hy hhi
    have h1 := hhi _ (List.mem_cons_self ..)
    have h2 : ¬ (l[k]).t = x.t := hne _ hz
    rcases List.mem_cons.1 hy with rfl | hy
    · omega
    · rw [← List.take_append_drop k l, List.pairwise_append, dropAt hz, List.pairwise_cons] at hs
      have := hs.2.1.1 y hy
      omega
  · rw [List.drop_eq_nil_of_le hk] at hy
    cases hy
theorem flat_snoc (l : List Smp) (x : Smp) : (l ++ [x]).flatMap Smp.cells = l.flatMap Smp.cells ++ [.int .i64 x.t, .int .u64 ((x.v : Nat) : Int)] := by simp [Smp.cells]
theorem shift_set (l : List Smp) {j : Nat} {z : Smp} (hz : l[j]? = some z) (y : Smp) : (l.take (j + 1) ++ y :: l.drop (j + 1)).set (j + 1) z = l.take j ++ z :: l.drop j := by
  obtain ⟨h1, h2⟩ := List.getElem?_eq_some_iff.1 hz
  rw [List.set_append_right _ _ (by rw [List.length_take]; omega), List.length_take, Nat.min_eq_left (by omega), Nat.sub_self, List.set_cons_zero, dropAt hz, List.take_succ_eq_append_getElem h1, h2, List.append_assoc]
  rfl
theorem shift_end (l : List Smp) {j : Nat} (hj : j ≤ l.length) (y x : Smp) : (l.take j ++ y :: l.drop j).set j x = l.take j ++ x :: l.drop j := by
  rw [List.set_append_right _ _ (by rw [List.length_take]; omega), List.length_take, Nat.min_eq_left hj, Nat.sub_self, List.set_cons_zero]
theorem own_len {w : World} {base : Nat} {e : TypeId} {size n m : Nat} {A : Option Addr} {c : Nat} {xs : List Value} (h : w.ownsRow base e size (.slice A n c) n xs) (hm : m = n) : w.ownsRow base e size (.slice A n c) m xs := by rw [hm]; exact h
/-- a block that was turned at first, or is new, turns again -/
theorem gb_join {a w w' : World} {X : Option Nat} {g : Nat} (h : a.grownBy w X) (k : w.grownBy w' (some g)) (hg : X = some g ∨ a.heap.size ≤ g) : a.grownBy w' X := by
  rcases hg with e | e
  · subst e; exact gb_trans h k
  · exact gb_far h k fun j hj => by injection hj with hj; omega
end Go.Proofs.Ytcndncklgbeloaa.InsSmp
