/- A list of the reference's series of the call's own whose samples and windows are the call's own, too; the labels lie in older memory. No condition. almanacref21.find, almanacref18.Insert: what they return. Condition: the lists are within the reach. -/
import Derived.Test.YtcndncklgbeloaaMrgP
import Derived.Test.YtcndncklgbeloaaInsSmp
import Derived.Test.YtcndncklgbeloaaInsWin
import Derived.Test.YtcndncklgbeloaaLabC
import Derived.Deep.CutBlock
namespace Go.Proofs.Ytcndncklgbeloaa.MR
set_option maxRecDepth 100000
open Go.RowKit

/-- the order of the list makes no difference -/
theorem sep_perm {R : Ser → Ser → Prop} {L M : List Ser} (h : ∀ (i j : Nat) (y z : Ser), L[i]? = some y → L[j]? = some z → i ≠ j → R y z) (p : M.Perm L) : ∀ (i j : Nat) (y z : Ser), M[i]? = some y → M[j]? = some z → i ≠ j → R y z := by
  have h1 : L.Pairwise fun y z => R y z ∧ R z y := by
    rw [List.pairwise_iff_getElem]
    intro i j hi hj hij
    exact ⟨h i j _ _ (List.getElem?_eq_getElem hi) (List.getElem?_eq_getElem hj) (by omega), h j i _ _ (List.getElem?_eq_getElem hj) (List.getElem?_eq_getElem hi) (by omega)⟩
  have h2 := h1.perm p.symm fun h => ⟨h.2, h.1⟩
  rw [List.pairwise_iff_getElem] at h2
  intro i j y z hy hz hij
  obtain ⟨hi, rfl⟩ := List.getElem?_eq_some_iff.1 hy
  obtain ⟨hj, rfl⟩ := List.getElem?_eq_some_iff.1 hz
  rcases Nat.lt_or_ge i j with hl | hl
  · exact (h2 i j hi hj hl).1
  · exact (h2 j i hj hi (by omega)).2
end Go.Proofs.Ytcndncklgbeloaa.MR

namespace Go.Proofs.Ytcndncklgbeloaa.MR
set_option maxRecDepth 100000
open Go.RowKit Go.Shelf

/-- where the series with these labels stands -/
def Found (L : List Ser) (k : List Lbl) (r : Int) : Prop := (∃ (i : Nat) (y : Ser), r = i ∧ L[i]? = some y ∧ y.lab.l = k) ∨ (r = -1 ∧ ∀ y ∈ L, y.lab.l ≠ k)
def FindRes (L : List Ser) (k : List Lbl) (w : World) (e : Ending) (w' : World) : Prop :=
  ∃ (q : Nat) (r : Int), w' = w.drewN q ∧ e = .returned (.int .i64 r) ∧ Found L k r
theorem findRes_yes {L : List Ser} {k : List Lbl} {w : World} {i : Nat} {y : Ser} (q : Nat) (h : L[i]? = some y) (hk : y.lab.l = k) : FindRes L k w (.returned (.int .i64 i)) (w.drewN q) := ⟨q, i, rfl, rfl, .inl ⟨i, y, rfl, h, hk⟩⟩
theorem findRes_no {L : List Ser} {k : List Lbl} {w : World} (q : Nat) (h : ∀ y ∈ L, y.lab.l ≠ k) : FindRes L k w (.returned (.int .i64 (-1))) (w.drewN q) := ⟨q, -1, rfl, rfl, .inr ⟨rfl, h⟩⟩

theorem put_perm {α : Type} (L : List α) (k : Nat) (x : α) : (L.take k ++ x :: L.drop k).Perm (L ++ [x]) := by
  refine List.perm_middle.trans ?_
  rw [List.take_append_drop]
  exact (List.perm_append_singleton x L).symm
theorem put_sorted {L : List Ser} (hs : L.Pairwise fun a b => cmpLs a.lab.l b.lab.l < 0) {x : Ser} {k : Nat} (hlo : ∀ y ∈ L.take k, cmpLs y.lab.l x.lab.l < 0) (hhi : ∀ y ∈ L.drop k, cmpLs x.lab.l y.lab.l < 0) : (L.take k ++ x :: L.drop k).Pairwise fun a b => cmpLs a.lab.l b.lab.l < 0 := by
  rw [← List.take_append_drop k L, List.pairwise_append] at hs
  rw [List.pairwise_append, List.pairwise_cons]
  refine ⟨hs.1, ⟨hhi, hs.2.1⟩, fun a ha b hb => ?_⟩
  rcases List.mem_cons.1 hb with rfl | hb
  · exact hlo a ha
  · exact hs.2.2 a ha b hb
theorem lab_below {L : List Ser} (hs : L.Pairwise fun a b => cmpLs a.lab.l b.lab.l < 0) {k : Nat} {x y : Ser} (hy : L[k]? = some y) (h : cmpLs y.lab.l x.lab.l < 0) : ∀ z ∈ L.take (k + 1), cmpLs z.lab.l x.lab.l < 0 := by
  intro z hz
  rw [take_snoc? hy] at hz
  rcases List.mem_append.1 hz with hz | hz
  · rw [← List.take_append_drop k L, List.pairwise_append, InsSmp.dropAt hy] at hs
    exact lt_tr (hs.2.2 z hz y (List.mem_cons_self ..)) h
  · rw [List.mem_singleton.1 hz]; exact h
theorem shift_swap (L : List Ser) {j : Nat} {z : Ser} (hz : L[j]? = some z) (x : Ser) : ((L.take (j + 1) ++ x :: L.drop (j + 1)).set (j + 1) z).set j x = L.take j ++ x :: L.drop j := by
  obtain ⟨h1, h2⟩ := List.getElem?_eq_some_iff.1 hz
  rw [List.set_append_right _ _ (by rw [List.length_take]; omega), List.length_take, Nat.min_eq_left (by omega), Nat.sub_self, List.set_cons_zero, List.take_succ_eq_append_getElem h1, h2, List.append_assoc, List.set_append_right _ _ (by rw [List.length_take]; omega), List.length_take, Nat.min_eq_left (by omega), Nat.sub_self, InsSmp.dropAt hz]
  rfl

end Go.Proofs.Ytcndncklgbeloaa.MR
