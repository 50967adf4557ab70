/- Sets as an index has them, plainly: each name once; what has a label. No condition. -/
import Derived.Test.YtbijjjhfekkfaaaGreatPk4d07971e
namespace Go.Proofs.YtbijjjhfekkfaaaGreat
set_option maxRecDepth 100000
open Go.RowKit

/-! plain -/
theorem nodup_len {α : Type} {a b : List α} (h : a.Nodup) (hs : ∀ x ∈ a, x ∈ b) : a.length ≤ b.length := by
  induction a generalizing b with
  | nil => simp
  | cons e E ih =>
    obtain ⟨h1, h2⟩ := List.nodup_cons.1 h
    obtain ⟨l1, l2, rfl⟩ := List.append_of_mem (hs e (by simp))
    have := ih (b := l1 ++ l2) h2 fun x hx => by
      rcases List.mem_append.1 (hs x (by simp [hx])) with hx2 | hx2
      · exact List.mem_append_left _ hx2
      · rcases List.mem_cons.1 hx2 with e | hx2
        · exact absurd (e ▸ hx) h1
        · exact List.mem_append_right _ hx2
    simp only [List.length_append, List.length_cons] at this ⊢
    omega
theorem valid_fits {l : List Lbl} (h : validP l) : ∀ x ∈ l, fitN x.name = true ∧ fitV x.value = true := make_fits (makeErr_ok h.1).2.2
theorem valid_apart {l : List Lbl} (h : validP l) : l.Pairwise fun x y => x.name ≠ y.name := h.2.imp fun {x y} k e => by
  unfold ltN at k
  have := (tri_B.zero x.name y.name).2 e
  omega
/-- what a set has at a name is what stands there -/
theorem getL_mem {l : List Lbl} (h : l.Pairwise fun x y => x.name ≠ y.name) {x : Lbl} (hx : x ∈ l) : getL l x.name = x.value := by
  obtain ⟨k, hk, rfl⟩ := List.mem_iff_getElem.1 hx
  refine getL_here (k := k) (fun y hy => ?_) (List.getElem?_eq_getElem hk) rfl
  obtain ⟨j, hj, rfl⟩ := List.mem_iff_getElem.1 hy
  rw [List.length_take] at hj
  rw [List.getElem_take]
  exact List.pairwise_iff_getElem.1 h j k (by omega) hk (by omega)
theorem getL_some : ∀ {l : List Lbl} {nm : ByteArray}, (getL l nm).toList ≠ [] → (⟨nm, getL l nm⟩ : Lbl) ∈ l
  | [], nm, h => by simp [getL] at h
  | x :: l, nm, h => by
    rw [getL] at h ⊢
    split
    · rename_i e
      rw [if_pos e] at h
      rw [← e]
      exact List.mem_cons_self ..
    · rename_i e
      rw [if_neg e] at h
      exact List.mem_cons_of_mem _ (getL_some h)
theorem fitV_some {v : ByteArray} (h : fitV v = true) : v.toList ≠ [] := fun e => by
  have h1 : 1 ≤ v.size ∧ v.size ≤ 64 := by simpa [fitV] using h
  rw [Lib.toList_data] at e
  have : v.data.toList.length = v.size := rfl
  rw [e] at this
  simp at this
  omega
theorem valid_has {l : List Lbl} (h : validP l) {nm v : ByteArray} : (⟨nm, v⟩ : Lbl) ∈ l ↔ getL l nm = v ∧ v.toList ≠ [] := by
  constructor
  · intro hm
    exact ⟨getL_mem (valid_apart h) hm, fitV_some (valid_fits h _ hm).2⟩
  · rintro ⟨rfl, h2⟩
    exact getL_some h2
theorem mem_flatE {E : List (List Lbl)} {y : Int × Lbl} : y ∈ flatE E ↔ ∃ (i : Nat) (l : List Lbl), E[i]? = some l ∧ y.1 = (i : Int) ∧ y.2 ∈ l := by
  unfold flatE
  rw [List.mem_flatMap]
  constructor
  · rintro ⟨p, hp, hy⟩
    obtain ⟨x, hx, rfl⟩ := List.mem_map.1 hy
    exact ⟨p.2, p.1, by have := List.mem_zipIdx_iff_getElem?.1 hp; exact this, rfl, hx⟩
  · rintro ⟨i, l, h1, h2, h3⟩
    exact ⟨(l, i), List.mem_zipIdx_iff_getElem?.2 h1, List.mem_map.2 ⟨y.2, h3, by rw [← h2]⟩⟩
end Go.Proofs.YtbijjjhfekkfaaaGreat
