/- Plain: no block stands in two groups, each group has two at least, of one resolution; the order handed in makes no difference. No condition. -/
import Derived.Test.YtohocdbneopooaaPlanJoin
namespace Go.Proofs.Ytohocdbneopooaa
set_option maxRecDepth 100000
open Go.Shelf Go.RowKit Go.Lib Go.Sort

theorem reId_at (l : List Inf) (i : Nat) (x : Inf) (h : (reId l)[i]? = some x) : x.id = (i : Int) ∧ i < l.length := by
  unfold reId at h
  rw [List.getElem?_mapIdx] at h
  cases hl : l[i]? with
  | none => rw [hl] at h; simp at h
  | some y =>
    rw [hl] at h
    simp only [Option.map_some, Option.some.injEq] at h
    exact ⟨by rw [← h], (List.getElem?_eq_some_iff.1 hl).1⟩
theorem reId_mem {l : List Inf} {x : Inf} (h : x ∈ reId l) : ∃ i : Nat, (reId l)[i]? = some x ∧ x.id = (i : Int) ∧ i < l.length := by
  obtain ⟨i, hi, rfl⟩ := List.getElem_of_mem h
  have h1 : (reId l)[i]? = some (reId l)[i] := List.getElem?_eq_getElem hi
  obtain ⟨h2, h3⟩ := reId_at l i _ h1
  exact ⟨i, h1, h2, h3⟩
theorem reId_pw (l : List Inf) : (reId l).Pairwise fun a b => a.id ≠ b.id := by
  rw [List.pairwise_iff_getElem]
  intro i j hi hj hij
  have h1 := (reId_at l i _ (List.getElem?_eq_getElem hi)).1
  have h2 := (reId_at l j _ (List.getElem?_eq_getElem hj)).1
  rw [h1, h2]
  omega
/-- an ID that is told is a place -/
def IdOk (L : List Inf) (k : Nat) (z : Int) : Prop := ∃ (i : Nat) (x : Inf), z = (i : Int) ∧ L[i]? = some x ∧ 0 ≤ x.res ∧ x.res < (k : Int)
theorem planTo_once (fan : Int) (l : List Inf) : ∀ k : Nat, ((planTo fan (reId l) k).flatten).Nodup ∧ ∀ z ∈ (planTo fan (reId l) k).flatten, IdOk (reId l) k z
  | 0 => ⟨List.nodup_nil, by simp [planTo]⟩
  | k + 1 => by
    obtain ⟨h1, h2⟩ := planTo_once fan l k
    obtain ⟨EE, e1, e2, _⟩ := groupsAt_E fan (sortedI (sift (k : Nat) (reId l)))
    have hp := (keys_sorted (sift (k : Nat) (reId l))).2.2
    have hmem : ∀ x ∈ EE.flatten, x ∈ reId l ∧ x.res = (k : Int) := by
      intro x hx
      have h3 := hp.mem_iff.1 (e2.mem hx)
      unfold sift at h3
      rw [List.mem_filter] at h3
      exact ⟨h3.1, by simpa using h3.2⟩
    have hpw : (EE.flatten.map Inf.id).Nodup := by
      have h3 : (sift (k : Nat) (reId l)).Pairwise fun a b => a.id ≠ b.id := (reId_pw l).sublist List.filter_sublist
      have h4 : (sortedI (sift (k : Nat) (reId l))).Pairwise fun a b => a.id ≠ b.id := hp.symm.pairwise h3 (fun h => Ne.symm h)
      exact List.pairwise_map.2 (h4.sublist e2)
    have hfl : (groupsAt fan (sortedI (sift (k : Nat) (reId l)))).flatten = EE.flatten.map Inf.id := by
      rw [e1, List.map_flatten]
    rw [planTo_succ, List.flatten_append, hfl]
    refine ⟨List.nodup_append.2 ⟨h1, hpw, ?_⟩, ?_⟩
    · intro z hz y hy hzy
      subst hzy
      obtain ⟨i, x, rfl, hx, _, hlt⟩ := h2 z hz
      rw [List.mem_map] at hy
      obtain ⟨y, hy, hyz⟩ := hy
      obtain ⟨hy1, hy2⟩ := hmem y hy
      obtain ⟨j, hj, hj2, _⟩ := reId_mem hy1
      have : i = j := by omega
      subst this
      rw [hx] at hj
      injection hj with hj
      subst hj
      omega
    · intro z hz
      rcases List.mem_append.1 hz with hz | hz
      · obtain ⟨i, x, e, hx, h0, hlt⟩ := h2 z hz
        exact ⟨i, x, e, hx, h0, by omega⟩
      · rw [List.mem_map] at hz
        obtain ⟨y, hy, rfl⟩ := hz
        obtain ⟨hy1, hy2⟩ := hmem y hy
        obtain ⟨j, hj, hj2, _⟩ := reId_mem hy1
        exact ⟨j, y, hj2, hj, by omega, by omega⟩
/-- what the law asks of each group -/
theorem planI_once (fan : Int) (l : List Inf) : ((planI fan (reId l)).flatten).Nodup ∧ ∀ g ∈ planI fan (reId l), 2 ≤ g.length ∧ ∃ r : Int, ∀ z ∈ g, ∃ (i : Nat) (x : Inf), z = (i : Int) ∧ (reId l)[i]? = some x ∧ x.res = r := by
  refine ⟨(planTo_once fan l 3).1, fun g hg => ?_⟩
  obtain ⟨r, E, rfl, h2, h3⟩ := mem_planI hg
  refine ⟨by rw [List.length_map]; exact h2, r, fun z hz => ?_⟩
  rw [List.mem_map] at hz
  obtain ⟨y, hy, rfl⟩ := hz
  have h4 := (keys_sorted (sift (r : Nat) (reId l))).2.2.mem_iff.1 (h3.mem hy)
  unfold sift at h4
  rw [List.mem_filter] at h4
  obtain ⟨j, hj, hj2, _⟩ := reId_mem h4.1
  exact ⟨j, y, hj2, hj, by simpa using h4.2⟩
theorem planI_perm (fan : Int) {l m : List Inf} (h : l.Perm m) : planI fan l = planI fan m := by
  unfold planI
  have : ∀ r : Nat, groupsAt fan (sortedI (sift (r : Nat) l)) = groupsAt fan (sortedI (sift (r : Nat) m)) := fun r =>
    groupsAt_congr fan ((sortedI_ord _).keys (sortedI_ord _) ((keys_sorted _).2.2.trans ((h.filter _).trans (keys_sorted _).2.2.symm)))
  simp only [this]

/-- which IDs were seen -/
def seenCells (n : Nat) (done : List Int) : Array Value := ((List.range n).map fun i : Nat => Value.bool (decide ((i : Int) ∈ done))).toArray
theorem seen_size (n : Nat) (done : List Int) : (seenCells n done).size = n := by simp [seenCells]
theorem seen_at (n : Nat) (done : List Int) (i : Nat) (h : i < n) : (seenCells n done)[i]? = some (.bool (decide ((i : Int) ∈ done))) := by
  simp [seenCells, h]
theorem seen_put (n : Nat) (done : List Int) (i : Nat) : (seenCells n done).setIfInBounds i (.bool true) = seenCells n (done ++ [(i : Int)]) := by
  apply Array.ext_getElem?
  intro j
  rw [Array.getElem?_setIfInBounds]
  by_cases hj : j < n
  · rw [seen_at n _ j hj]
    by_cases hij : i = j
    · subst hij
      rw [if_pos rfl, if_pos (by rw [seen_size]; exact hj), seen_at n _ i hj]
      simp
    · rw [if_neg hij, seen_at n _ j hj]
      have h3 : ¬ (j : Int) = (i : Int) := by omega
      have h4 : ((j : Int) ∈ done ++ [(i : Int)]) = ((j : Int) ∈ done) := by rw [eq_iff_iff, List.mem_append, List.mem_singleton]; exact ⟨fun h => h.elim id (fun h => absurd h h3), .inl⟩
      simp only [h4]
  · rw [Array.getElem?_eq_none (by rw [seen_size]; omega), Array.getElem?_eq_none (by rw [seen_size]; omega)]
    by_cases hij : i = j
    · rw [if_pos hij, if_neg (by rw [seen_size]; omega)]
    · rw [if_neg hij]
theorem made_bools (n : Nat) : madeCells #[Value.bool false] n = seenCells n [] := by
  apply Array.ext_getElem?
  intro j
  by_cases hj : j < n
  · rw [seen_at n _ j hj]
    unfold madeCells
    simp [hj, Nat.mod_one]
  · rw [Array.getElem?_eq_none (by rw [size_madeCells]; omega), Array.getElem?_eq_none (by rw [seen_size]; omega)]
end Go.Proofs.Ytohocdbneopooaa
