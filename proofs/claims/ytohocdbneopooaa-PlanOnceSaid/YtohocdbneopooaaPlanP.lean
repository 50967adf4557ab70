/- Plain: chains and rows hang on the keys alone; the insertion of the reference's sort. No condition. -/
import Derived.Test.YtohocdbneopooaaPlanPlan
namespace Go.Proofs.Ytohocdbneopooaa
set_option maxRecDepth 100000
open Go.Shelf Go.RowKit Go.Lib Go.Sort

theorem key_parts {x y : Inf} (h : x.key = y.key) : x.frm = y.frm ∧ x.til = y.til ∧ x.id = y.id := by
  unfold Inf.key at h
  simp only [Prod.mk.injEq] at h
  exact h
theorem ids_congr {l m : List Inf} (h : l.map Inf.key = m.map Inf.key) : l.map Inf.id = m.map Inf.id := by
  have h1 : (l.map Inf.key).map (fun k => k.2.2) = (m.map Inf.key).map (fun k => k.2.2) := by rw [h]
  rw [List.map_map, List.map_map] at h1
  exact h1
theorem len_congr {l m : List Inf} (h : l.map Inf.key = m.map Inf.key) : l.length = m.length := by
  have := congrArg List.length h
  simpa using this
theorem take_congr {l m : List Inf} (k : Nat) (h : l.map Inf.key = m.map Inf.key) : (l.take k).map Inf.key = (m.take k).map Inf.key := by
  rw [List.map_take, List.map_take, h]
theorem drop_congr {l m : List Inf} (k : Nat) (h : l.map Inf.key = m.map Inf.key) : (l.drop k).map Inf.key = (m.drop k).map Inf.key := by
  rw [List.map_drop, List.map_drop, h]
theorem spanGo_congr : ∀ (l m : List Inf) (e : Int), l.map Inf.key = m.map Inf.key → spanGo e l = spanGo e m
  | [], [], _, _ => rfl
  | [], _ :: _, _, h => by simp at h
  | _ :: _, [], _, h => by simp at h
  | x :: l, y :: m, e, h => by
    simp only [List.map_cons, List.cons.injEq] at h
    obtain ⟨k1, k2, k3⟩ := key_parts h.1
    simp only [spanGo]
    rw [k1, k2, spanGo_congr l m _ h.2]
theorem chainsF_congr : ∀ (f : Nat) (l m : List Inf), l.map Inf.key = m.map Inf.key → chainsF f l = chainsF f m
  | 0, _, _, _ => rfl
  | _ + 1, [], [], _ => rfl
  | _ + 1, [], _ :: _, h => by simp at h
  | _ + 1, _ :: _, [], h => by simp at h
  | f + 1, x :: l, y :: m, h => by
    have h0 := h
    simp only [List.map_cons, List.cons.injEq] at h
    obtain ⟨k1, k2, k3⟩ := key_parts h.1
    rw [chainsF, chainsF, k2, spanGo_congr l m _ h.2, ids_congr (take_congr _ h0), chainsF_congr f _ _ (drop_congr _ h0)]
theorem chainsI_congr {l m : List Inf} (h : l.map Inf.key = m.map Inf.key) : chainsI l = chainsI m := by
  unfold chainsI
  rw [len_congr h, chainsF_congr _ _ _ h]
theorem pairOk_congr {a b c d : Inf} (h : a.key = c.key) (k : b.key = d.key) : pairOk a b = pairOk c d := by
  obtain ⟨h1, h2, h3⟩ := key_parts h
  obtain ⟨k1, k2, k3⟩ := key_parts k
  unfold pairOk
  rw [h1, h2, k1, k2]
theorem at_congr {l m : List Inf} (h : l.map Inf.key = m.map Inf.key) (i : Nat) : (l[i]? = none ∧ m[i]? = none) ∨ ∃ a b, l[i]? = some a ∧ m[i]? = some b ∧ a.key = b.key := by
  have h1 : (l.map Inf.key)[i]? = (m.map Inf.key)[i]? := by rw [h]
  rw [List.getElem?_map, List.getElem?_map] at h1
  cases hl : l[i]? <;> cases hm : m[i]? <;> rw [hl, hm] at h1 <;> simp at h1
  · exact .inl ⟨rfl, rfl⟩
  · exact .inr ⟨_, _, rfl, rfl, h1⟩
theorem rowOk_congr (n : Nat) {l m : List Inf} (h : l.map Inf.key = m.map Inf.key) : rowOk n l = rowOk n m := by
  unfold rowOk
  rw [len_congr h]
  have h2 : ∀ (i : Nat), (match l[i]?, l[i + 1]? with | some a, some b => pairOk a b | _, _ => false) = (match m[i]?, m[i + 1]? with | some a, some b => pairOk a b | _, _ => false) := by
    intro i
    rcases at_congr h i with ⟨h1, h2⟩ | ⟨a, b, h1, h2, h3⟩
    · rw [h1, h2]
    · rw [h1, h2]
      rcases at_congr h (i + 1) with ⟨k1, k2⟩ | ⟨c, d, k1, k2, k3⟩
      · rw [k1, k2]
      · rw [k1, k2]
        exact pairOk_congr h3 k3
  refine congrArg (fun z => decide (n ≤ m.length) && z) ?_
  exact congrArg (List.all (List.range (n - 1))) (funext fun i => h2 i)
theorem rowsF_congr (fan : Nat) : ∀ (f : Nat) (l m : List Inf), l.map Inf.key = m.map Inf.key → rowsF fan f l = rowsF fan f m
  | 0, _, _, _ => rfl
  | _ + 1, [], [], _ => rfl
  | _ + 1, [], _ :: _, h => by simp at h
  | _ + 1, _ :: _, [], h => by simp at h
  | f + 1, x :: l, y :: m, h => by
    rw [rowsF, rowsF, rowOk_congr fan h, ids_congr (take_congr _ h), rowsF_congr fan f _ _ (drop_congr _ h), rowsF_congr fan f _ _ (drop_congr 1 h)]
theorem rowsI_congr (fan : Nat) {l m : List Inf} (h : l.map Inf.key = m.map Inf.key) : rowsI fan l = rowsI fan m := by
  unfold rowsI
  rw [len_congr h, rowsF_congr fan _ _ _ h]
theorem groupsAt_congr (fan : Int) {l m : List Inf} (h : l.map Inf.key = m.map Inf.key) : groupsAt fan l = groupsAt fan m := by
  unfold groupsAt rowsP
  rw [chainsI_congr h, rowsI_congr _ h]

/-! one list by its order -/
theorem le_antisymm_key {x y : Key} (h1 : ltK y x = false) (h2 : ltK x y = false) : x = y := antiK x y h2 h1
theorem keys_unique {l m : List Key} (hp : l.Perm m) (hl : l.Pairwise fun x y => ltK y x = false) (hm : m.Pairwise fun x y => ltK y x = false) : l = m :=
  hp.eq_of_pairwise (fun _ _ _ _ h1 h2 => le_antisymm_key h1 h2) hl hm

/-- x stands at place k -/
def putAt (k : Nat) (x : Inf) (l : List Inf) : List Inf := l.take k ++ x :: l.drop k
theorem putAt_len (k : Nat) (x : Inf) (l : List Inf) (hk : k ≤ l.length) : (putAt k x l).length = l.length + 1 := by
  unfold putAt
  simp only [List.length_append, List.length_take, List.length_cons, List.length_drop]
  omega
theorem putAt_end (x : Inf) (l : List Inf) : putAt l.length x l = l ++ [x] := by
  unfold putAt
  simp
theorem putAt_at (k : Nat) (x : Inf) (l : List Inf) (hk : k ≤ l.length) : (putAt k x l)[k]? = some x := by
  unfold putAt
  rw [List.getElem?_append_right (by simp; omega)]
  simp [List.length_take, Nat.min_eq_left hk]
theorem putAt_low (k j : Nat) (x : Inf) (l : List Inf) (hj : j < k) : (putAt k x l)[j]? = if j < l.length then l[j]? else (putAt k x l)[j]? := by
  unfold putAt
  by_cases h : j < l.length
  · rw [if_pos h, List.getElem?_append_left (by simp; omega), List.getElem?_take, if_pos hj]
  · rw [if_neg h]
theorem putAt_swap (k : Nat) (x y : Inf) (l : List Inf) (hk : k + 1 ≤ l.length) (hy : l[k]? = some y) : ((putAt (k + 1) x l).set (k + 1) y).set k x = putAt k x l := by
  have hl : (l.take k).length = k := by rw [List.length_take]; omega
  unfold putAt
  rw [take_snoc? hy, drop_cons? hy, List.append_assoc]
  have e1 : (l.take k ++ ([y] ++ x :: l.drop (k + 1))).set (k + 1) y = l.take k ++ ([y] ++ y :: l.drop (k + 1)) := by
    rw [List.set_append, if_neg (by omega), hl]
    simp
  rw [e1, List.set_append, if_neg (by omega), hl]
  simp
theorem putAt_perm (k : Nat) (x : Inf) (l : List Inf) : (putAt k x l).Perm (l ++ [x]) := by
  unfold putAt
  have h1 : (l.take k ++ x :: l.drop k).Perm (x :: (l.take k ++ l.drop k)) := List.perm_middle
  rw [List.take_append_drop] at h1
  exact h1.trans (List.perm_append_singleton x l).symm
/-- in the order of the document -/
def InOrd (l : List Inf) : Prop := l.Pairwise fun a b => ltK b.key a.key = false
theorem asymK {a b : Key} (h : ltK a b = true) : ltK b a = false := by
  cases h2 : ltK b a with
  | false => rfl
  | true =>
    have := swoK.trans _ _ _ h h2
    rw [swoK.irrefl] at this
    cases this
theorem putAt_ord (k : Nat) (x : Inf) (l : List Inf) (hl : InOrd l) (hk : k ≤ l.length) (hup : ∀ (j : Nat) (y : Inf), k ≤ j → l[j]? = some y → ltK x.key y.key = true) (hlow : ∀ (y : Inf), 0 < k → l[k - 1]? = some y → ltK x.key y.key = false) : InOrd (putAt k x l) := by
  unfold InOrd putAt at *
  have hsplit := hl
  rw [← List.take_append_drop k l, List.pairwise_append] at hsplit
  obtain ⟨p1, p2, p3⟩ := hsplit
  rw [List.pairwise_append]
  have hdr : ∀ y ∈ l.drop k, ltK x.key y.key = true := by
    intro y hy
    obtain ⟨j, hj, rfl⟩ := List.getElem_of_mem hy
    rw [List.length_drop] at hj
    refine hup (k + j) _ (by omega) ?_
    rw [List.getElem_drop]
    exact List.getElem?_eq_getElem (by omega)
  have htk : ∀ y ∈ l.take k, ltK x.key y.key = false := by
    intro y hy
    obtain ⟨j, hj, rfl⟩ := List.getElem_of_mem hy
    rw [List.length_take] at hj
    have hk1 : k - 1 < l.length := by omega
    have h0 := hlow l[k - 1] (by omega) (List.getElem?_eq_getElem hk1)
    rw [List.getElem_take]
    rcases Nat.lt_or_ge j (k - 1) with h | h
    · have h1 := List.pairwise_iff_getElem.1 hl j (k - 1) (by omega) hk1 h
      exact swoK.ntrans _ _ _ h0 h1
    · have : j = k - 1 := by omega
      subst this
      exact h0
  refine ⟨p1, List.pairwise_cons.2 ⟨fun y hy => asymK (hdr y hy), p2⟩, ?_⟩
  intro a ha b hb
  rcases List.mem_cons.1 hb with rfl | hb
  · exact htk a ha
  · exact p3 a ha b hb
theorem InOrd.keys {l m : List Inf} (h : InOrd l) (k : InOrd m) (hp : l.Perm m) : l.map Inf.key = m.map Inf.key := by
  refine keys_unique (hp.map _) ?_ ?_
  · exact List.pairwise_map.2 h
  · exact List.pairwise_map.2 k
theorem sortedI_ord (l : List Inf) : InOrd (sortedI l) := by
  have h : ((sortedI l).map Inf.key).Pairwise fun x y => ltK y x = false := by
    rw [(keys_sorted l).1]
    have := List.pairwise_mergeSort (le := fun x y => !ltK y x) (fun a b c h1 h2 => by
      simp only [Bool.not_eq_true'] at *
      exact swoK.ntrans _ _ _ h2 h1) (fun a b => by
      cases h : ltK b a with
      | false => rfl
      | true => simp [asymK h]) (l.map Inf.key)
    exact this.imp (fun h => by simpa using h)
  exact List.pairwise_map.1 h
theorem ref_groups (fan : Int) {l m : List Inf} (hp : l.Perm m) (h : InOrd l) : groupsAt fan l = groupsAt fan (sortedI m) :=
  groupsAt_congr fan (h.keys (sortedI_ord m) (hp.trans (keys_sorted m).2.2.symm))
end Go.Proofs.Ytohocdbneopooaa
