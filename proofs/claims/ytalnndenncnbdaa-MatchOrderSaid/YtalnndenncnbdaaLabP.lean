/- Sets of labels, plainly: what is a name, a value, which error a list has, its sorted list. No program is walked here. -/
import Derived.Test.YtalnndenncnbdaaLabC
namespace Go.Proofs.Ytalnndenncnbdaa
set_option maxRecDepth 100000
open Go.RowKit

def digitB (b : UInt8) : Bool := decide (48 ≤ b.toNat) && decide (b.toNat ≤ 57)
def letterB (b : UInt8) : Bool := (decide (97 ≤ b.toNat) && decide (b.toNat ≤ 122)) || (decide (65 ≤ b.toNat) && decide (b.toNat ≤ 90)) || decide (b.toNat = 95)
/-- may b stand at place i of a name? -/
def nameB (i : Nat) (b : UInt8) : Bool := letterB b || (digitB b && decide (i ≠ 0))
def namesUpto (s : List UInt8) (k : Nat) : Prop := ∀ i b, i < k → s[i]? = some b → nameB i b = true
def nameAll (s : List UInt8) : Bool := (List.range s.length).all fun i => match s[i]? with
  | some b => nameB i b
  | none => true
def fitN (s : ByteArray) : Bool := nameAll s.data.toList && (decide (1 ≤ s.size) && decide (s.size ≤ 32))
theorem nameAll_iff (s : List UInt8) : nameAll s = true ↔ namesUpto s s.length := by
  unfold nameAll namesUpto
  rw [List.all_eq_true]
  constructor
  · intro h i b hi hb
    have := h i (List.mem_range.2 hi)
    rw [hb] at this
    exact this
  · intro h i hi
    cases hb : s[i]? with
    | none => rfl
    | some b => exact h i b (List.mem_range.1 hi) hb
theorem size_list (s : ByteArray) : s.data.toList.length = s.size := rfl
def fitV (s : ByteArray) : Bool := decide (1 ≤ s.size ∧ s.size ≤ 64)
theorem namesUpto_zero (s : List UInt8) : namesUpto s 0 := fun _ _ h => absurd h (Nat.not_lt_zero _)
theorem namesUpto_succ {s : List UInt8} {k : Nat} {b : UInt8} (h : namesUpto s k) (hb : s[k]? = some b) (hn : nameB k b = true) : namesUpto s (k + 1) := fun i c hi hc => by
  by_cases e : i = k
  · subst e; have := hc.symm.trans hb; cases this; exact hn
  · exact h i c (by omega) hc
theorem fitN_no {s : ByteArray} {k : Nat} {b : UInt8} (hk : k < s.size) (hb : s.data.toList[k]? = some b) (hn : nameB k b = false) : fitN s = false := by
  have h : nameAll s.data.toList = false := by
    cases h : nameAll s.data.toList with
    | false => rfl
    | true =>
      have := (nameAll_iff _).1 h k b (by rw [size_list]; exact hk) hb
      rw [hn] at this; cases this
  rw [fitN, h, Bool.false_and]
theorem fitN_end {s : ByteArray} (h : namesUpto s.data.toList s.size) : fitN s = (decide (1 ≤ s.size) && decide (s.size ≤ 32)) := by
  rw [fitN, (nameAll_iff _).2 (by rw [size_list]; exact h), Bool.true_and]

/-- the error that the label at place i has -/
def errAt (l : List Lbl) (i : Nat) : Nat :=
  match l[i]? with
  | none => 0
  | some x => if fitN x.name = false then 40 else if fitV x.value = false then 41 else if (∃ y ∈ l.take i, y.name = x.name) then 42 else 0
def errUpto (l : List Lbl) : Nat → Nat
  | 0 => 0
  | k + 1 => if errUpto l k = 0 then errAt l k else errUpto l k
def makeErr (l : List Lbl) : Nat := if l.length = 0 then 43 else if 8 < l.length then 44 else errUpto l l.length
theorem errUpto_stop {l : List Lbl} {k : Nat} (h : errUpto l k = 0) (he : errAt l k ≠ 0) : ∀ m, k + 1 ≤ m → errUpto l m = errAt l k
  | 0, hm => absurd hm (by omega)
  | m + 1, hm => by
    by_cases e : m = k
    · subst e; rw [errUpto, if_pos h]
    · have := errUpto_stop h he m (by omega)
      rw [errUpto, if_neg (by rw [this]; exact he), this]
theorem errUpto_next {l : List Lbl} {k : Nat} (h : errUpto l k = 0) (he : errAt l k = 0) : errUpto l (k + 1) = 0 := by rw [errUpto, if_pos h, he]
theorem errUpto_le {l : List Lbl} : ∀ {m k : Nat}, errUpto l m = 0 → k ≤ m → errUpto l k = 0
  | 0, k, h, hk => by have : k = 0 := by omega
                      subst this; exact h
  | m + 1, k, h, hk => by
    rw [errUpto] at h
    split at h
    · rename_i h2
      by_cases e : k = m + 1
      · subst e; rw [errUpto, if_pos h2, h]
      · exact errUpto_le h2 (by omega)
    · rename_i h2; exact absurd h h2
theorem errAt_zero {l : List Lbl} {m k : Nat} (h : errUpto l m = 0) (hk : k < m) : errAt l k = 0 := by
  have h1 := errUpto_le h (show k + 1 ≤ m by omega)
  have h2 := errUpto_le h (show k ≤ m by omega)
  rwa [errUpto, if_pos h2] at h1
theorem errAt_of {l : List Lbl} {k : Nat} {x : Lbl} (hx : l[k]? = some x) : errAt l k = if fitN x.name = false then 40 else if fitV x.value = false then 41 else if (∃ y ∈ l.take k, y.name = x.name) then 42 else 0 := by rw [errAt, hx]
theorem errAt_ok {l : List Lbl} {k : Nat} {x : Lbl} (hx : l[k]? = some x) (h : errAt l k = 0) : fitN x.name = true ∧ fitV x.value = true ∧ ∀ y ∈ l.take k, y.name ≠ x.name := by
  rw [errAt_of hx] at h
  split at h
  · cases h
  · split at h
    · cases h
    · split at h
      · cases h
      · rename_i h1 h2 h3
        exact ⟨by simpa using h1, by simpa using h2, fun y hy e => h3 ⟨y, hy, e⟩⟩
theorem makeErr_ok {l : List Lbl} (h : makeErr l = 0) : 0 < l.length ∧ l.length ≤ 8 ∧ errUpto l l.length = 0 := by
  unfold makeErr at h
  split at h
  · cases h
  · split at h
    · cases h
    · exact ⟨by omega, by omega, h⟩
/-- no name twice -/
theorem make_apart {l : List Lbl} (h : errUpto l l.length = 0) : l.Pairwise fun x y => x.name ≠ y.name := by
  rw [List.pairwise_iff_getElem]
  intro i j hi hj hij e
  have hx : l[j]? = some l[j] := List.getElem?_eq_getElem hj
  refine (errAt_ok hx (errAt_zero h hj)).2.2 l[i] ?_ e
  refine List.mem_iff_getElem?.2 ⟨i, ?_⟩
  rw [List.getElem?_take_of_lt hij]
  exact List.getElem?_eq_getElem hi
theorem make_fits {l : List Lbl} (h : errUpto l l.length = 0) : ∀ x ∈ l, fitN x.name = true ∧ fitV x.value = true := fun x hx => by
  obtain ⟨i, hi⟩ := List.mem_iff_getElem?.1 hx
  have hl := (List.getElem?_eq_some_iff.1 hi).1
  have := errAt_ok hi (errAt_zero h hl)
  exact ⟨this.1, this.2.1⟩

/-! in the order of the names -/
def ltN (x y : Lbl) : Prop := cmpB x.name y.name < 0
def upN (l : List Lbl) : Prop := l.Pairwise ltN
theorem ltN_irr (x : Lbl) : ¬ ltN x x := fun h => by
  have h0 := (tri_B.zero x.name x.name).2 rfl
  unfold ltN at h; omega
theorem ltN_trans {x y z : Lbl} (h : ltN x y) (k : ltN y z) : ltN x z := by
  unfold ltN at *
  have a := tri_B.range x.name y.name
  have b := tri_B.range y.name z.name
  have := tri_B.trans x.name y.name z.name (by omega) (by omega)
  omega
theorem up_unique : ∀ {a b : List Lbl}, upN a → upN b → a.Perm b → a = b
  | [], b, _, _, h => (List.Perm.nil_eq h)
  | x :: a, [], _, _, h => absurd h.length_eq (by simp)
  | x :: a, y :: b, ha, hb, h => by
    obtain ⟨a1, a2⟩ := List.pairwise_cons.1 ha
    obtain ⟨b1, b2⟩ := List.pairwise_cons.1 hb
    have hxy : x = y := by
      rcases List.mem_cons.1 (h.mem_iff.1 (List.mem_cons_self ..)) with e | hx
      · exact e
      · rcases List.mem_cons.1 (h.mem_iff.2 (List.mem_cons_self ..)) with e | hy
        · exact e.symm
        · have h1 := b1 x hx
          have h2 := a1 y hy
          have h3 := tri_B.turn x.name y.name
          unfold ltN at h1 h2
          omega
    subst hxy
    rw [up_unique a2 b2 (List.Perm.cons_inv h)]
theorem leN_trans (a b c : Lbl) (h1 : cmpB a.name b.name ≤ 0) (h2 : cmpB b.name c.name ≤ 0) : cmpB a.name c.name ≤ 0 := by
  rcases tri_B.range a.name b.name with h | h | h
  · rcases tri_B.range b.name c.name with k | k | k
    · have := tri_B.trans _ _ _ h k; omega
    · rw [← (tri_B.zero _ _).1 k]; omega
    · omega
  · rw [(tri_B.zero _ _).1 h]; exact h2
  · omega
/-- the list in the order of its names -/
def sortN (l : List Lbl) : List Lbl := l.mergeSort fun x y => decide (cmpB x.name y.name ≤ 0)
theorem sortN_perm (l : List Lbl) : (sortN l).Perm l := List.mergeSort_perm l _
theorem sortN_up {l : List Lbl} (h : l.Pairwise fun x y => x.name ≠ y.name) : upN (sortN l) := by
  have h1 : (sortN l).Pairwise fun x y => decide (cmpB x.name y.name ≤ 0) = true := List.pairwise_mergeSort (fun a b c h1 h2 => by
    simp only [decide_eq_true_eq] at *
    exact leN_trans a b c h1 h2) (fun a b => by
    have := tri_B.turn a.name b.name
    simp; omega) l
  have h2 : (sortN l).Pairwise fun x y => x.name ≠ y.name := (sortN_perm l).symm.pairwise h fun h e => h e.symm
  refine (h1.and h2).imp ?_
  rintro x y ⟨a, b⟩
  simp only [decide_eq_true_eq] at a
  unfold ltN
  rcases tri_B.range x.name y.name with h | h | h
  · omega
  · exact absurd ((tri_B.zero _ _).1 h) b
  · omega
theorem sortN_uniq {l E : List Lbl} (h : l.Pairwise fun x y => x.name ≠ y.name) (hE : upN E) (hp : E.Perm l) : E = sortN l :=
  up_unique hE (sortN_up h) (hp.trans (sortN_perm l).symm)
/-- what Make answers -/
def makeL (l : List Lbl) : List Lbl := if makeErr l = 0 then sortN l else []
def validP (l : List Lbl) : Prop := makeErr l = 0 ∧ upN l
theorem makeL_len {l : List Lbl} : (makeL l).length ≤ 8 := by
  unfold makeL
  split
  · rename_i h
    rw [(sortN_perm l).length_eq]
    exact (makeErr_ok h).2.1
  · exact Nat.zero_le _
theorem up_apart {l : List Lbl} (h : upN l) : l.Pairwise fun x y => x.name ≠ y.name := h.imp fun {x y} h e => by
  have := (tri_B.zero x.name y.name).2 e
  unfold ltN at h; omega
/-- a list that is fit in every place has no error -/
theorem errUpto_fit {l : List Lbl} (hf : ∀ x ∈ l, fitN x.name = true ∧ fitV x.value = true) (ha : l.Pairwise fun x y => x.name ≠ y.name) : ∀ k, errUpto l k = 0
  | 0 => rfl
  | k + 1 => by
    refine errUpto_next (errUpto_fit hf ha k) ?_
    cases hx : l[k]? with
    | none => rw [errAt, hx]
    | some x =>
      obtain ⟨h1, h2⟩ := hf x (List.mem_of_getElem? hx)
      rw [errAt_of hx, h1, h2, if_neg (by simp), if_neg (by simp), if_neg]
      rintro ⟨y, hy, e⟩
      obtain ⟨i, hi⟩ := List.mem_iff_getElem?.1 hy
      have hil := (List.getElem?_eq_some_iff.1 hi).1
      have hik : i < k := by rw [List.length_take] at hil; omega
      rw [List.getElem?_take_of_lt hik] at hi
      obtain ⟨hi1, hi2⟩ := List.getElem?_eq_some_iff.1 hi
      obtain ⟨hx1, hx2⟩ := List.getElem?_eq_some_iff.1 hx
      exact List.pairwise_iff_getElem.1 ha i k hi1 hx1 hik (by rw [hi2, hx2]; exact e)
/-- the sorted list of a fit list is fit -/
theorem sortN_valid {l : List Lbl} (h : makeErr l = 0) : validP (sortN l) := by
  obtain ⟨h1, h2, h3⟩ := makeErr_ok h
  have hp := sortN_perm l
  have ha := make_apart h3
  refine ⟨?_, sortN_up ha⟩
  unfold makeErr
  rw [hp.length_eq, if_neg (by omega), if_neg (by omega)]
  exact errUpto_fit (fun x hx => make_fits h3 x (hp.mem_iff.1 hx)) (up_apart (sortN_up ha)) _
end Go.Proofs.Ytalnndenncnbdaa
