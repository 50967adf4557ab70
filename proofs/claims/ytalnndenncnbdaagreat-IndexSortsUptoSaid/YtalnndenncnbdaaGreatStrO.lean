/- Rising lists of texts, plainly. No program is walked here. -/
import Derived.Test.YtalnndenncnbdaaGreatBase
import Derived.Sort.Walk0
namespace Go.Proofs.YtalnndenncnbdaaGreat
set_option maxRecDepth 100000
open Go.RowKit

/-- what is in order, each once, is told by what is in it -/
theorem pw_ext {α : Type} {lt : α → α → Prop} (irr : ∀ x, ¬ lt x x) (tr : ∀ x y z, lt x y → lt y z → lt x z) {a b : List α} (ha : a.Pairwise lt) (hb : b.Pairwise lt) (h : ∀ x, x ∈ a ↔ x ∈ b) : a = b := by
  have nd : ∀ {l : List α}, l.Pairwise lt → l.Nodup := fun h => List.Pairwise.imp (S := fun x y => x ≠ y) (fun {x y} k e => irr x (by rw [← e] at k; exact k)) h
  refine ((List.perm_ext_iff_of_nodup (nd ha) (nd hb)).2 h).eq_of_pairwise (le := lt) (fun x y _ _ h1 h2 => absurd (tr _ _ _ h1 h2) (irr x)) ha hb
theorem bytes_ext {x y : ByteArray} (h : x.data.toList = y.data.toList) : x = y := by
  cases x; cases y
  congr 1
  exact Array.ext' h
/-- Go's '<' on strings -/
def bLt (x y : ByteArray) : Prop := x.data.toList < y.data.toList
theorem bLt_irr (x : ByteArray) : ¬ bLt x x := List.lt_irrefl _
theorem bLt_trans (x y z : ByteArray) (h : bLt x y) (k : bLt y z) : bLt x z := List.lt_trans h k
theorem bLt_tri (x y : ByteArray) : bLt x y ∨ x = y ∨ bLt y x := by
  by_cases h : x.data.toList < y.data.toList
  · exact .inl h
  · by_cases k : y.data.toList < x.data.toList
    · exact .inr (.inr k)
    · exact .inr (.inl (bytes_ext (List.le_antisymm (List.not_lt.1 k) (List.not_lt.1 h))))
theorem bl_true {x y : ByteArray} (h : bLt x y) : Op.bytesLess x.toList y.toList = true := by
  rw [Lib.toList_data, Lib.toList_data, bytesLess_eq]
  exact decide_eq_true h
theorem bl_false {x y : ByteArray} (h : ¬ bLt x y) : Op.bytesLess x.toList y.toList = false := by
  rw [Lib.toList_data, Lib.toList_data, bytesLess_eq]
  exact decide_eq_false h
def riseB (l : List ByteArray) : Prop := l.Pairwise bLt
theorem riseB_ext {a b : List ByteArray} (ha : riseB a) (hb : riseB b) (h : ∀ x, x ∈ a ↔ x ∈ b) : a = b := pw_ext bLt_irr bLt_trans ha hb h
open Classical in
/-- two rising lists as one -/
noncomputable def mrgS : List ByteArray → List ByteArray → List ByteArray
  | [], b => b
  | x :: a, [] => x :: a
  | x :: a, y :: b => if bLt x y then x :: mrgS a (y :: b) else if x = y then y :: mrgS a b else y :: mrgS (x :: a) b
termination_by a b => a.length + b.length
theorem mrgS_nil (a : List ByteArray) : mrgS a [] = a := by cases a <;> simp [mrgS]
theorem nil_mrgS (b : List ByteArray) : mrgS [] b = b := by simp [mrgS]
theorem mem_mrgS {z : ByteArray} : ∀ {a b : List ByteArray}, z ∈ mrgS a b ↔ z ∈ a ∨ z ∈ b := by
  intro a b
  fun_induction mrgS a b with
  | case1 b => simp
  | case2 x a => simp
  | case3 x a y b h ih => simp only [List.mem_cons, ih]; grind
  | case4 a y b h ih => simp only [List.mem_cons, ih]; grind
  | case5 x a y b h h2 ih => simp only [List.mem_cons, ih]; grind
theorem mrgS_rise : ∀ {a b : List ByteArray}, riseB a → riseB b → riseB (mrgS a b) := by
  intro a b
  fun_induction mrgS a b with
  | case1 b => exact fun _ h => h
  | case2 x a => exact fun h _ => h
  | case3 x a y b h ih =>
    intro ha hb
    obtain ⟨h1, h2⟩ := List.pairwise_cons.1 ha
    obtain ⟨k1, k2⟩ := List.pairwise_cons.1 hb
    refine List.pairwise_cons.2 ⟨fun z hz => ?_, ih h2 hb⟩
    rcases mem_mrgS.1 hz with hz | hz
    · exact h1 z hz
    · rcases List.mem_cons.1 hz with rfl | hz
      · exact h
      · exact bLt_trans _ _ _ h (k1 z hz)
  | case4 a y b h ih =>
    intro ha hb
    obtain ⟨h1, h2⟩ := List.pairwise_cons.1 ha
    obtain ⟨k1, k2⟩ := List.pairwise_cons.1 hb
    refine List.pairwise_cons.2 ⟨fun z hz => ?_, ih h2 k2⟩
    rcases mem_mrgS.1 hz with hz | hz
    · exact h1 z hz
    · exact k1 z hz
  | case5 x a y b h h2' ih =>
    intro ha hb
    obtain ⟨h1, h2⟩ := List.pairwise_cons.1 ha
    obtain ⟨k1, k2⟩ := List.pairwise_cons.1 hb
    have hyx : bLt y x := by
      rcases bLt_tri x y with h3 | h3 | h3
      · exact absurd h3 h
      · exact absurd h3 h2'
      · exact h3
    refine List.pairwise_cons.2 ⟨fun z hz => ?_, ih ha k2⟩
    rcases mem_mrgS.1 hz with hz | hz
    · rcases List.mem_cons.1 hz with rfl | hz
      · exact hyx
      · exact bLt_trans _ _ _ hyx (h1 z hz)
    · exact k1 z hz
/-- texts as they lie -/
structure TxF (w : World) (A : Option Addr) (n : Nat) (l : List ByteArray) : Prop where
  row : Row w w.heap.size 1 A n (l.map Value.string)
  len : l.length = n
  fit : n * 16 ≤ 140737488351232
theorem TxF.on {w w' : World} {A : Option Addr} {n : Nat} {l : List ByteArray} (h : TxF w A n l) (hb : Below w.heap.size w w') : TxF w' A n l := ⟨(h.row.below hb).more hb.size, h.len, h.fit⟩
theorem tx_cell {w : World} {A : Option Addr} {n : Nat} {l : List ByteArray} (h : TxF w A n l) {k : Nat} (hk : k < n) : ∃ g o x, A = some ⟨g, o, none⟩ ∧ g < w.heap.size ∧ l[k]? = some x ∧ w.cell? ⟨g, o + k, none⟩ = some (.string x) := by
  have hl := h.len
  obtain ⟨g, o, e, hb, hc⟩ := h.row.at_ (by omega)
  obtain ⟨s, hs⟩ : ∃ s, l[k]? = some s := ⟨_, List.getElem?_eq_getElem (by omega)⟩
  refine ⟨g, o, s, e, hb, hs, ?_⟩
  rw [hc k (by omega), List.getElem?_map, hs]
  rfl
theorem mrgS_left {a b : List ByteArray} {i k : Nat} {x : ByteArray} (hx : a[i]? = some x) (h : b.length ≤ k ∨ ∃ y, b[k]? = some y ∧ bLt x y) : mrgS (a.drop i) (b.drop k) = x :: mrgS (a.drop (i + 1)) (b.drop k) := by
  obtain ⟨hi, rfl⟩ := List.getElem?_eq_some_iff.1 hx
  rw [List.drop_eq_getElem_cons hi]
  rcases h with h | ⟨y, hy, hlt⟩
  · rw [List.drop_of_length_le h, mrgS_nil, mrgS_nil]
  · obtain ⟨hk, rfl⟩ := List.getElem?_eq_some_iff.1 hy
    rw [List.drop_eq_getElem_cons hk, mrgS, if_pos hlt]
theorem mrgS_same {a b : List ByteArray} {i k : Nat} {x : ByteArray} (hx : a[i]? = some x) (hy : b[k]? = some x) : mrgS (a.drop i) (b.drop k) = x :: mrgS (a.drop (i + 1)) (b.drop (k + 1)) := by
  obtain ⟨hi, e1⟩ := List.getElem?_eq_some_iff.1 hx
  obtain ⟨hk, e2⟩ := List.getElem?_eq_some_iff.1 hy
  rw [List.drop_eq_getElem_cons hi, List.drop_eq_getElem_cons hk, e1, e2, mrgS, if_neg (bLt_irr x), if_pos rfl]
theorem mrgS_right {a b : List ByteArray} {i k : Nat} {y : ByteArray} (hy : b[k]? = some y) (h : a.length ≤ i ∨ ∃ x, a[i]? = some x ∧ bLt y x) : mrgS (a.drop i) (b.drop k) = y :: mrgS (a.drop i) (b.drop (k + 1)) := by
  obtain ⟨hk, rfl⟩ := List.getElem?_eq_some_iff.1 hy
  rcases h with h | ⟨x, hx, hlt⟩
  · rw [List.drop_of_length_le h, nil_mrgS, nil_mrgS, List.drop_eq_getElem_cons hk]
  · obtain ⟨hi, rfl⟩ := List.getElem?_eq_some_iff.1 hx
    rw [List.drop_eq_getElem_cons hi, List.drop_eq_getElem_cons hk, mrgS, if_neg (fun h => bLt_irr _ (bLt_trans _ _ _ h hlt)), if_neg (fun e => bLt_irr _ (by rw [e] at hlt; exact hlt))]
end Go.Proofs.YtalnndenncnbdaaGreat
