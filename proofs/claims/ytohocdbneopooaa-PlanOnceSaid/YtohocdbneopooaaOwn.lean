/- Rows of the call's own that lie apart: one grows, the others stay. No condition. -/
import Derived.Test.YtohocdbneopooaaBase
namespace Go.Proofs.Ytohocdbneopooaa
set_option maxRecDepth 100000
open Go.RowKit

/-- Two rows share no block. -/
def Apart (a b : Value) : Prop := ∀ g, a.ownBlock = some g → b.ownBlock ≠ some g

theorem Apart.symm {a b : Value} (h : Apart a b) : Apart b a := fun g hb ha => h g ha hb
theorem Apart.nil_left {b : Value} : Apart (.slice none 0 0) b := fun g h => by simp [Value.ownBlock] at h

section
variable {w w' : World} {base base' n n' size size' : Nat} {e e' : TypeId} {v1 v1' v2 : Value} {xs ys : List Value}
theorem Apart.kept (ha : Apart v1 v2) (h2 : w.ownsRow base e size v2 n xs) (hg : w.grownBy w' v1.ownBlock) : w'.ownsRow base e size v2 n xs := by
  refine h2.kept hg ?_
  cases hb : v2.ownBlock with
  | none => exact .inl rfl
  | some g => exact .inr fun h => ha g h.symm hb
theorem Apart.next (ha : Apart v1 v2) (h2 : w.ownsRow base e size v2 n xs) (hat : v1'.ownBlock = v1.ownBlock ∨ v1'.ownBlock = some w.heap.size) : Apart v1' v2 := by
  intro g h1 hb
  rcases hat with h | h
  · exact ha g (h.symm.trans h1) hb
  · rw [h] at h1
    injection h1 with h1
    have := (h2.lt g hb).2
    omega
end

/-! Behind 'v1 = append(v1, x)': x lay in a new block c of w; the world is w6. -/
section
variable {w w6 : World} {base base' n n' size size' : Nat} {e e' : TypeId} {v1 v1' v2 : Value} {xs ys : List Value} {c : Obj}
theorem app_own (hg6 : (w.alloc c).grownBy w6 v1.ownBlock) (ha : Apart v1 v2) (o2 : w.ownsRow base e size v2 n xs) : w6.ownsRow base e size v2 n xs := ha.kept (o2.alloc _) hg6
theorem app_apart (hat : v1'.ownBlock = v1.ownBlock ∨ v1'.ownBlock = some (w.alloc c).heap.size) (ha : Apart v1 v2) (o2 : w.ownsRow base e size v2 n xs) : Apart v1' v2 := ha.next (o2.alloc c) hat
theorem app_whole (hg6 : (w.alloc c).grownBy w6 v1.ownBlock) (o1 : w.ownsRow base e size v1 n xs) {g : Nat} {t : TypeId} {cs : Array Value} (h : Whole1 w g t cs) (hg : g < base) : Whole1 w6 g t cs := (h.alloc _).grown hg6 (own_ne o1 hg)
theorem app_size (hg6 : (w.alloc c).grownBy w6 v1.ownBlock) : w.heap.size + 1 ≤ w6.heap.size := by have := hg6.size; simpa using this
theorem app_below (hg6 : (w.alloc c).grownBy w6 v1.ownBlock) (o1 : w.ownsRow base e size v1 n xs) {B : Nat} {a : World} (h : Below B a w) (hB : B ≤ base) (hBw : B ≤ w.heap.size) : Below B a w6 :=
  (h.alloc hBw _).grown hg6 (by simp; omega) (own_ge o1 hB)
theorem app_cell (hg6 : (w.alloc c).grownBy w6 v1.ownBlock) (o1 : w.ownsRow base e size v1 n xs) {g j : Nat} {u : Value} (h : w.cell? ⟨g, j, none⟩ = some u) (hg : g < base) : w6.cell? ⟨g, j, none⟩ = some u := by
  have hlt : g < w.heap.size := World.block_lt_of_cell? w _ h
  have h1 : (w.alloc c).cell? ⟨g, j, none⟩ = some u := (World.cell?_alloc_lt w c ⟨g, j, none⟩ hlt).trans h
  exact hg6.cell h1 (own_ne o1 hg)
end
end Go.Proofs.Ytohocdbneopooaa
