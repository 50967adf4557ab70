/- Memory words of this claim's own: a block that is known whole; cells that a slice shows; what only one block's turning leaves. No condition. -/
import Derived.Test.YtfcpphfiickpoaaRows
import Derived.WalkKit
import Derived.WalkSpells
import Derived.WalkLawsBesides
namespace Go.Proofs.Ytfcpphfiickpoaa
open Go.RowKit

theorem hidden {p : Prop} (h : p) : Hid p := h
theorem ret_of {v v' : Value} (h : v = v') : Ending.returned v = .returned v' := by rw [h]
theorem ret_bool {a b : Bool} (h : a = b) : Ending.returned (.bool a) = .returned (.bool b) := by rw [h]
theorem ret_int {k : IntKind} {a b : Int} (h : a = b) : Ending.returned (.int k a) = .returned (.int k b) := by rw [h]
theorem ret_pair {k l : IntKind} {a b c d : Int} (h : a = b) (h' : c = d) : Ending.returned (.tuple #[.int k a, .int l c]) = .returned (.tuple #[.int k b, .int l d]) := by rw [h, h']

/-- Block g is just these cells, none of them frozen. -/
def Whole1 (w : World) (g : Nat) (t : TypeId) (cs : Array Value) : Prop := w.heap[g]? = some (.cells cs t (0, 0))

section
variable {w w' : World} {g : Nat} {t : TypeId} {cs : Array Value}
theorem Whole1.lt (h : Whole1 w g t cs) : g < w.heap.size := (Array.getElem?_eq_some_iff.1 h).1
theorem Whole1.cell (h : Whole1 w g t cs) (i : Nat) : w.cell? ⟨g, i, none⟩ = cs[i]? := by
  unfold Whole1 at h; simp [World.cell?, h]
theorem Whole1.free (h : Whole1 w g t cs) (i : Nat) : w.frozen? ⟨g, i, none⟩ = false := by
  unfold Whole1 at h; simp [World.frozen?, h]
theorem Whole1.new (w : World) (t : TypeId) (cs : Array Value) : Whole1 (w.alloc (.cells cs t)) w.heap.size t cs := heap_alloc_new w _
theorem Whole1.drew (h : Whole1 w g t cs) : Whole1 w.drew g t cs := h
theorem Whole1.drewN (h : Whole1 w g t cs) (n : Nat) : Whole1 (w.drewN n) g t cs := h
theorem Whole1.alloc (h : Whole1 w g t cs) (o : Obj) : Whole1 (w.alloc o) g t cs := (Below.heap_alloc w o g h.lt).trans h
theorem Whole1.put (h : Whole1 w g t cs) (i : Nat) (u : Value) : Whole1 (w.setCell ⟨g, i, none⟩ u) g t (cs.setIfInBounds i u) := by
  unfold Whole1 at h ⊢; simp [World.setCell, Array.getElem?_modify, h]
theorem Whole1.off (h : Whole1 w g t cs) {p : Addr} (hp : g ≠ p.block) (u : Value) : Whole1 (w.setCell p u) g t cs := (Below.heap_setCell w p u g hp).trans h
theorem Whole1.below {B : Nat} (h : Whole1 w g t cs) (hb : Below B w w') (hg : g < B) : Whole1 w' g t cs := (hb.block g hg).trans h
theorem Whole1.grown {row : Option Nat} (h : Whole1 w g t cs) (hb : w.grownBy w' row) (hg : some g ≠ row) : Whole1 w' g t cs := (hb.block g h.lt hg).trans h
end

/-! Only block g, and what is new, may have turned: 'w.grownBy w' (some g)'. -/
theorem gb_refl (w : World) (row : Option Nat) : w.grownBy w row := ⟨rfl, rfl, rfl, Nat.le_refl _, fun _ _ _ => rfl⟩
theorem gb_trans {a b c : World} {row : Option Nat} (h : a.grownBy b row) (k : b.grownBy c row) : a.grownBy c row :=
  ⟨k.os.trans h.os, k.tape.trans h.tape, k.output.trans h.output, Nat.le_trans h.size k.size, fun i hi hn => (k.block i (Nat.lt_of_lt_of_le hi h.size) hn).trans (h.block i hi hn)⟩
theorem gb_drew {a w : World} {row : Option Nat} (h : a.grownBy w row) : a.grownBy w.drew row := ⟨h.os, h.tape, h.output, h.size, h.block⟩
theorem gb_drewN {a w : World} {row : Option Nat} (h : a.grownBy w row) (n : Nat) : a.grownBy (w.drewN n) row := ⟨h.os, h.tape, h.output, h.size, h.block⟩
theorem gb_alloc {a w : World} {row : Option Nat} (h : a.grownBy w row) (o : Obj) : a.grownBy (w.alloc o) row :=
  gb_trans h ⟨rfl, rfl, rfl, by simp, fun i hi _ => Below.heap_alloc w o i hi⟩
theorem gb_put {a w : World} {g : Nat} (h : a.grownBy w (some g)) (i : Nat) (u : Value) : a.grownBy (w.setCell ⟨g, i, none⟩ u) (some g) :=
  gb_trans h ⟨rfl, rfl, rfl, by simp, fun k _ hk => Below.heap_setCell w _ u k (fun e => hk (by rw [e]))⟩
theorem gb_below {a w : World} (h : Below a.heap.size a w) (row : Option Nat) : a.grownBy w row := ⟨h.os, h.tape, h.output, h.size, fun i hi _ => h.block i hi⟩
theorem below_gb {B : Nat} {a w w' : World} {g : Nat} (h : Below B a w) (k : w.grownBy w' (some g)) (hB : B ≤ w.heap.size) (hg : B ≤ g) : Below B a w' :=
  h.grown k hB (fun j hj => by injection hj with hj; omega)
theorem below_drewN {B : Nat} {a w : World} (h : Below B a w) (n : Nat) : Below B a (w.drewN n) := ⟨h.os, h.tape, h.output, h.size, h.block⟩

/-- The slice of n elements (size cells each) that begins at A shows the cells xs; it lies below block B. -/
structure Row (w : World) (B size : Nat) (A : Option Addr) (n : Nat) (xs : List Value) : Prop where
  len : xs.length = n * size
  at_ : 0 < n → ∃ g o, A = some ⟨g, o, none⟩ ∧ g < B ∧ ∀ j, j < n * size → w.cell? ⟨g, o + j, none⟩ = xs[j]?

section
variable {w w' : World} {B B' size n : Nat} {A : Option Addr} {xs : List Value}
theorem Row.nil : Row w B size A 0 [] := ⟨by simp, fun h => absurd h (by omega)⟩
theorem Row.keep (h : Row w B size A n xs) (hk : ∀ g, g < B → w'.heap[g]? = w.heap[g]?) : Row w' B size A n xs :=
  ⟨h.len, fun hn => by
    obtain ⟨g, o, e, hb, hc⟩ := h.at_ hn
    exact ⟨g, o, e, hb, fun j hj => (World.cell?_of_block (w := w) (a := ⟨g, o + j, none⟩) (hk g hb)).trans (hc j hj)⟩⟩
theorem Row.more (h : Row w B size A n xs) (hB : B ≤ B') : Row w B' size A n xs :=
  ⟨h.len, fun hn => by
    obtain ⟨g, o, e, hb, hc⟩ := h.at_ hn
    exact ⟨g, o, e, by omega, hc⟩⟩
theorem Row.below (h : Row w B size A n xs) (hb : Below B w w') : Row w' B size A n xs := h.keep fun g hg => hb.block g hg
theorem Row.drew (h : Row w B size A n xs) : Row w.drew B size A n xs := h.keep fun _ _ => rfl
theorem Row.drewN (h : Row w B size A n xs) (k : Nat) : Row (w.drewN k) B size A n xs := h.keep fun _ _ => rfl
theorem Row.alloc (h : Row w B size A n xs) (hB : B ≤ w.heap.size) (o : Obj) : Row (w.alloc o) B size A n xs := h.keep fun g hg => Below.heap_alloc w o g (by omega)
theorem Row.of_own {base : Nat} {e : TypeId} {c : Nat} (h : w.ownsRow base e size (.slice A n c) n xs) : Row w w.heap.size size A n xs := by
  refine ⟨h.1, fun hn => ?_⟩
  rcases h.2 with ⟨_, h0⟩ | ⟨g, cap, cur, hv, _, hg, _, _, hcs, ht⟩
  · omega
  · injection hv with hA _ _
    refine ⟨g, 0, hA, (Array.getElem?_eq_some_iff.1 hg).1, fun j hj => ?_⟩
    have hc : w.cell? ⟨g, j, none⟩ = cur[j]? := by simp [World.cell?, hg]
    rw [Nat.zero_add, hc, ← ht, List.getElem?_take, if_pos hj]
    simp
theorem Row.cut (h : Row w B size A n xs) {i k : Nat} (hi : i ≤ k) (hk : k ≤ n) : Row w B size (A.map (fun a => (⟨a.block, a.off + i * size, a.spot⟩ : Addr))) (k - i) ((xs.drop (i * size)).take ((k - i) * size)) := by
  have hl := h.len
  have h1 : k * size ≤ n * size := Nat.mul_le_mul_right _ hk
  have h2 : i * size ≤ k * size := Nat.mul_le_mul_right _ hi
  have h3 : (k - i) * size = k * size - i * size := Nat.sub_mul ..
  refine ⟨by rw [List.length_take, List.length_drop]; omega, fun hn => ?_⟩
  obtain ⟨g, o, rfl, hb, hc⟩ := h.at_ (by omega)
  refine ⟨g, o + i * size, rfl, hb, fun j hj => ?_⟩
  rw [Nat.add_assoc, hc _ (by omega), List.getElem?_take, if_pos hj, List.getElem?_drop]
end

end Go.Proofs.Ytfcpphfiickpoaa
