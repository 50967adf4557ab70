/- Cursors of the package post: what one tells (a rising list), and how it lies in memory. No program is walked here. -/
import Derived.Test.YtalnndenncnbdaaBase
namespace Go.Proofs.Ytalnndenncnbdaa
set_option maxRecDepth 100000
open Go.RowKit

/-! rising lists -/
def rising (E : List Int) : Prop := E.Pairwise (· < ·)
def geL (n : Int) (E : List Int) : List Int := E.filter fun x => decide (n ≤ x)
theorem mem_geL {n x : Int} {E : List Int} : x ∈ geL n E ↔ x ∈ E ∧ n ≤ x := by simp [geL]
theorem rising_geL {E : List Int} (h : rising E) (n : Int) : rising (geL n E) := List.Pairwise.filter _ h
theorem geL_geL (n m : Int) (E : List Int) : geL n (geL m E) = geL (max n m) E := by
  simp only [geL, List.filter_filter]
  congr 1
  funext x
  rw [← Bool.decide_and]
  exact decide_eq_decide.2 (by omega)
theorem geL_all {n : Int} {E : List Int} (h : ∀ x ∈ E, n ≤ x) : geL n E = E := List.filter_eq_self.2 fun x hx => by simpa using h x hx
theorem geL_nil (n : Int) : geL n [] = [] := rfl
theorem rising_ext : ∀ {E D : List Int}, rising E → rising D → (∀ x, x ∈ E ↔ x ∈ D) → E = D
  | [], [], _, _, _ => rfl
  | [], d :: D, _, _, h => absurd ((h d).2 (by simp)) (by simp)
  | e :: E, [], _, _, h => absurd ((h e).1 (by simp)) (by simp)
  | e :: E, d :: D, hE, hD, h => by
    obtain ⟨h1, h2⟩ := List.pairwise_cons.1 hE
    obtain ⟨k1, k2⟩ := List.pairwise_cons.1 hD
    have hed : e = d := by
      have a := (h e).1 (by simp)
      have b := (h d).2 (by simp)
      rcases List.mem_cons.1 a with a | a
      · exact a
      · rcases List.mem_cons.1 b with b | b
        · exact b.symm
        · have := k1 e a; have := h1 d b; omega
    subst hed
    congr 1
    refine rising_ext h2 k2 fun x => ⟨fun hx => ?_, fun hx => ?_⟩
    · rcases List.mem_cons.1 ((h x).1 (List.mem_cons_of_mem _ hx)) with e1 | e1
      · have := h1 x hx; omega
      · exact e1
    · rcases List.mem_cons.1 ((h x).2 (List.mem_cons_of_mem _ hx)) with e1 | e1
      · have := k1 x hx; omega
      · exact e1
/-- the answer of a list's first number -/
def ansL : List Int → Ending
  | [] => .returned (.tuple #[.int .i64 0, .bool false])
  | x :: _ => .returned (.tuple #[.int .i64 x, .bool true])
def inI (n : Int) : Prop := -9223372036854775808 ≤ n ∧ n ≤ 9223372036854775807

/-! only the blocks of a set, and what is new, may have turned -/
structure Kp (F : Nat → Prop) (a w : World) : Prop where
  os : w.os = a.os
  tape : w.tape = a.tape
  output : w.output = a.output
  size : a.heap.size ≤ w.heap.size
  block : ∀ k, k < a.heap.size → ¬ F k → w.heap[k]? = a.heap[k]?
section
variable {F G : Nat → Prop} {a b c w w' : World}
theorem Kp.refl (F : Nat → Prop) (w : World) : Kp F w w := ⟨rfl, rfl, rfl, Nat.le_refl _, fun _ _ _ => rfl⟩
theorem Kp.trans (h : Kp F a b) (k : Kp F b c) : Kp F a c :=
  ⟨k.os.trans h.os, k.tape.trans h.tape, k.output.trans h.output, Nat.le_trans h.size k.size, fun i hi hn => (k.block i (Nat.lt_of_lt_of_le hi h.size) hn).trans (h.block i hi hn)⟩
theorem Kp.wider (h : Kp F a b) (k : ∀ i, F i → G i) : Kp G a b := ⟨h.os, h.tape, h.output, h.size, fun i hi hn => h.block i hi fun e => hn (k i e)⟩
theorem Kp.of_below (h : Below a.heap.size a w) (F : Nat → Prop) : Kp F a w := ⟨h.os, h.tape, h.output, h.size, fun i hi _ => h.block i hi⟩
theorem Kp.drew (h : Kp F a w) : Kp F a w.drew := ⟨h.os, h.tape, h.output, h.size, h.block⟩
theorem Kp.drewN (h : Kp F a w) (n : Nat) : Kp F a (w.drewN n) := ⟨h.os, h.tape, h.output, h.size, h.block⟩
theorem Kp.alloc (h : Kp F a w) (o : Obj) : Kp F a (w.alloc o) := h.trans ⟨rfl, rfl, rfl, by simp, fun i hi _ => Below.heap_alloc w o i hi⟩
theorem Kp.put (h : Kp F a w) {g : Nat} (hg : F g) (i : Nat) (u : Value) : Kp F a (w.setCell ⟨g, i, none⟩ u) :=
  h.trans ⟨rfl, rfl, rfl, by simp, fun k _ hk => Below.heap_setCell w _ u k (fun e => hk (by rw [e]; exact hg))⟩
theorem Kp.below {B : Nat} (h : Kp F a w) (hF : ∀ k, F k → B ≤ k) (hB : B ≤ a.heap.size) : Below B a w := ⟨h.os, h.tape, h.output, h.size, fun k hk => h.block k (by omega) fun e => by have := hF k e; omega⟩
end

/-! how it lies -/
theorem Row.keep1 {w w' : World} {B B' size n : Nat} {A : Option Addr} {xs : List Value} (h : Row w B size A n xs) (hB : B ≤ B') (hk : 0 < n → ∀ g o, A = some ⟨g, o, none⟩ → w'.heap[g]? = w.heap[g]?) : Row w' B' size A n xs :=
  ⟨h.len, fun hn => by
    obtain ⟨g, o, e, hb, hc⟩ := h.at_ hn
    exact ⟨g, o, e, by omega, fun j hj => (World.cell?_of_block (w := w) (a := ⟨g, o + j, none⟩) (hk hn g o e)).trans (hc j hj)⟩⟩
/-- the block that a row's address is of -/
def blockOf (A : Option Addr) (k : Nat) : Prop := ∃ o, A = some ⟨k, o, none⟩
def Src := World → Value → List Int → (Nat → Prop) → Prop
/-- a cursor among others: its pointer, its list, its blocks -/
structure Kid where
  p : Value
  E : List Int
  F : Nat → Prop
/-! what a source's blocks bear is all that it asks -/
def FrameOk (S : Src) : Prop := ∀ w w' v E F, S w v E F → w.heap.size ≤ w'.heap.size → (∀ k, F k → w'.heap[k]? = w.heap[k]?) → S w' v E F
def RiseOk (S : Src) : Prop := ∀ w v E F, S w v E F → rising E ∧ ∀ x ∈ E, inI x
theorem whole_keep {w w' : World} {g : Nat} {t : TypeId} {cs : Array Value} (h : Whole1 w g t cs) (k : w'.heap[g]? = w.heap[g]?) : Whole1 w' g t cs := k.trans h
def OldOk (S : Src) : Prop := ∀ w v E F, S w v E F → ∀ k, F k → k < w.heap.size
end Go.Proofs.Ytalnndenncnbdaa
