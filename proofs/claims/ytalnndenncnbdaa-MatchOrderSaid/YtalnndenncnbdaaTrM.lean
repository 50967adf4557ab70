/- A pattern's tree, and what is left of it, as they lie. No program is walked here. -/
import Derived.Test.YtalnndenncnbdaaParP
import Derived.Test.YtalnndenncnbdaaMapK
import Derived.Test.YtalnndenncnbdaaCurP
namespace Go.Proofs.Ytalnndenncnbdaa
set_option maxRecDepth 100000
open Go.RowKit

/-- only the maps in these blocks, and what is new, may have turned -/
structure Stays (F : Nat → Prop) (w w' : World) : Prop where
  kp : Kp F w w'
  cells : ∀ g t cs, Whole1 w g t cs → Whole1 w' g t cs
section
variable {F G : Nat → Prop} {a b c w w' : World}
theorem Stays.refl (F : Nat → Prop) (w : World) : Stays F w w := ⟨Kp.refl F w, fun _ _ _ => id⟩
theorem Stays.trans (h : Stays F a b) (k : Stays F b c) : Stays F a c := ⟨h.kp.trans k.kp, fun g t cs hw => k.cells g t cs (h.cells g t cs hw)⟩
theorem Stays.wider (h : Stays F a b) (k : ∀ i, F i → G i) : Stays G a b := ⟨h.kp.wider k, h.cells⟩
theorem Stays.of_below (h : Below a.heap.size a w) (F : Nat → Prop) : Stays F a w := ⟨Kp.of_below h F, fun g _ _ hw => (h.block g hw.lt).trans hw⟩
theorem Stays.drewN (h : Stays F a w) (n : Nat) : Stays F a (w.drewN n) := ⟨h.kp.drewN n, h.cells⟩
theorem Stays.alloc (h : Stays F a w) (o : Obj) : Stays F a (w.alloc o) := ⟨h.kp.alloc o, fun g t cs hw => (Below.heap_alloc w o g (h.cells g t cs hw).lt).trans (h.cells g t cs hw)⟩
theorem Stays.mapV {S : Value → Prop} {m : List (Value × Value)} {g : Nat} (h : Stays F w w') (hm : MapV S w g m) (hn : ¬ F g) : MapV S w' g m := hm.kept (h.kp.block g hm.lt hn)
/-- a map was written -/
theorem Stays.of_map {S : Value → Prop} {m : List (Value × Value)} {g : Nat} (hm : MapV S w g m) (hg : w.grownBy w' (some g)) (hF : F g) : Stays F w w' :=
  ⟨⟨hg.os, hg.tape, hg.output, hg.size, fun k hk hn => hg.block k hk fun e => by cases e; exact hn hF⟩, fun k t cs hw => (hg.block k hw.lt fun e => by
    obtain ⟨⟨es, clock, hb, _⟩, _⟩ := hm
    rw [← Option.some.inj e, show w.heap[k]? = some (.cells cs t (0, 0)) from hw] at hb
    cases hb).trans hw⟩
theorem Stays.below {B : Nat} (h : Stays F a w) (hF : ∀ k, F k → B ≤ k) (hB : B ≤ a.heap.size) : Below B a w := h.kp.below hF hB
end

/-- a node's block -/
def NodeAt (w : World) (p : Nat) (kind : Int) (S : BS) (v : Value) : Prop :=
  Whole1 w p 101 #[.int .i64 kind, .int .u64 (S.a : Int), .int .u64 (S.b : Int), .int .u64 (S.c : Int), .int .u64 (S.d : Int), v]
def kid (p : Nat) : Value := .pointer (some ⟨p, 0, none⟩)
/-- a node with one child, with two -/
def Node1 (w : World) (p : Nat) (kind : Int) (p1 : Nat) : Prop := ∃ q c, NodeAt w p kind .zero (.slice (some ⟨q, 0, none⟩) 1 c) ∧ Whole1 w q 46 #[kid p1]
def Node2 (w : World) (p : Nat) (kind : Int) (p1 p2 : Nat) : Prop := ∃ q c, NodeAt w p kind .zero (.slice (some ⟨q, 0, none⟩) 2 c) ∧ Whole1 w q 46 #[kid p1, kid p2]
/-- each of the four is a number of 64 bits -/
def fitB (a b c d : Nat) : Prop := a < 18446744073709551616 ∧ b < 18446744073709551616 ∧ c < 18446744073709551616 ∧ d < 18446744073709551616
/-- THE POINTER'S BLOCK IS THIS TREE -/
def IsTr (w : World) : Nat → Tr → Prop
  | p, .emp => ∃ v, NodeAt w p 0 .zero v
  | p, .cls a b c d => ∃ v, NodeAt w p 1 ⟨a, b, c, d⟩ v ∧ fitB a b c d
  | p, .cat x y => ∃ p1 p2, Node2 w p 2 p1 p2 ∧ IsTr w p1 x ∧ IsTr w p2 y
  | p, .alt x y => ∃ p1 p2, Node2 w p 3 p1 p2 ∧ IsTr w p1 x ∧ IsTr w p2 y
  | p, .star x => ∃ p1, Node1 w p 4 p1 ∧ IsTr w p1 x
  | p, .plus x => ∃ p1, Node1 w p 5 p1 ∧ IsTr w p1 x
  | p, .quest x => ∃ p1, Node1 w p 6 p1 ∧ IsTr w p1 x
/-- THE POINTER IS A REST: these trees, one behind another -/
def IsRest (w : World) : Option Addr → List Tr → Prop
  | p, [] => p = none
  | p, t :: l => ∃ g n q, p = some ⟨g, 0, none⟩ ∧ Whole1 w g 70 #[kid n, .pointer q] ∧ IsTr w n t ∧ IsRest w q l
section
variable {w w' : World}
/-- nodes stay -/
def NodesOn (w w' : World) : Prop := ∀ g t cs, (t = 101 ∨ t = 46) → Whole1 w g t cs → Whole1 w' g t cs
theorem node1_on {p p1 : Nat} {k : Int} (h : Node1 w p k p1) (hs : NodesOn w w') : Node1 w' p k p1 := by
  obtain ⟨q, c, h1, h2⟩ := h
  exact ⟨q, c, hs _ _ _ (.inl rfl) h1, hs _ _ _ (.inr rfl) h2⟩
theorem node2_on {p p1 p2 : Nat} {k : Int} (h : Node2 w p k p1 p2) (hs : NodesOn w w') : Node2 w' p k p1 p2 := by
  obtain ⟨q, c, h1, h2⟩ := h
  exact ⟨q, c, hs _ _ _ (.inl rfl) h1, hs _ _ _ (.inr rfl) h2⟩
theorem isTr_nodes (hs : NodesOn w w') : ∀ (t : Tr) (p : Nat), IsTr w p t → IsTr w' p t
  | .emp, _, ⟨v, h⟩ => ⟨v, hs _ _ _ (.inl rfl) h⟩
  | .cls _ _ _ _, _, ⟨v, h, hf⟩ => ⟨v, hs _ _ _ (.inl rfl) h, hf⟩
  | .cat x y, _, ⟨p1, p2, h, h1, h2⟩ => ⟨p1, p2, node2_on h hs, isTr_nodes hs x p1 h1, isTr_nodes hs y p2 h2⟩
  | .alt x y, _, ⟨p1, p2, h, h1, h2⟩ => ⟨p1, p2, node2_on h hs, isTr_nodes hs x p1 h1, isTr_nodes hs y p2 h2⟩
  | .star x, _, ⟨p1, h, h1⟩ => ⟨p1, node1_on h hs, isTr_nodes hs x p1 h1⟩
  | .plus x, _, ⟨p1, h, h1⟩ => ⟨p1, node1_on h hs, isTr_nodes hs x p1 h1⟩
  | .quest x, _, ⟨p1, h, h1⟩ => ⟨p1, node1_on h hs, isTr_nodes hs x p1 h1⟩
theorem isTr_on (hs : ∀ g t cs, Whole1 w g t cs → Whole1 w' g t cs) (t : Tr) (p : Nat) (h : IsTr w p t) : IsTr w' p t := isTr_nodes (fun g t cs _ => hs g t cs) t p h
theorem isTr_node : ∀ {t : Tr} {p : Nat}, IsTr w p t → ∃ k S v, NodeAt w p k S v
  | .emp, _, ⟨v, h⟩ => ⟨_, _, v, h⟩
  | .cls _ _ _ _, _, ⟨v, h, _⟩ => ⟨_, _, v, h⟩
  | .cat _ _, _, ⟨_, _, ⟨_, _, h, _⟩, _⟩ => ⟨_, _, _, h⟩
  | .alt _ _, _, ⟨_, _, ⟨_, _, h, _⟩, _⟩ => ⟨_, _, _, h⟩
  | .star _, _, ⟨_, ⟨_, _, h, _⟩, _⟩ => ⟨_, _, _, h⟩
  | .plus _, _, ⟨_, ⟨_, _, h, _⟩, _⟩ => ⟨_, _, _, h⟩
  | .quest _, _, ⟨_, ⟨_, _, h, _⟩, _⟩ => ⟨_, _, _, h⟩
theorem isRest_on (hs : ∀ g t cs, Whole1 w g t cs → Whole1 w' g t cs) : ∀ (l : List Tr) (p : Option Addr), IsRest w p l → IsRest w' p l
  | [], _, h => h
  | t :: l, _, ⟨g, n, q, h1, h2, h3, h4⟩ => ⟨g, n, q, h1, hs _ _ _ h2, isTr_on hs t n h3, isRest_on hs l q h4⟩
theorem whole_one {g : Nat} {t t' : TypeId} {cs cs' : Array Value} (h : Whole1 w g t cs) (k : Whole1 w g t' cs') : cs = cs' := by
  have := (show w.heap[g]? = some (.cells cs t (0, 0)) from h).symm.trans k
  cases this
  rfl
theorem node_one {p : Nat} {k k' : Int} {S S' : BS} {v v' : Value} (h : NodeAt w p k S v) (h' : NodeAt w p k' S' v') : k = k' ∧ S = S' ∧ v = v' := by
  have := whole_one h h'
  simp only [Array.mk.injEq, List.cons.injEq, Value.int.injEq, true_and, and_true] at this
  obtain ⟨h1, h2, h3, h4, h5, h6⟩ := this
  refine ⟨h1, ?_, h6⟩
  cases S
  cases S'
  simp only at h2 h3 h4 h5
  simp only [BS.mk.injEq]
  omega
theorem node1_one {p p1 p1' : Nat} {k k' : Int} (h : Node1 w p k p1) (h' : Node1 w p k' p1') : k = k' ∧ p1 = p1' := by
  obtain ⟨q, c, h1, h2⟩ := h
  obtain ⟨q', c', h1', h2'⟩ := h'
  obtain ⟨e1, _, e2⟩ := node_one h1 h1'
  simp only [Value.slice.injEq, Option.some.injEq, Addr.mk.injEq, and_true, true_and] at e2
  obtain ⟨rfl, _⟩ := e2
  have := whole_one h2 h2'
  simp [kid] at this
  exact ⟨e1, this⟩
theorem node2_one {p p1 p2 p1' p2' : Nat} {k k' : Int} (h : Node2 w p k p1 p2) (h' : Node2 w p k' p1' p2') : k = k' ∧ p1 = p1' ∧ p2 = p2' := by
  obtain ⟨q, c, h1, h2⟩ := h
  obtain ⟨q', c', h1', h2'⟩ := h'
  obtain ⟨e1, _, e2⟩ := node_one h1 h1'
  simp only [Value.slice.injEq, Option.some.injEq, Addr.mk.injEq, and_true, true_and] at e2
  obtain ⟨rfl, _⟩ := e2
  have := whole_one h2 h2'
  simp [kid] at this
  exact ⟨e1, this⟩
theorem node1_kind {p p1 : Nat} {k : Int} (h : Node1 w p k p1) : ∃ v, NodeAt w p k .zero v := by
  obtain ⟨q, c, h1, _⟩ := h
  exact ⟨_, h1⟩
theorem node2_kind {p p1 p2 : Nat} {k : Int} (h : Node2 w p k p1 p2) : ∃ v, NodeAt w p k .zero v := by
  obtain ⟨q, c, h1, _⟩ := h
  exact ⟨_, h1⟩
/-- what kind of node a tree is -/
def kindT : Tr → Int
  | .emp => 0
  | .cls _ _ _ _ => 1
  | .cat _ _ => 2
  | .alt _ _ => 3
  | .star _ => 4
  | .plus _ => 5
  | .quest _ => 6
theorem isTr_kind : ∀ {t : Tr} {p : Nat}, IsTr w p t → ∃ S v, NodeAt w p (kindT t) S v
  | .emp, _, ⟨v, h⟩ => ⟨_, v, h⟩
  | .cls _ _ _ _, _, ⟨v, h, _⟩ => ⟨_, v, h⟩
  | .cat _ _, _, ⟨_, _, ⟨_, _, h, _⟩, _⟩ => ⟨_, _, h⟩
  | .alt _ _, _, ⟨_, _, ⟨_, _, h, _⟩, _⟩ => ⟨_, _, h⟩
  | .star _, _, ⟨_, ⟨_, _, h, _⟩, _⟩ => ⟨_, _, h⟩
  | .plus _, _, ⟨_, ⟨_, _, h, _⟩, _⟩ => ⟨_, _, h⟩
  | .quest _, _, ⟨_, ⟨_, _, h, _⟩, _⟩ => ⟨_, _, h⟩
theorem isTr_one : ∀ (t u : Tr) (p : Nat), IsTr w p t → IsTr w p u → t = u := by
  intro t
  induction t with
  | emp =>
    intro u p h k
    obtain ⟨S, v, h1⟩ := isTr_kind h
    obtain ⟨S', v', h2⟩ := isTr_kind k
    have := (node_one h1 h2).1
    cases u <;> first | rfl | simp [kindT] at this
  | cls a b c d =>
    intro u p h k
    obtain ⟨S, v, h1⟩ := isTr_kind h
    obtain ⟨S', v', h2⟩ := isTr_kind k
    have := (node_one h1 h2).1
    cases u <;> simp [kindT] at this
    obtain ⟨v, h, _⟩ := h
    obtain ⟨v', k, _⟩ := k
    have := (node_one h k).2.1
    simp only [BS.mk.injEq] at this
    obtain ⟨rfl, rfl, rfl, rfl⟩ := this
    rfl
  | cat x y ihx ihy =>
    intro u p h k
    obtain ⟨S, v, h1⟩ := isTr_kind h
    obtain ⟨S', v', h2⟩ := isTr_kind k
    have := (node_one h1 h2).1
    cases u <;> simp [kindT] at this
    obtain ⟨p1, p2, h, hx, hy⟩ := h
    obtain ⟨p1', p2', k, kx, ky⟩ := k
    obtain ⟨_, rfl, rfl⟩ := node2_one h k
    rw [ihx _ _ hx kx, ihy _ _ hy ky]
  | alt x y ihx ihy =>
    intro u p h k
    obtain ⟨S, v, h1⟩ := isTr_kind h
    obtain ⟨S', v', h2⟩ := isTr_kind k
    have := (node_one h1 h2).1
    cases u <;> simp [kindT] at this
    obtain ⟨p1, p2, h, hx, hy⟩ := h
    obtain ⟨p1', p2', k, kx, ky⟩ := k
    obtain ⟨_, rfl, rfl⟩ := node2_one h k
    rw [ihx _ _ hx kx, ihy _ _ hy ky]
  | star x ihx =>
    intro u p h k
    obtain ⟨S, v, h1⟩ := isTr_kind h
    obtain ⟨S', v', h2⟩ := isTr_kind k
    have := (node_one h1 h2).1
    cases u <;> simp [kindT] at this
    obtain ⟨p1, h, hx⟩ := h
    obtain ⟨p1', k, kx⟩ := k
    obtain ⟨_, rfl⟩ := node1_one h k
    rw [ihx _ _ hx kx]
  | plus x ihx =>
    intro u p h k
    obtain ⟨S, v, h1⟩ := isTr_kind h
    obtain ⟨S', v', h2⟩ := isTr_kind k
    have := (node_one h1 h2).1
    cases u <;> simp [kindT] at this
    obtain ⟨p1, h, hx⟩ := h
    obtain ⟨p1', k, kx⟩ := k
    obtain ⟨_, rfl⟩ := node1_one h k
    rw [ihx _ _ hx kx]
  | quest x ihx =>
    intro u p h k
    obtain ⟨S, v, h1⟩ := isTr_kind h
    obtain ⟨S', v', h2⟩ := isTr_kind k
    have := (node_one h1 h2).1
    cases u <;> simp [kindT] at this
    obtain ⟨p1, h, hx⟩ := h
    obtain ⟨p1', k, kx⟩ := k
    obtain ⟨_, rfl⟩ := node1_one h k
    rw [ihx _ _ hx kx]
theorem isRest_one : ∀ (l m : List Tr) (p : Option Addr), IsRest w p l → IsRest w p m → l = m
  | [], [], _, _, _ => rfl
  | [], _ :: _, _, h, ⟨_, _, _, k, _⟩ => by
    have h : _ = none := h
    rw [h] at k
    cases k
  | _ :: _, [], _, ⟨_, _, _, k, _⟩, h => by
    have h : _ = none := h
    rw [h] at k
    cases k
  | t :: l, u :: m, _, ⟨g, n, q, rfl, h1, h2, h3⟩, ⟨g', n', q', e, k1, k2, k3⟩ => by
    simp only [Option.some.injEq, Addr.mk.injEq, and_true] at e
    subst e
    have := whole_one h1 k1
    simp [kid] at this
    obtain ⟨rfl, rfl⟩ := this
    rw [isTr_one t u n h2 k2, isRest_one l m q h3 k3]
theorem laid_whole {g : Nat} {t : TypeId} {cs : Array Value} (h : Whole1 w g t cs) : Laid w (some ⟨g, 0, none⟩) := fun a e => by
  cases e
  exact ⟨cs, t, h⟩
theorem laid_tr {t : Tr} {p : Nat} (h : IsTr w p t) : Laid w (some ⟨p, 0, none⟩) := by
  obtain ⟨k, S, v, h⟩ := isTr_node h
  exact laid_whole h
theorem laid_none : Laid w none := fun a e => by cases e
theorem laid_rest : ∀ {l : List Tr} {p : Option Addr}, IsRest w p l → Laid w p
  | [], _, h => by
    have h : _ = none := h
    rw [h]
    exact laid_none
  | _ :: _, _, ⟨g, n, q, rfl, h, _⟩ => laid_whole h
theorem laid_on {p : Option Addr} (h : Laid w p) (hs : ∀ g t cs, Whole1 w g t cs → Whole1 w' g t cs) : Laid w' p := fun a e => by
  obtain ⟨ca, ta, h⟩ := h a e
  exact ⟨ca, ta, hs _ _ _ h⟩
end
end Go.Proofs.Ytalnndenncnbdaa
