/- A map as the list of its entries: look-up, store, length, and the walk's laws. Condition: its keys are found by sameness. Memory words of this claim's own: a block that is known whole; cells that a slice shows; what only one block's turning leaves. No condition. Rows of the call's own that lie apart: one grows, the others stay. No condition. Rows of elements of k cells each: what a cell shows; an element stored. No condition. The frame of a law that answers true and leaves its arguments as they were: what is left to show is the walk. No condition. A world some draws and some blocks on. No condition. -/
import Derived.Maps.RangeWalk
import Derived.Test.YthncochjhbmceaaGreatRows
import Derived.WalkKit
import Derived.WalkSpells
import Derived.WalkLawsBesides
import Derived.Maps.AppendAt
import Derived.Deep.DeepCutAuto
import Derived.Deep.QuietTactic
import Derived.BigQuiet
import Derived.Laws.IdiomCopy
import Derived.ProofKit
import Derived.OpenShut
import Derived.SizedLaws
import Derived.JoinedCond
import Derived.Deep.CondSized
import Derived.Deep.Slices
import Derived.Deep.Fields
import Derived.Shelf.SlSortCmp.QuietGrown
import Derived.Lib.QuietBelow
namespace Go.Proofs.YthncochjhbmceaaGreat
open Go.MapKept Go.ChangeMaps

open Classical in
noncomputable def atV : List (Value × Value) → Value → Option Value
  | [], _ => none
  | p :: m, k => if p.1 = k then some p.2 else atV m k

open Classical in
noncomputable def putV : List (Value × Value) → Value → Value → List (Value × Value)
  | [], k, v => [(k, v)]
  | p :: m, k, v => if p.1 = k then (k, v) :: m else p :: putV m k v

theorem atV_put_same : ∀ (m : List (Value × Value)) (k v : Value), atV (putV m k v) k = some v
  | [], k, v => by simp [putV, atV]
  | p :: m, k, v => by
    unfold putV
    split
    · simp [atV]
    · rename_i h
      simp [atV, h, atV_put_same m k v]

theorem atV_put_other : ∀ (m : List (Value × Value)) (k v : Value) {k' : Value}, k' ≠ k → atV (putV m k v) k' = atV m k'
  | [], k, v, k', hne => by simp [putV, atV, Ne.symm hne]
  | p :: m, k, v, k', hne => by
    unfold putV
    split
    · rename_i h
      have h1 : ¬ p.1 = k' := fun e => hne (e ▸ h)
      simp [atV, Ne.symm hne, h1]
    · simp [atV, atV_put_other m k v hne]

theorem atV_none : ∀ (m : List (Value × Value)) (k : Value), atV m k = none ↔ ∀ p ∈ m, p.1 ≠ k
  | [], k => by simp [atV]
  | p :: m, k => by
    unfold atV
    split
    · rename_i h
      simp [h]
    · rename_i h
      simp [h, atV_none m k]

theorem atV_mem : ∀ (m : List (Value × Value)) (k v : Value), atV m k = some v → (k, v) ∈ m
  | p :: m, k, v, h => by
    unfold atV at h
    split at h
    · rename_i h1
      cases h
      exact List.mem_cons.2 (Or.inl (by rw [← h1]))
    · exact List.mem_cons_of_mem _ (atV_mem m k v h)

theorem atV_of_mem : ∀ (m : List (Value × Value)), (m.map (·.1)).Nodup → ∀ (k v : Value), (k, v) ∈ m → atV m k = some v
  | p :: m, hn, k, v, h => by
    simp only [List.map_cons, List.nodup_cons] at hn
    unfold atV
    rcases List.mem_cons.1 h with e | h
    · rw [← e]; simp
    · rw [if_neg, atV_of_mem m hn.2 k v h]
      intro e
      exact hn.1 (List.mem_map.2 ⟨(k, v), h, e.symm⟩)

theorem putV_keys : ∀ (m : List (Value × Value)) (k v : Value), ∀ p ∈ putV m k v, p = (k, v) ∨ (p ∈ m ∧ p.1 ≠ k) ∨ (p ∈ m)
  | [], k, v, p, h => by simp [putV] at h; exact Or.inl h
  | q :: m, k, v, p, h => by
    unfold putV at h
    split at h
    · rcases List.mem_cons.1 h with e | h
      · exact Or.inl e
      · exact Or.inr (Or.inr (List.mem_cons_of_mem _ h))
    · rcases List.mem_cons.1 h with e | h
      · exact Or.inr (Or.inr (by simp [e]))
      · rcases putV_keys m k v p h with h1 | h1 | h1
        · exact Or.inl h1
        · exact Or.inr (Or.inr (List.mem_cons_of_mem _ h1.1))
        · exact Or.inr (Or.inr (List.mem_cons_of_mem _ h1))

theorem putV_new : ∀ (m : List (Value × Value)) (k v : Value), (∀ p ∈ m, p.1 ≠ k) → putV m k v = m ++ [(k, v)]
  | [], _, _, _ => rfl
  | p :: m, k, v, h => by
    unfold putV
    rw [if_neg (h p (by simp)), putV_new m k v (fun q hq => h q (by simp [hq]))]
    rfl

theorem putV_old : ∀ (m : List (Value × Value)) (k v : Value) (j : Nat) (v0 : Value), (m.map (·.1)).Nodup → m[j]? = some (k, v0) → putV m k v = m.set j (k, v)
  | p :: m, k, v, 0, v0, _, h => by
    simp at h
    unfold putV
    simp [h]
  | p :: m, k, v, j + 1, v0, hn, h => by
    simp only [List.map_cons, List.nodup_cons] at hn
    simp only [List.getElem?_cons_succ] at h
    unfold putV
    rw [if_neg, putV_old m k v j v0 hn.2 h]
    · rfl
    · intro e
      exact hn.1 (List.mem_map.2 ⟨(k, v0), List.mem_of_getElem? h, e.symm⟩)

theorem putV_length (m : List (Value × Value)) (k v : Value) : (putV m k v).length ≤ m.length + 1 := by
  induction m with
  | nil => simp [putV]
  | cons p m ih =>
    unfold putV
    split
    · simp
    · simpa using ih

/-- WHAT THE LAWS NEED OF THE KEYS: found by sameness. (T: what a key is, in a world: a pointer's block must lie.) -/
structure KeyEq (P : Program) (k : TypeId) (T : World → Value → Prop) : Prop where
  check : ∀ (w : World) (em : Bool) {v : Value}, T w v → (Instr.checkKey em 10000 k v).run P w = .ok () w
  find : ∀ (w : World) {x : Value}, T w x → ∀ es : List MapEntry, (∀ e ∈ es, T w e.key) →
    ((Instr.findKey k x es).run P w = .ok none w ∧ ∀ e ∈ es, e.key ≠ x) ∨ ∃ j e, (Instr.findKey k x es).run P w = .ok (some (j, e.val)) w ∧ es[j]? = some e ∧ e.key = x
  stays : ∀ (w : World) {v : Value}, T w v → (Instr.keyThatStays v v).run P w = .ok v w

def IsStr (v : Value) : Prop := ∃ s, v = .string s
def IsInt (q : IntKind) (v : Value) : Prop := ∃ n, v = .int q n

theorem keyEq_plain {P : Program} {k : TypeId} {d : TypeDesc} (hd : P.underlying k = some d) {S : Value → Prop} (hS : ∀ v, S v → IsKey d v) : KeyEq P k (fun _ => S) where
  check w em v h := run_checkKey hd (hS v h) em 9999
  find w x h es hes := by
    rcases findNow_spec (hS x h) es 0 (fun e he => hS _ (hes e he)) with ⟨h1, h2⟩ | ⟨j, e0, h1, h2, h3⟩
    · exact Or.inl ⟨run_findKey hd h1, h2⟩
    · exact Or.inr ⟨j, e0, by simpa using run_findKey hd h1, h2, h3⟩
  stays w v h := run_keyThatStays (hS v h)

theorem keyEq_string {P : Program} {k : TypeId} (hk : P.underlying k = some .string) : KeyEq P k (fun _ => IsStr) :=
  keyEq_plain hk (fun v ⟨s, e⟩ => by rw [e]; trivial)
theorem keyEq_int {P : Program} {k : TypeId} {q : IntKind} (hk : P.underlying k = some (.int q)) : KeyEq P k (fun _ => IsInt q) :=
  keyEq_plain hk (fun v ⟨s, e⟩ => by rw [e]; exact rfl)

/-- BLOCK b IS THE MAP OF THESE ENTRIES. -/
def MapV (S : Value → Prop) (w : World) (b : Nat) (m : List (Value × Value)) : Prop :=
  (∃ es clock, w.heap[b]? = some (.map es clock) ∧ Stamped es clock ∧ es.toList.map (fun e => (e.key, e.val)) = m) ∧ ∀ p ∈ m, S p.1

section
variable {P : Program} {k e t : TypeId} {S : Value → Prop} {T : World → Value → Prop} {w : World} {b : Nat} {m : List (Value × Value)}

theorem MapV.nodup (h : MapV S w b m) : (m.map (·.1)).Nodup := by
  obtain ⟨⟨es, clock, _, ⟨_, _, h3⟩, rfl⟩, _⟩ := h
  simpa [List.map_map, Function.comp_def] using h3

theorem MapV.lt (h : MapV S w b m) : b < w.heap.size := by
  obtain ⟨⟨es, clock, hb, _⟩, _⟩ := h
  exact (Array.getElem?_eq_some_iff.1 hb).1

theorem MapV.kept {w' : World} (h : MapV S w b m) (hg : w'.heap[b]? = w.heap[b]?) : MapV S w' b m := by
  obtain ⟨⟨es, clock, hb, r⟩, hS⟩ := h
  exact ⟨⟨es, clock, hg.trans hb, r⟩, hS⟩

theorem mapV_made (S : Value → Prop) (w : World) : MapV S (w.alloc (.map #[] 0)) w.heap.size [] :=
  ⟨⟨#[], 0, (MapKept.heap_alloc w _).1, stamped_empty 0, rfl⟩, by simp⟩

theorem MapV.found (h : MapV S w b m) (K : KeyEq P k T) (hT : ∀ p ∈ m, T w p.1) {key : Value} (hk : T w key) : ∃ es clock, w.heap[b]? = some (.map es clock) ∧ Stamped es clock ∧ es.toList.map (fun e => (e.key, e.val)) = m ∧
    ((atV m key = none ∧ (Instr.findKey k key es.toList).run P w = .ok none w ∧ ∀ p ∈ m, p.1 ≠ key) ∨
     ∃ j e0, es.toList[j]? = some e0 ∧ e0.key = key ∧ atV m key = some e0.val ∧ (Instr.findKey k key es.toList).run P w = .ok (some (j, e0.val)) w) := by
  have hn := h.nodup
  obtain ⟨⟨es, clock, hb, hs, rfl⟩, _⟩ := h
  have hks : ∀ x ∈ es.toList, T w x.key := fun x hx => hT (x.key, x.val) (List.mem_map.2 ⟨x, hx, rfl⟩)
  refine ⟨es, clock, hb, hs, rfl, ?_⟩
  rcases K.find w hk es.toList hks with ⟨h1, h2⟩ | ⟨j, e0, h1, h2, h3⟩
  · have h4 : ∀ p ∈ es.toList.map (fun e => (e.key, e.val)), p.1 ≠ key := fun p hp => by
      obtain ⟨x, hx, rfl⟩ := List.mem_map.1 hp
      exact h2 x hx
    exact Or.inl ⟨(atV_none _ _).2 h4, h1, h4⟩
  · refine Or.inr ⟨j, e0, h2, h3, atV_of_mem _ hn _ _ ?_, h1⟩
    rw [← h3]
    exact List.mem_map.2 ⟨e0, List.mem_of_getElem? h2, rfl⟩

/-- 'm[k]', 'v, ok := m[k]'. -/
theorem MapV.look (h : MapV S w b m) (K : KeyEq P k T) (hT : ∀ p ∈ m, T w p.1) (ht : P.underlying t = some (.map k e)) {z : Value} (hz : (zeroValue e).run P w = .ok z w) {key : Value} (hk : T w key) (c : Bool) :
    (Instr.lookup t (.map (some b)) key c).run P w = .ok (if c then .tuple #[(atV m key).getD z, .bool (atV m key).isSome] else (atV m key).getD z) w := by
  obtain ⟨es, clock, hb, hs, rfl, hf⟩ := h.found K hT hk
  rcases hf with ⟨h0, h1, _⟩ | ⟨j, e0, h1, h2, h3, h4⟩
  · simp [Instr.lookup, run_underlying ht, MapKept.run_getObj_map hb, K.check w _ hk, h1, hz, h0, Result.andThen]
  · simp [Instr.lookup, run_underlying ht, MapKept.run_getObj_map hb, K.check w _ hk, h4, h3, Result.andThen]

theorem look_none (K : KeyEq P k T) (ht : P.underlying t = some (.map k e)) {z : Value} (hz : (zeroValue e).run P w = .ok z w) {key : Value} (hk : T w key) (c : Bool) :
    (Instr.lookup t (.map none) key c).run P w = .ok (if c then .tuple #[z, .bool false] else z) w := by
  rcases K.find w hk [] (by simp) with ⟨f1, _⟩ | ⟨j, e0, _, f2, _⟩
  · simp [Instr.lookup, run_underlying ht, K.check w _ hk, f1, hz, Result.andThen]
  · simp at f2

/-- 'm[k] = v'. -/
theorem MapV.store (h : MapV S w b m) (K : KeyEq P k T) (hT : ∀ p ∈ m, T w p.1) (ht : P.underlying t = some (.map k e)) {key : Value} (hk : T w key) (hk' : S key) (val : Value) :
    ∃ w', (Instr.mapUpdate t (.map (some b)) key val).run P w = .ok () w' ∧ MapV S w' b (putV m key val) ∧ w.grownBy w' (some b) ∧ w'.heap.size = w.heap.size := by
  have hn := h.nodup
  have hS := h.2
  obtain ⟨es, clock, hb, hs, rfl, hf⟩ := h.found K hT hk
  have hgb : ∀ o, w.grownBy (setBlock w b o) (some b) ∧ (setBlock w b o).heap.size = w.heap.size := fun o =>
    ⟨⟨rfl, rfl, rfl, by simp [setBlock], fun i _ hi => heap_setBlock_other hb _ (fun e => hi (by rw [e]))⟩, by simp [setBlock]⟩
  rcases hf with ⟨h0, h1, h2⟩ | ⟨j, e0, h1, h2, h3, h4⟩
  · have hne : ∀ x ∈ es.toList, x.key ≠ key := fun x hx => h2 (x.key, x.val) (List.mem_map.2 ⟨x, hx, rfl⟩)
    refine ⟨setBlock w b (.map (es.push ⟨key, val, clock⟩) (clock + 1)), ?_, ⟨⟨_, _, heap_setBlock_same hb _, stamped_push hs hne, ?_⟩, ?_⟩, (hgb _).1, (hgb _).2⟩
    · simp [Instr.mapUpdate, run_underlying ht, MapKept.run_getObj_map hb, K.check w false hk, h1, MapKept.run_setObj_map _ hb, Result.andThen, setBlock]
    · rw [putV_new _ _ _ h2]
      simp
    · intro p hp
      rw [putV_new _ _ _ h2] at hp
      rcases List.mem_append.1 hp with hp | hp
      · exact hS p hp
      · simp at hp
        rw [hp]
        exact hk'
  · have hj : es[j]? = some e0 := by simpa using h1
    have hkeyf : ∀ e', es[j]? = some e' → ({ e' with key := key, val := val } : MapEntry).key = e'.key := fun e' he' => by rw [hj] at he'; cases he'; exact h2.symm
    refine ⟨setBlock w b (.map (es.modify j (fun e' => { e' with key := key, val := val })) clock), ?_, ⟨⟨_, _, heap_setBlock_same hb _, stamped_modify hs _ _ (fun _ _ => rfl) (fun e' _ he' => hkeyf e' he'), ?_⟩, ?_⟩, (hgb _).1, (hgb _).2⟩
    · simp [Instr.mapUpdate, run_underlying ht, MapKept.run_getObj_map hb, K.check w false hk, h4, hj, h2, K.stays w hk, MapKept.run_setObj_map _ hb, Result.andThen, setBlock]
    · rw [putV_old _ key val j e0.val hn (by rw [List.getElem?_map, h1]; simp [h2]), Array.toList_modify, modify_eq_set _ _ _ _ h1]
      simp [List.map_set]
    · intro p hp
      rcases putV_keys _ _ _ p hp with rfl | h5 | h5
      · exact hk'
      · exact hS p h5.1
      · exact hS p h5

/-- 'len(m)'. -/
theorem MapV.len (h : MapV S w b m) (ht : P.underlying t = some (.map k e)) (ty : TypeId) : (Builtin.len_ #[t] ty #[.map (some b)]).run P w = .ok (.int .i64 m.length) w := by
  obtain ⟨⟨es, clock, hb, _, rfl⟩, _⟩ := h
  simp [Builtin.len_, run_underlying ht, MapKept.run_getObj_map hb, goInt, Result.andThen]
end

/-! ### at the operation -/
section
variable {P : Program} (w : World) {ops : Array Oper} {rest : List Oper} {o : Oper} {a : Act} {Q : Exit → Act → World → Prop} {S : Value → Prop} {T : World → Value → Prop} {k e : TypeId}

theorem wpList_look (hg : o.guard = none) (mm x : Operand) (t : TypeId) (hop : o.op = Op.lookup t mm x false)
    (K : KeyEq P k T) (ht : P.underlying t = some (.map k e)) {z : Value} (hz : (zeroValue e).run P w = .ok z w) (b : Nat) (m : List (Value × Value))
    (hm : a.eval mm = .map (some b)) (h : MapV S w b m) (hT : ∀ p ∈ m, T w p.1) (key : Value) (hx : a.eval x = key) (hk : T w key) (v : Value) (hv : (atV m key).getD z = v)
    (hK : wpList P ops Q rest (a.put o.dst v) w) :
    wpList P ops Q (o :: rest) a w := by
  refine wpList_plain hg fun K' hK' => ?_
  unfold Oper.wp
  simp [execOp, hop, hm, hx, h.look K hT ht hz hk false, hv, Result.andThen]
  exact hK' _ _ hK

theorem wpList_look_ok (hg : o.guard = none) (mm x : Operand) (t : TypeId) (hop : o.op = Op.lookup t mm x true)
    (K : KeyEq P k T) (ht : P.underlying t = some (.map k e)) {z : Value} (hz : (zeroValue e).run P w = .ok z w) (b : Nat) (m : List (Value × Value))
    (hm : a.eval mm = .map (some b)) (h : MapV S w b m) (hT : ∀ p ∈ m, T w p.1) (key : Value) (hx : a.eval x = key) (hk : T w key) (v : Value) (hv : (atV m key).getD z = v) (is : Bool) (his : (atV m key).isSome = is)
    (hK : wpList P ops Q rest (a.put o.dst (.tuple #[v, .bool is])) w) :
    wpList P ops Q (o :: rest) a w := by
  refine wpList_plain hg fun K' hK' => ?_
  unfold Oper.wp
  simp [execOp, hop, hm, hx, h.look K hT ht hz hk true, hv, his, Result.andThen]
  exact hK' _ _ hK

theorem wpList_store (hg : o.guard = none) (mm x v : Operand) (t : TypeId) (hop : o.op = Op.mapUpdate t mm x v)
    (K : KeyEq P k T) (ht : P.underlying t = some (.map k e)) (b : Nat) (m : List (Value × Value))
    (hm : a.eval mm = .map (some b)) (h : MapV S w b m) (hT : ∀ p ∈ m, T w p.1) (key val : Value) (hx : a.eval x = key) (hv : a.eval v = val) (hk : T w key) (hk' : S key)
    (hK : ∀ w', MapV S w' b (putV m key val) → w.grownBy w' (some b) → w'.heap.size = w.heap.size → wpList P ops Q rest (a.put o.dst undef) w') :
    wpList P ops Q (o :: rest) a w := by
  refine wpList_plain hg fun K' hK' => ?_
  obtain ⟨w', hrun, r1, r2, r3⟩ := h.store K hT ht hk hk' val
  unfold Oper.wp
  simp [execOp, hop, hm, hx, hv, hrun, Result.andThen]
  exact hK' _ _ (hK w' r1 r2 r3)
end
end Go.Proofs.YthncochjhbmceaaGreat

namespace Go.Proofs.YthncochjhbmceaaGreat
set_option maxRecDepth 100000
open Go.RowKit

theorem hidden {p : Prop} (h : p) : Hid p := h
theorem ret_of {v v' : Value} (h : v = v') : Ending.returned v = .returned v' := by rw [h]
theorem ret_bool {a b : Bool} (h : a = b) : Ending.returned (.bool a) = .returned (.bool b) := by rw [h]
theorem ret_int {k : IntKind} {a b : Int} (h : a = b) : Ending.returned (.int k a) = .returned (.int k b) := by rw [h]
theorem ret_pair {k l : IntKind} {a b c d : Int} (h : a = b) (h' : c = d) : Ending.returned (.tuple #[.int k a, .int l c]) = .returned (.tuple #[.int k b, .int l d]) := by rw [h, h']

/-- Block g is just these cells, none of them frozen. -/
def Whole1 (w : World) (g : Nat) (t : TypeId) (cs : Array Value) : Prop := w.heap[g]? = some (.cells cs t (0, 0))

section
variable {w w' : World} {g : Nat} {t : TypeId} {cs : Array Value}
theorem Whole1.lt (h : Whole1 w g t cs) : g < w.heap.size := (Array.getElem?_eq_some_iff.1 h).1
theorem Whole1.cell (h : Whole1 w g t cs) (i : Nat) : w.cell? ⟨g, i, none⟩ = cs[i]? := by
  unfold Whole1 at h; simp [World.cell?, h]
theorem Whole1.free (h : Whole1 w g t cs) (i : Nat) : w.frozen? ⟨g, i, none⟩ = false := by
  unfold Whole1 at h; simp [World.frozen?, h]
theorem Whole1.new (w : World) (t : TypeId) (cs : Array Value) : Whole1 (w.alloc (.cells cs t)) w.heap.size t cs := heap_alloc_new w _
theorem Whole1.drew (h : Whole1 w g t cs) : Whole1 w.drew g t cs := h
theorem Whole1.drewN (h : Whole1 w g t cs) (n : Nat) : Whole1 (w.drewN n) g t cs := h
theorem Whole1.alloc (h : Whole1 w g t cs) (o : Obj) : Whole1 (w.alloc o) g t cs := (Below.heap_alloc w o g h.lt).trans h
theorem Whole1.put (h : Whole1 w g t cs) (i : Nat) (u : Value) : Whole1 (w.setCell ⟨g, i, none⟩ u) g t (cs.setIfInBounds i u) := by
  unfold Whole1 at h ⊢; simp [World.setCell, Array.getElem?_modify, h]
theorem Whole1.off (h : Whole1 w g t cs) {p : Addr} (hp : g ≠ p.block) (u : Value) : Whole1 (w.setCell p u) g t cs := (Below.heap_setCell w p u g hp).trans h
theorem Whole1.below {B : Nat} (h : Whole1 w g t cs) (hb : Below B w w') (hg : g < B) : Whole1 w' g t cs := (hb.block g hg).trans h
theorem Whole1.grown {row : Option Nat} (h : Whole1 w g t cs) (hb : w.grownBy w' row) (hg : some g ≠ row) : Whole1 w' g t cs := (hb.block g h.lt hg).trans h
end

/-! Only block g, and what is new, may have turned: 'w.grownBy w' (some g)'. -/
theorem gb_refl (w : World) (row : Option Nat) : w.grownBy w row := ⟨rfl, rfl, rfl, Nat.le_refl _, fun _ _ _ => rfl⟩
theorem gb_trans {a b c : World} {row : Option Nat} (h : a.grownBy b row) (k : b.grownBy c row) : a.grownBy c row :=
  ⟨k.os.trans h.os, k.tape.trans h.tape, k.output.trans h.output, Nat.le_trans h.size k.size, fun i hi hn => (k.block i (Nat.lt_of_lt_of_le hi h.size) hn).trans (h.block i hi hn)⟩
theorem gb_drew {a w : World} {row : Option Nat} (h : a.grownBy w row) : a.grownBy w.drew row := ⟨h.os, h.tape, h.output, h.size, h.block⟩
theorem gb_drewN {a w : World} {row : Option Nat} (h : a.grownBy w row) (n : Nat) : a.grownBy (w.drewN n) row := ⟨h.os, h.tape, h.output, h.size, h.block⟩
theorem gb_alloc {a w : World} {row : Option Nat} (h : a.grownBy w row) (o : Obj) : a.grownBy (w.alloc o) row :=
  gb_trans h ⟨rfl, rfl, rfl, by simp, fun i hi _ => Below.heap_alloc w o i hi⟩
theorem gb_put {a w : World} {g : Nat} (h : a.grownBy w (some g)) (i : Nat) (u : Value) : a.grownBy (w.setCell ⟨g, i, none⟩ u) (some g) :=
  gb_trans h ⟨rfl, rfl, rfl, by simp, fun k _ hk => Below.heap_setCell w _ u k (fun e => hk (by rw [e]))⟩
theorem gb_below {a w : World} (h : Below a.heap.size a w) (row : Option Nat) : a.grownBy w row := ⟨h.os, h.tape, h.output, h.size, fun i hi _ => h.block i hi⟩
theorem below_gb {B : Nat} {a w w' : World} {g : Nat} (h : Below B a w) (k : w.grownBy w' (some g)) (hB : B ≤ w.heap.size) (hg : B ≤ g) : Below B a w' :=
  h.grown k hB (fun j hj => by injection hj with hj; omega)
theorem below_drewN {B : Nat} {a w : World} (h : Below B a w) (n : Nat) : Below B a (w.drewN n) := ⟨h.os, h.tape, h.output, h.size, h.block⟩

/-- The slice of n elements (size cells each) that begins at A shows the cells xs; it lies below block B. -/
structure Row (w : World) (B size : Nat) (A : Option Addr) (n : Nat) (xs : List Value) : Prop where
  len : xs.length = n * size
  at_ : 0 < n → ∃ g o, A = some ⟨g, o, none⟩ ∧ g < B ∧ ∀ j, j < n * size → w.cell? ⟨g, o + j, none⟩ = xs[j]?

section
variable {w w' : World} {B B' size n : Nat} {A : Option Addr} {xs : List Value}
theorem Row.nil : Row w B size A 0 [] := ⟨by simp, fun h => absurd h (by omega)⟩
theorem Row.keep (h : Row w B size A n xs) (hk : ∀ g, g < B → w'.heap[g]? = w.heap[g]?) : Row w' B size A n xs :=
  ⟨h.len, fun hn => by
    obtain ⟨g, o, e, hb, hc⟩ := h.at_ hn
    exact ⟨g, o, e, hb, fun j hj => (World.cell?_of_block (w := w) (a := ⟨g, o + j, none⟩) (hk g hb)).trans (hc j hj)⟩⟩
theorem Row.more (h : Row w B size A n xs) (hB : B ≤ B') : Row w B' size A n xs :=
  ⟨h.len, fun hn => by
    obtain ⟨g, o, e, hb, hc⟩ := h.at_ hn
    exact ⟨g, o, e, by omega, hc⟩⟩
theorem Row.below (h : Row w B size A n xs) (hb : Below B w w') : Row w' B size A n xs := h.keep fun g hg => hb.block g hg
theorem Row.drew (h : Row w B size A n xs) : Row w.drew B size A n xs := h.keep fun _ _ => rfl
theorem Row.drewN (h : Row w B size A n xs) (k : Nat) : Row (w.drewN k) B size A n xs := h.keep fun _ _ => rfl
theorem Row.alloc (h : Row w B size A n xs) (hB : B ≤ w.heap.size) (o : Obj) : Row (w.alloc o) B size A n xs := h.keep fun g hg => Below.heap_alloc w o g (by omega)
theorem Row.of_own {base : Nat} {e : TypeId} {c : Nat} (h : w.ownsRow base e size (.slice A n c) n xs) : Row w w.heap.size size A n xs := by
  refine ⟨h.1, fun hn => ?_⟩
  rcases h.2 with ⟨_, h0⟩ | ⟨g, cap, cur, hv, _, hg, _, _, hcs, ht⟩
  · omega
  · injection hv with hA _ _
    refine ⟨g, 0, hA, (Array.getElem?_eq_some_iff.1 hg).1, fun j hj => ?_⟩
    have hc : w.cell? ⟨g, j, none⟩ = cur[j]? := by simp [World.cell?, hg]
    rw [Nat.zero_add, hc, ← ht, List.getElem?_take, if_pos hj]
    simp
theorem Row.cut (h : Row w B size A n xs) {i k : Nat} (hi : i ≤ k) (hk : k ≤ n) : Row w B size (A.map (fun a => (⟨a.block, a.off + i * size, a.spot⟩ : Addr))) (k - i) ((xs.drop (i * size)).take ((k - i) * size)) := by
  have hl := h.len
  have h1 : k * size ≤ n * size := Nat.mul_le_mul_right _ hk
  have h2 : i * size ≤ k * size := Nat.mul_le_mul_right _ hi
  have h3 : (k - i) * size = k * size - i * size := Nat.sub_mul ..
  refine ⟨by rw [List.length_take, List.length_drop]; omega, fun hn => ?_⟩
  obtain ⟨g, o, rfl, hb, hc⟩ := h.at_ (by omega)
  refine ⟨g, o + i * size, rfl, hb, fun j hj => ?_⟩
  rw [Nat.add_assoc, hc _ (by omega), List.getElem?_take, if_pos hj, List.getElem?_drop]
end

/-! append onto a row of the call's own; the source whatever row (nil, empty, or not). -/
section
variable {P : Program} (w : World)

theorem run_app_nil (base : Nat) (t ty e : TypeId) (i : TypeInfo) (size : Nat) (ht : P.underlying t = some (.slice e)) (hi : P.info? e = some i)
    (v : Value) (n : Nat) (xs : List Value) (hown : w.ownsRow base e size v n xs) (c : Nat) : (Builtin.append_ #[t, t] ty #[v, .slice none 0 c]).run P w = .ok v w := by
  rcases hown.2 with ⟨rfl, rfl⟩ | ⟨g, cap, cur, rfl, _, _, hnc, _⟩
  · simp [Builtin.append_, run_underlying ht, sizeOf, typeInfo, hi, Builtin.lenOf, Builtin.firstCells]
  · simp [Builtin.append_, run_underlying ht, sizeOf, typeInfo, hi, Builtin.lenOf, Builtin.firstCells, hnc, storeCells]

theorem run_app (base : Nat) (t ty e : TypeId) (i : TypeInfo) (z : Value) (size bytes : Nat) (ht : P.underlying t = some (.slice e)) (hi : P.info? e = some i) (hz : i.zero = some z)
    (hsize : i.size = size) (hby : i.bytes = bytes) (hzs : z.cells.size = size) (hsz : 0 < size)
    (v : Value) (n : Nat) (xs : List Value) (hown : w.ownsRow base e size v n xs)
    (B : Nat) (A : Option Addr) (m c : Nat) (news : List Value) (hr : Row w B size A m news) (h1 : ∀ u ∈ news, u.oneCell' = true)
    (h63 : n + m ≤ maxLen) (hbytes : (n + m) * bytes ≤ 140737488355328) (hbase : base ≤ w.heap.size) :
    ∃ v' w', (Builtin.append_ #[t, t] ty #[v, .slice A m c]).run P w = .ok v' w' ∧ w'.ownsRow base e size v' (n + m) (xs ++ news) ∧ w.grownBy w' v.ownBlock ∧
      (v'.ownBlock = v.ownBlock ∨ v'.ownBlock = some w.heap.size) := by
  have hempty : m = 0 → news = [] := fun h0 => List.eq_nil_of_length_eq_zero (by rw [hr.len, h0, Nat.zero_mul])
  cases A with
  | none =>
    have hm : m = 0 := by
      rcases Nat.eq_zero_or_pos m with h0 | h0
      · exact h0
      · obtain ⟨g, o, h, _⟩ := hr.at_ h0
        cases h
    subst hm
    rw [hempty rfl]
    exact ⟨v, w, run_app_nil w base t ty e i size ht hi v n xs hown c, by simpa using hown, gb_refl w _, .inl rfl⟩
  | some ad =>
    have hcells : ∀ j u, news[j]? = some u → w.cell? (ad.add j) = some u := by
      intro j u hu
      rcases Nat.eq_zero_or_pos m with h0 | h0
      · rw [hempty h0] at hu; simp at hu
      · obtain ⟨g, o, h, _, hc⟩ := hr.at_ h0
        injection h with h
        subst h
        have hj : j < news.length := by
          rcases Nat.lt_or_ge j news.length with h | h
          · exact h
          · rw [List.getElem?_eq_none h] at hu; cases hu
        rw [Addr.add_lit, hc j (by rw [← hr.len]; exact hj)]
        exact hu
    obtain ⟨v', w', hrun, h2, h3, _, h5⟩ := run_append_own_at (P := P) w base t ty e i z size bytes ht hi hz hsize hby hzs hsz v n xs hown ad m c news hr.len hcells h1 h63 hbytes hbase
    exact ⟨v', w', hrun, h2, h3, h5⟩

theorem wp_app {o : Oper} {a : Act} {K : Act → World → Prop} {Q : Exit → Act → World → Prop} (s x : Operand) (t : TypeId)
    (ho : o.op = .call { callee := .builtin .append, args := #[s, x], argTypes := #[t, t] })
    (base : Nat) (e : TypeId) (i : TypeInfo) (z : Value) (size bytes : Nat) (ht : P.underlying t = some (.slice e)) (hi : P.info? e = some i) (hz : i.zero = some z)
    (hsize : i.size = size) (hby : i.bytes = bytes) (hzs : z.cells.size = size) (hsz : 0 < size)
    (v : Value) (n : Nat) (xs : List Value) (hs : a.eval s = v) (hown : w.ownsRow base e size v n xs)
    (B : Nat) (A : Option Addr) (m c : Nat) (news : List Value) (hx : a.eval x = .slice A m c) (hr : Row w B size A m news) (h1 : ∀ u ∈ news, u.oneCell' = true)
    (h63 : n + m ≤ maxLen) (hbytes : (n + m) * bytes ≤ 140737488355328) (hbase : base ≤ w.heap.size)
    (h : ∀ v' w', w'.ownsRow base e size v' (n + m) (xs ++ news) → w.grownBy w' v.ownBlock → (v'.ownBlock = v.ownBlock ∨ v'.ownBlock = some w.heap.size) → K (a.put o.dst v') w') : o.wp P a w K Q := by
  obtain ⟨v', w', hrun, h2, h3, h4⟩ := run_app (P := P) w base t o.type e i z size bytes ht hi hz hsize hby hzs hsz v n xs hown B A m c news hr h1 h63 hbytes hbase
  unfold Oper.wp execOp
  simp only [ho, resolve, invoke, builtin, Sem.run_bind, Sem.run_pure, Result.andThen_ok, List.map_toArray, List.map_cons, List.map_nil, hs, hx, hrun]
  exact h v' w' h2 h3 h4

theorem wpList_app {ops : Array Oper} {rest : List Oper} {o : Oper} {a : Act} {Q : Exit → Act → World → Prop} (hgd : o.guard = none) (s x : Operand) (t : TypeId)
    (ho : o.op = .call { callee := .builtin .append, args := #[s, x], argTypes := #[t, t] })
    (base : Nat) (e : TypeId) (i : TypeInfo) (z : Value) (size bytes : Nat) (ht : P.underlying t = some (.slice e)) (hi : P.info? e = some i) (hz : i.zero = some z)
    (hsize : i.size = size) (hby : i.bytes = bytes) (hzs : z.cells.size = size) (hsz : 0 < size)
    (v : Value) (n : Nat) (xs : List Value) (hs : a.eval s = v) (hown : w.ownsRow base e size v n xs)
    (B : Nat) (A : Option Addr) (m c : Nat) (news : List Value) (hx : a.eval x = .slice A m c) (hr : Row w B size A m news) (h1 : ∀ u ∈ news, u.oneCell' = true)
    (h63 : n + m ≤ maxLen) (hbytes : (n + m) * bytes ≤ 140737488355328) (hbase : base ≤ w.heap.size)
    (h : ∀ v' w', w'.ownsRow base e size v' (n + m) (xs ++ news) → w.grownBy w' v.ownBlock → (v'.ownBlock = v.ownBlock ∨ v'.ownBlock = some w.heap.size) → wpList P ops Q rest (a.put o.dst v') w') : wpList P ops Q (o :: rest) a w :=
  wpList_plain hgd fun _ hK => wp_app w s x t ho base e i z size bytes ht hi hz hsize hby hzs hsz v n xs hs hown B A m c news hx hr h1 h63 hbytes hbase fun v' w' h2 h3 h4 => hK _ _ (h v' w' h2 h3 h4)
end

/-- A row that the call has just laid as a block of its own. -/
theorem Row.fresh (w : World) (t : TypeId) (size n : Nat) (cs : List Value) (h : cs.length = n * size) : Row (w.alloc (.cells cs.toArray t)) (w.heap.size + 1) size (some ⟨w.heap.size, 0, none⟩) n cs :=
  ⟨h, fun _ => ⟨w.heap.size, 0, rfl, by omega, fun j _ => by rw [(Whole1.new w t cs.toArray).cell, Nat.zero_add]; simp⟩⟩

/-- What a row of the call's own shows. -/
theorem own_shape {w : World} {base : Nat} {e : TypeId} {size n : Nat} {v : Value} {xs : List Value} (h : w.ownsRow base e size v n xs) :
    ∃ A c, v = .slice A n c ∧ n ≤ c ∧ Row w w.heap.size size A n xs := by
  rcases h.2 with ⟨rfl, rfl⟩ | ⟨g, cap, cur, rfl, hb, hg, hn, hc, hcs, ht⟩
  · exact ⟨none, 0, rfl, Nat.le_refl _, Row.of_own h⟩
  · exact ⟨_, cap, rfl, hn, Row.of_own h⟩

theorem own_below {w w' : World} {base : Nat} {e : TypeId} {size n B : Nat} {v : Value} {xs : List Value} (h : w.ownsRow base e size v n xs) (hb : Below B w w') (hB : w.heap.size ≤ B) : w'.ownsRow base e size v n xs :=
  h.kept (row := none) ⟨hb.os, hb.tape, hb.output, hb.size, fun k hk _ => hb.block k (by omega)⟩ (by cases v.ownBlock <;> simp)

theorem own_more {w : World} {base base' : Nat} {e : TypeId} {size n : Nat} {v : Value} {xs : List Value} (h : w.ownsRow base e size v n xs) (hb : base' ≤ base) : w.ownsRow base' e size v n xs :=
  ⟨h.1, h.2.imp id fun ⟨g, cap, cur, h1, h2, h3⟩ => ⟨g, cap, cur, h1, Nat.le_trans hb h2, h3⟩⟩
theorem own_ne {w : World} {base : Nat} {e : TypeId} {size n g : Nat} {v : Value} {xs : List Value} (h : w.ownsRow base e size v n xs) (hg : g < base) : some g ≠ v.ownBlock := fun he => by
  have := (h.lt g he.symm).1
  omega
theorem own_ge {w : World} {base B : Nat} {e : TypeId} {size n : Nat} {v : Value} {xs : List Value} (h : w.ownsRow base e size v n xs) (hB : B ≤ base) : ∀ k, v.ownBlock = some k → B ≤ k := fun k hk => by
  have := (h.lt k hk).1
  omega
theorem put6 {w : World} {g : Nat} {t : TypeId} {a0 a1 a2 a3 a4 a5 : Value} (h : Whole1 w g t #[a0, a1, a2, a3, a4, a5]) (x0 x1 x2 x3 x4 x5 : Value) :
    Whole1 ((((((w.setCell ⟨g, 0, none⟩ x0).setCell ⟨g, 1, none⟩ x1).setCell ⟨g, 2, none⟩ x2).setCell ⟨g, 3, none⟩ x3).setCell ⟨g, 4, none⟩ x4).setCell ⟨g, 5, none⟩ x5) g t #[x0, x1, x2, x3, x4, x5] :=
  (((((h.put 0 x0).put 1 x1).put 2 x2).put 3 x3).put 4 x4).put 5 x5
theorem below6 {B : Nat} {a w : World} (h : Below B a w) {g : Nat} (hg : B ≤ g) (x0 x1 x2 x3 x4 x5 : Value) :
    Below B a ((((((w.setCell ⟨g, 0, none⟩ x0).setCell ⟨g, 1, none⟩ x1).setCell ⟨g, 2, none⟩ x2).setCell ⟨g, 3, none⟩ x3).setCell ⟨g, 4, none⟩ x4).setCell ⟨g, 5, none⟩ x5) :=
  (((((h.setCell (p := ⟨g, 0, none⟩) hg x0).setCell (p := ⟨g, 1, none⟩) hg x1).setCell (p := ⟨g, 2, none⟩) hg x2).setCell (p := ⟨g, 3, none⟩) hg x3).setCell (p := ⟨g, 4, none⟩) hg x4).setCell (p := ⟨g, 5, none⟩) hg x5
theorem own_drewN {w : World} {base : Nat} {e : TypeId} {size n : Nat} {v : Value} {xs : List Value} (h : w.ownsRow base e size v n xs) (k : Nat) : (w.drewN k).ownsRow base e size v n xs := h

/-- The cells of a row of the call's own. -/
theorem own_at {w : World} {base : Nat} {e : TypeId} {size n : Nat} {v : Value} {xs : List Value} (h : w.ownsRow base e size v n xs) (hn : 0 < n) :
    ∃ g c, v = .slice (some ⟨g, 0, none⟩) n c ∧ base ≤ g ∧ g < w.heap.size ∧ n ≤ c ∧ ∀ j, j < n * size → w.cell? ⟨g, j, none⟩ = xs[j]? := by
  obtain ⟨A, c, rfl, hnc, hr⟩ := own_shape h
  obtain ⟨g, o, rfl, hg, hc⟩ := hr.at_ hn
  rcases h.2 with ⟨h0, _⟩ | ⟨g', cap, cur, hv, hb, hh, _, _, hcs, ht⟩
  · cases h0
  · injection hv with hA hc' _
    injection hA with hA
    injection hA with h1 h2
    subst h1 h2
    exact ⟨g, c, rfl, hb, hg, hnc, fun j hj => by have := hc j hj; rwa [Nat.zero_add] at this⟩

theorem take_snoc? {α : Type} {l : List α} {k : Nat} {x : α} (h : l[k]? = some x) : l.take (k + 1) = l.take k ++ [x] := by
  obtain ⟨hk, rfl⟩ := List.getElem?_eq_some_iff.1 h
  rw [List.take_succ_eq_append_getElem hk]

end Go.Proofs.YthncochjhbmceaaGreat

namespace Go.Proofs.YthncochjhbmceaaGreat
set_option maxRecDepth 100000
open Go.RowKit

/-- Two rows share no block. -/
def Apart (a b : Value) : Prop := ∀ g, a.ownBlock = some g → b.ownBlock ≠ some g

theorem Apart.symm {a b : Value} (h : Apart a b) : Apart b a := fun g hb ha => h g ha hb
theorem Apart.nil_left {b : Value} : Apart (.slice none 0 0) b := fun g h => by simp [Value.ownBlock] at h

section
variable {w w' : World} {base base' n n' size size' : Nat} {e e' : TypeId} {v1 v1' v2 : Value} {xs ys : List Value}
theorem Apart.kept (ha : Apart v1 v2) (h2 : w.ownsRow base e size v2 n xs) (hg : w.grownBy w' v1.ownBlock) : w'.ownsRow base e size v2 n xs := by
  refine h2.kept hg ?_
  cases hb : v2.ownBlock with
  | none => exact .inl rfl
  | some g => exact .inr fun h => ha g h.symm hb
theorem Apart.next (ha : Apart v1 v2) (h2 : w.ownsRow base e size v2 n xs) (hat : v1'.ownBlock = v1.ownBlock ∨ v1'.ownBlock = some w.heap.size) : Apart v1' v2 := by
  intro g h1 hb
  rcases hat with h | h
  · exact ha g (h.symm.trans h1) hb
  · rw [h] at h1
    injection h1 with h1
    have := (h2.lt g hb).2
    omega
end

/-! Behind 'v1 = append(v1, x)': x lay in a new block c of w; the world is w6. -/
section
variable {w w6 : World} {base base' n n' size size' : Nat} {e e' : TypeId} {v1 v1' v2 : Value} {xs ys : List Value} {c : Obj}
theorem app_own (hg6 : (w.alloc c).grownBy w6 v1.ownBlock) (ha : Apart v1 v2) (o2 : w.ownsRow base e size v2 n xs) : w6.ownsRow base e size v2 n xs := ha.kept (o2.alloc _) hg6
theorem app_apart (hat : v1'.ownBlock = v1.ownBlock ∨ v1'.ownBlock = some (w.alloc c).heap.size) (ha : Apart v1 v2) (o2 : w.ownsRow base e size v2 n xs) : Apart v1' v2 := ha.next (o2.alloc c) hat
theorem app_whole (hg6 : (w.alloc c).grownBy w6 v1.ownBlock) (o1 : w.ownsRow base e size v1 n xs) {g : Nat} {t : TypeId} {cs : Array Value} (h : Whole1 w g t cs) (hg : g < base) : Whole1 w6 g t cs := (h.alloc _).grown hg6 (own_ne o1 hg)
theorem app_size (hg6 : (w.alloc c).grownBy w6 v1.ownBlock) : w.heap.size + 1 ≤ w6.heap.size := by have := hg6.size; simpa using this
theorem app_below (hg6 : (w.alloc c).grownBy w6 v1.ownBlock) (o1 : w.ownsRow base e size v1 n xs) {B : Nat} {a : World} (h : Below B a w) (hB : B ≤ base) (hBw : B ≤ w.heap.size) : Below B a w6 :=
  (h.alloc hBw _).grown hg6 (by simp; omega) (own_ge o1 hB)
theorem app_cell (hg6 : (w.alloc c).grownBy w6 v1.ownBlock) (o1 : w.ownsRow base e size v1 n xs) {g j : Nat} {u : Value} (h : w.cell? ⟨g, j, none⟩ = some u) (hg : g < base) : w6.cell? ⟨g, j, none⟩ = some u := by
  have hlt : g < w.heap.size := World.block_lt_of_cell? w _ h
  have h1 : (w.alloc c).cell? ⟨g, j, none⟩ = some u := (World.cell?_alloc_lt w c ⟨g, j, none⟩ hlt).trans h
  exact hg6.cell h1 (own_ne o1 hg)
end
end Go.Proofs.YthncochjhbmceaaGreat

namespace Go.Proofs.YthncochjhbmceaaGreat
set_option maxRecDepth 100000
open Go.RowKit

section
variable {α : Type} {enc : α → List Value} {k : Nat}
theorem fm_len (hk : ∀ x, (enc x).length = k) : ∀ l : List α, (l.flatMap enc).length = l.length * k
  | [] => by simp
  | a :: l => by rw [List.flatMap_cons, List.length_append, fm_len hk l, hk, List.length_cons, Nat.succ_mul, Nat.add_comm]
theorem fm_at (hk : ∀ x, (enc x).length = k) : ∀ (l : List α) (i : Nat) (x : α) (q : Nat), l[i]? = some x → q < k → (l.flatMap enc)[i * k + q]? = (enc x)[q]?
  | [], i, x, q, h, _ => by simp at h
  | a :: l, 0, x, q, h, hq => by
    simp only [List.getElem?_cons_zero, Option.some.injEq] at h
    subst h
    rw [List.flatMap_cons, Nat.zero_mul, Nat.zero_add, List.getElem?_append_left (by rw [hk]; exact hq)]
  | a :: l, i + 1, x, q, h, hq => by
    simp only [List.getElem?_cons_succ] at h
    rw [List.flatMap_cons, Nat.succ_mul, List.getElem?_append_right (by rw [hk]; omega), hk, ← fm_at hk l i x q h hq]
    congr 1
    omega
theorem fm_take (hk : ∀ x, (enc x).length = k) (l : List α) (m : Nat) : (l.take m).flatMap enc = (l.flatMap enc).take (m * k) := by
  rcases Nat.lt_or_ge m l.length with h | h
  · have h1 : (l.take m).flatMap enc ++ (l.drop m).flatMap enc = l.flatMap enc := by rw [← List.flatMap_append, List.take_append_drop]
    have h2 : ((l.take m).flatMap enc).length = m * k := by rw [fm_len hk, List.length_take, Nat.min_eq_left (by omega)]
    rw [← h1, ← h2, List.take_left]
  · rw [List.take_of_length_le h, List.take_of_length_le (by rw [fm_len hk]; exact Nat.mul_le_mul_right _ h)]
theorem fm_drop (hk : ∀ x, (enc x).length = k) (l : List α) (m : Nat) : (l.drop m).flatMap enc = (l.flatMap enc).drop (m * k) := by
  rcases Nat.lt_or_ge m l.length with h | h
  · have h1 : (l.take m).flatMap enc ++ (l.drop m).flatMap enc = l.flatMap enc := by rw [← List.flatMap_append, List.take_append_drop]
    have h2 : ((l.take m).flatMap enc).length = m * k := by rw [fm_len hk, List.length_take, Nat.min_eq_left (by omega)]
    rw [← h1, ← h2, List.drop_left]
  · rw [List.drop_of_length_le h, List.drop_of_length_le (by rw [fm_len hk]; exact Nat.mul_le_mul_right _ h)]; rfl
theorem fm_set (hk : ∀ x, (enc x).length = k) (rest : List Value) (x : α) : ∀ (l : List α) (i : Nat), i < l.length → ((l.flatMap enc).take (i * k) ++ enc x ++ (l.flatMap enc ++ rest).drop (i * k + k)) = (l.set i x).flatMap enc ++ rest
  | [], _, h => by simp at h
  | a :: l, 0, _ => by
    rw [Nat.zero_mul, List.take_zero, List.nil_append, List.set_cons_zero, List.flatMap_cons, List.flatMap_cons, Nat.zero_add, List.append_assoc, List.append_assoc, List.drop_append_of_le_length (by rw [hk]; exact Nat.le_refl _), List.drop_of_length_le (by rw [hk]; exact Nat.le_refl _), List.nil_append]
  | a :: l, i + 1, h => by
    have ih := fm_set hk rest x l i (by simpa using h)
    rw [List.set_cons_succ, List.flatMap_cons, List.flatMap_cons, List.append_assoc (enc a) ((l.set i x).flatMap enc) rest, ← ih, Nat.succ_mul, List.append_assoc (enc a) (l.flatMap enc) rest]
    rw [List.take_append, List.take_of_length_le (by rw [hk]; omega), hk, Nat.add_sub_cancel, List.drop_append, List.drop_of_length_le (by rw [hk]; omega), List.nil_append, hk, show i * k + k + k - k = i * k + k from by omega]
    simp only [List.append_assoc]

/-- a block that begins with a row: an element's cells -/
theorem whole_at {w : World} {g : Nat} {t : TypeId} {l : List α} {rest : List Value} (hk : ∀ x, (enc x).length = k) (h : Whole1 w g t (l.flatMap enc ++ rest).toArray) {i : Nat} {x : α} (hx : l[i]? = some x) (q : Nat) (hq : q < k) :
    w.cell? ⟨g, i * k + q, none⟩ = (enc x)[q]? := by
  have hi := (List.getElem?_eq_some_iff.1 hx).1
  have h1 : i * k + k ≤ l.length * k := by rw [← Nat.succ_mul]; exact Nat.mul_le_mul_right _ hi
  rw [h.cell, List.getElem?_toArray, List.getElem?_append_left (by rw [fm_len hk]; omega)]
  exact fm_at hk l i x q hx hq
/-- a row: an element's cells -/
theorem row_at {w : World} {B n : Nat} {A : Option Addr} {l : List α} (hk : ∀ x, (enc x).length = k) (h : Row w B k A n (l.flatMap enc)) (hl : l.length = n) (i : Nat) (hi : i < n) :
    ∃ g o x, A = some ⟨g, o, none⟩ ∧ g < B ∧ l[i]? = some x ∧ ∀ q, q < k → w.cell? ⟨g, o + i * k + q, none⟩ = (enc x)[q]? := by
  obtain ⟨g, o, rfl, hg, hc⟩ := h.at_ (by omega)
  refine ⟨g, o, l[i]'(by omega), rfl, hg, List.getElem?_eq_getElem _, fun q hq => ?_⟩
  have h1 : i * k + k ≤ n * k := by rw [← Nat.succ_mul]; exact Nat.mul_le_mul_right _ hi
  rw [Nat.add_assoc, hc _ (by omega)]
  exact fm_at hk l i _ q (List.getElem?_eq_getElem _) hq
theorem row_of_whole {w : World} {g n : Nat} {t : TypeId} {l : List α} {rest : List Value} (hk : ∀ x, (enc x).length = k) (h : Whole1 w g t (l.flatMap enc ++ rest).toArray) (hl : l.length = n) : Row w w.heap.size k (some ⟨g, 0, none⟩) n (l.flatMap enc) :=
  ⟨by rw [fm_len hk, hl], fun _ => ⟨g, 0, rfl, h.lt, fun j hj => by
    rw [Nat.zero_add, h.cell, List.getElem?_toArray, List.getElem?_append_left (by rw [fm_len hk, hl]; exact hj)]⟩⟩
end

/-- cells stored one behind the other -/
theorem puts_whole {g : Nat} {t : TypeId} : ∀ (vs : List Value) (o : Nat) (w : World) (cs : List Value), Whole1 w g t cs.toArray → o + vs.length ≤ cs.length → Whole1 (w.setCells g o vs) g t (cs.take o ++ vs ++ cs.drop (o + vs.length)).toArray
  | [], o, w, cs, h, _ => by simpa [World.setCells] using h
  | v :: vs, o, w, cs, h, hl => by
    rw [List.length_cons] at hl
    have h1 : Whole1 (w.setCell ⟨g, o, none⟩ v) g t (cs.set o v).toArray := by simpa using h.put o v
    have h2 := puts_whole vs (o + 1) _ _ h1 (by rw [List.length_set]; omega)
    have e1 : (cs.set o v).take (o + 1) = cs.take o ++ [v] := by
      rw [List.take_set, List.take_succ_eq_append_getElem (by omega), List.set_append, if_neg (by rw [List.length_take]; omega), List.length_take, Nat.min_eq_left (by omega), Nat.sub_self]
      rfl
    have e2 : (cs.set o v).drop (o + 1 + vs.length) = cs.drop (o + (vs.length + 1)) := by
      rw [List.drop_set_of_lt (by omega), show o + 1 + vs.length = o + (vs.length + 1) from by omega]
    rw [e1, e2] at h2
    rw [List.length_cons]
    simpa [World.setCells] using h2
theorem puts_gb {g : Nat} : ∀ (vs : List Value) (o : Nat) (w : World), w.grownBy (w.setCells g o vs) (some g)
  | [], _, w => gb_refl w _
  | v :: vs, o, w => gb_trans (gb_put (gb_refl w _) o v) (puts_gb vs (o + 1) _)
section
variable {α : Type} {enc : α → List Value} {k : Nat}
/-- one element stored -/
theorem puts_elem {w : World} {g : Nat} {t : TypeId} {l : List α} {rest : List Value} (hk : ∀ x, (enc x).length = k) (h : Whole1 w g t (l.flatMap enc ++ rest).toArray) {i : Nat} (hi : i < l.length) (x : α) :
    Whole1 (w.setCells g (i * k) (enc x)) g t ((l.set i x).flatMap enc ++ rest).toArray := by
  have h1 : i * k + k ≤ l.length * k := by rw [← Nat.succ_mul]; exact Nat.mul_le_mul_right _ hi
  have h2 := puts_whole (enc x) (i * k) w _ h (by rw [List.length_append, fm_len hk, hk]; omega)
  rw [hk, List.take_append_of_le_length (by rw [fm_len hk]; omega), fm_set hk rest x l i hi] at h2
  exact h2
theorem own_whole_g {w : World} {base n : Nat} {T : TypeId} {v : Value} {l : List α} (hk : ∀ x, (enc x).length = k) (h : w.ownsRow base T k v n (l.flatMap enc)) (hn : 0 < n) :
    ∃ g cap rest, v = .slice (some ⟨g, 0, none⟩) n cap ∧ base ≤ g ∧ Whole1 w g T (l.flatMap enc ++ rest).toArray ∧ n ≤ cap ∧ cap ≤ maxLen ∧ l.length * k = n * k ∧ (l.flatMap enc ++ rest).length = cap * k := by
  obtain ⟨hl, h2⟩ := h
  rw [fm_len hk] at hl
  rcases h2 with ⟨_, h0⟩ | ⟨g, cap, cur, rfl, hb, hg, hnc, hc, hs, ht⟩
  · omega
  · have e : l.flatMap enc ++ cur.toList.drop (n * k) = cur.toList := by rw [← ht, List.take_append_drop]
    refine ⟨g, cap, cur.toList.drop (n * k), rfl, hb, ?_, hnc, hc, hl, ?_⟩
    · rw [e]; exact hg
    · rw [e]; simpa using hs
theorem own_of_whole_g {w : World} {base n g cap : Nat} {T : TypeId} {l : List α} {rest : List Value} (hk : ∀ x, (enc x).length = k) (hb : base ≤ g) (hw : Whole1 w g T (l.flatMap enc ++ rest).toArray) (hnc : n ≤ cap) (hc : cap ≤ maxLen) (hl : l.length = n) (hs : (l.flatMap enc ++ rest).length = cap * k) :
    w.ownsRow base T k (.slice (some ⟨g, 0, none⟩) n cap) n (l.flatMap enc) :=
  ⟨by rw [fm_len hk, hl], .inr ⟨g, cap, _, rfl, hb, hw, hnc, hc, by simpa using hs, by
    have h1 : (l.flatMap enc).length = n * k := by rw [fm_len hk, hl]
    simp [← h1]⟩⟩
end
end Go.Proofs.YthncochjhbmceaaGreat

namespace Go.Proofs.YthncochjhbmceaaGreat
set_option maxRecDepth 100000
open Go.RowKit Go.WideShapes Go.ChangeShapes

/-- The row's last step where of the world behind the call it is known that below the heap's old size nothing has turned. -/
theorem post_below {H : Type} {enc : TypeId × Value → H} {P : Program} {f : Func} {s : ChangeSpec} {apart fresh handsOn again : Bool} {W W' : World} {args : Array Value} {v : Value} {ds gs : List (DataW H)} {before pa pv : List MemPlace}
    (hW : DataW.Whole enc P f.params.toList s.vars apart W args.toList ds gs before)
    (hres : ∀ (b : Nat) (sp : Nat → Bool) (hd : Bool), DataW.TrodAll enc P W' b sp hd f.resultTypes.toList (v.resultList f.resultTypes.size) (s.fn H (ds ++ gs)).results [])
    (hargs : ∀ sp : Nat → Bool, (∀ p ∈ before, sp p.block = true) → DataW.TrodAll enc P W' 0 sp true f.params.toList args.toList (s.fn H (ds ++ gs)).args pa)
    (hvars : ∀ sp : Nat → Bool, (∀ p ∈ before, sp p.block = true) → DataW.TrodVars enc P W' sp s.vars (s.fn H (ds ++ gs)).vars pv)
    (hps : before = pa ++ pv) (hb : Below W.heap.size W W')
    (hok : ∀ (j : Nat) (t : TypeId) (r : Value), f.resultTypes[j]? = some t → (v.resultList f.resultTypes.size)[j]? = some r → Value.okWide P W' .any 0 t r) :
    s.post enc P f apart fresh handsOn again W args v W' := by
  have hin : ∀ p ∈ before, p.block < W.heap.size := fun p hp => hW.lt p hp
  have hold : ∀ p ∈ before, (fun b => decide (b < W.heap.size)) p.block = true := fun p hp => decide_eq_true (hin p hp)
  obtain ⟨_, _, _, _, _, hz, hn⟩ := id hW
  refine ⟨ds, gs, before, [], pa, pv, hW, hres _ _ _, hargs _ hold, hvars _ hold, ?_, fun _ => ⟨hok, (s.fn H (ds ++ gs)).results ++ (s.fn H (ds ++ gs)).args, (s.fn H (ds ++ gs)).vars, ([] ++ pa) ++ pv, ?_, ?_⟩⟩
  · refine World.keptBut_mono (fun p hp => ⟨hp, Or.inr ?_⟩) (hb.frame (· ∈ before))
    rwa [hps, List.mem_append] at hp
  · refine ⟨[] ++ pa, pv, trodAll_append (hargs _ (fun _ _ => rfl)) (hres _ _ _), hvars _ (fun _ _ => rfl), rfl, fun b off hp => ?_, fun ha => ?_⟩
    · have hq : MemPlace.cell b off ∈ before := by rw [hps]; simpa using hp
      rw [hb.frozen (hin _ hq)]
      exact hz b off hq
    · have h2 := hn ha
      rw [hps] at h2
      simpa using h2
  · intro p hp _
    rw [hps]
    simpa using hp

section
variable {H : Type} {enc : TypeId × Value → H} {P : Program} {W W' : World}

/-- All arguments read behind the call as before. -/
theorem all_stay (hl : laidOutB P = true) {sp : Nat → Bool} : ∀ {ts : List TypeId} {vs : List Value} {ds : List (DataW H)} {ps : List MemPlace},
    (ts.all fun t => P.readableRec t && decide (t < P.types.size)) = true → DataW.TrodAll enc P W 0 (fun _ => true) true ts vs ds ps → Below W.heap.size W W' → (∀ p ∈ ps, p.block < W.heap.size) → (∀ p ∈ ps, sp p.block = true) →
    DataW.TrodAll enc P W' 0 sp true ts vs ds ps
  | [], vs, ds, ps, _, h, _, _, _ => by
    obtain ⟨rfl, rfl, rfl⟩ := trodAll_nil h
    exact trodAll_mk0
  | t :: ts, vs, ds, ps, hr, h, hb, hlt, hs => by
    obtain ⟨v, vs', d, ds', p, q, rfl, rfl, rfl, h0, r⟩ := trodAll_cons h
    simp only [List.all_cons, Bool.and_eq_true, decide_eq_true_eq] at hr
    refine trodAll_cons_mk (WideElems.Trod_stays hl hr.1.1 hr.1.2 h0 (fun x hx => hb.same (hlt x (by simp [hx]))) (fun x hx => hs x (by simp [hx]))) (all_stay hl ?_ r hb (fun x hx => hlt x (by simp [hx])) (fun x hx => hs x (by simp [hx])))
    simpa using hr.2

/-- The walk of a law, as the frame asks it. -/
def LawWalk (enc : TypeId × Value → H) (P : Program) (f : FuncId) (fn : Func) (cond : List (DataW H) → Prop) : Prop :=
  ∀ (W : World) (base : Nat) (args : Array Value) (ds : List (DataW H)) (p : List MemPlace),
    (∀ (j : Nat) t v, fn.params[j]? = some t → args[j]? = some v → Value.okWide P W .any base t v) →
    DataW.TrodAll enc P W 0 (fun _ => true) true fn.params.toList args.toList ds p → (∀ x ∈ p, x.block < W.heap.size) →
    (DataW.weightsEach P fn.params.toList ds).all (· ≤ reachBytes) = true → cond ds →
    Calls P f args W fun e W' => e = .returned (.bool true) ∧ Below W.heap.size W W'

/-- What a law's specification says. -/
def LawSpec (s : ChangeSpec) (n : Nat) : Prop := s.vars = [] ∧ ∀ (H : Type) (ds : List (DataW H)), ds.length = n → (s.fn H ds).results = [.lit (.bool true)] ∧ (s.fn H ds).args = ds ∧ (s.fn H ds).vars = []

theorem trodAll_len {sp : Nat → Bool} {b : Nat} {hd : Bool} : ∀ {ts : List TypeId} {vs : List Value} {ds : List (DataW H)} {ps : List MemPlace}, DataW.TrodAll enc P W b sp hd ts vs ds ps → ds.length = ts.length
  | [], _, _, _, h => by obtain ⟨rfl, rfl, rfl⟩ := trodAll_nil h; rfl
  | t :: ts, _, _, _, h => by
    obtain ⟨v, vs', d, ds', p, q, rfl, rfl, rfl, h0, r⟩ := trodAll_cons h
    simp [trodAll_len r]

theorem law_post {f : FuncId} {fn : Func} {s : ChangeSpec} {tb : TypeId} {cond : List (DataW H) → Prop}
    (hl : laidOutB P = true) (hread : (fn.params.toList.all fun t => P.readableRec t && decide (t < P.types.size)) = true)
    (hres : fn.resultTypes = #[tb]) (htb : P.underlying tb = some .bool) (hspec : LawSpec s fn.params.size) (walk : LawWalk enc P f fn cond)
    {base : Nat} {args : Array Value} {ds gs : List (DataW H)} {before : List MemPlace}
    (hval : ∀ (j : Nat) t v, fn.params[j]? = some t → args[j]? = some v → Value.okWide P W .any base t v)
    (hW : DataW.Whole enc P fn.params.toList s.vars false W args.toList ds gs before)
    (hsz : (DataW.weightsEach P (fn.params.toList ++ s.plain.varTypes P) (ds ++ gs)).all (· ≤ reachBytes) = true) (hc : cond (ds ++ gs)) :
    Calls P f args W fun e W' => ∃ v, e = .returned v ∧ s.post enc P fn false true false false W args v W' := by
  have hW0 := hW
  obtain ⟨p, q, hA, hV, rfl, hfz, hnd⟩ := hW
  obtain ⟨hv0, hs⟩ := hspec
  rw [hv0] at hV
  obtain ⟨rfl, rfl⟩ := trodVars_none hV
  have hvt : s.plain.varTypes P = [] := by simp [DataSpec.varTypes, ChangeSpec.plain, hv0]
  rw [hvt] at hsz
  simp only [List.append_nil] at hsz hc hW0
  have hlen := trodAll_len hA
  have hlt : ∀ x ∈ p, x.block < W.heap.size := fun x hx => by simpa using hW0.lt x hx
  obtain ⟨hs1, hs2, hs3⟩ := hs H ds (by simpa using hlen)
  refine (walk W base args ds p hval hA hlt hsz hc).mono fun e W' ⟨he, hb⟩ => ⟨_, he, ?_⟩
  refine post_below (pa := p) (pv := []) hW0 (fun b sp hd => ?_) (fun sp hsp => ?_) (fun sp hsp => ?_) (by simp) hb ?_
  · rw [hres, List.append_nil, hs1]
    exact trodAll_mk1 ⟨1, by simp [DataW.trod, Value.cells, htb]⟩
  · rw [List.append_nil, hs2]
    exact all_stay hl hread hA hb hlt hsp
  · rw [List.append_nil, hs3, hv0]; rfl
  · intro j t r hj hr
    rw [hres] at hj hr
    cases j with
    | zero =>
      simp only [List.getElem?_toArray, List.getElem?_cons_zero, Option.some.injEq] at hj
      have hr' : some (Value.bool true) = some r := hr
      injection hr' with hr'
      subst hj hr'
      simp [Value.okWide, htb, Cell.okWide, Cell.ok]
    | succ j => simp at hj

/-- THE FRAME of '..Said'. -/
theorem law_said {C : Checked} {os : Os} {f : FuncId} {fn : Func} {s : ChangeSpec} {tb : TypeId}
    (own : ownKnob C.prog.godebug = none) (started : os.Started) (noInit : C.prog.inits.idxOf? f = none) (hfn : C.prog.funcs[f]? = some fn)
    (witness : ∃ (w : World) (tape : Tape) (i : Input), w.os = os ∧ (w.forCall tape i).Shaped C.prog ∧ i.vars = [] ∧ Input.okWide C.prog (w.forCall tape i) .any w.heap.size f i ∧
      s.pre6 enc C.prog fn [] false (w.forCall tape i).memory i.args ∧ ({} : Assume).holds C.prog (lone (Frame.enter C.prog f i.args .normal) [] (w.forCall tape i)))
    (hl : laidOutB C.prog = true) (hread : (fn.params.toList.all fun t => C.prog.readableRec t && decide (t < C.prog.types.size)) = true)
    (hres : fn.resultTypes = #[tb]) (htb : C.prog.underlying tb = some .bool) (hspec : LawSpec s fn.params.size) (walk : LawWalk enc C.prog f fn fun _ => True) :
    ReturnsInHanded {} C os f .any (s.pre6 enc C.prog fn [] false) (s.post enc C.prog fn false true false false) := by
  refine returnsInHanded_of_change_sized own started noInit hfn witness ?_
  intro W base args ds gs before hval hW _ hsz _
  exact law_post hl hread hres htb hspec walk hval hW hsz trivial

/-- THE FRAME of '..UptoSaid'. -/
theorem law_upto {C : Checked} {os : Os} {f : FuncId} {fn : Func} {s : ChangeSpec} {tb : TypeId} {F : Stop.Interp}
    (own : ownKnob C.prog.godebug = none) (started : os.Started) (noInit : C.prog.inits.idxOf? f = none) (hfn : C.prog.funcs[f]? = some fn)
    (witness : ∃ (w : World) (tape : Tape) (i : Input), w.os = os ∧ (w.forCall tape i).Shaped C.prog ∧ i.vars = [] ∧ Input.okWide C.prog (w.forCall tape i) .any w.heap.size f i ∧
      (Rows.OpenSpec.upto s).pre6 enc C.prog fn [] false (w.forCall tape i).memory i.args ∧ ({} : Assume).holds C.prog (lone (Frame.enter C.prog f i.args .normal) [] (w.forCall tape i)))
    (hl : laidOutB C.prog = true) (hread : (fn.params.toList.all fun t => C.prog.readableRec t && decide (t < C.prog.types.size)) = true)
    (hres : fn.resultTypes = #[tb]) (htb : C.prog.underlying tb = some .bool) (hspec : LawSpec s fn.params.size) (walk : LawWalk enc C.prog f fn fun ds => Rows.uptoBulkAll ds ≤ 1048576) :
    ReturnsInHanded {} C os f .any ((Rows.OpenSpec.upto s).pre6 enc C.prog fn [] false) (((Rows.OpenSpec.upto s).at F).post enc C.prog fn false true false false) := by
  refine returnsInHanded_of_cond_sized (s := Rows.OpenSpec.upto s) (k := Rows.uptoSmall) rfl own started noInit hfn witness ?_
  intro W base args ds gs before hval hW _ hk hsz _
  exact law_post hl hread hres htb hspec walk hval hW hsz (of_decide_eq_true hk)
end

/-! A slice of structs of integers that came in. -/
section
variable {H : Type} {enc : TypeId × Value → H} {P : Program} {W : World}

/-- the cells of one element -/
def intRow (ks : List IntKind) (r : List Int) : List Value := List.zipWith Value.int ks r

theorem open_flat {t e : TypeId} {fs : Array Field} (ks : List IntKind) {v : Value} {d : DataW H} {ps : List MemPlace} {base : Nat} (ht : P.underlying t = some (.slice e)) (he : P.underlying e = some (.struct fs)) (hone : Deep.oneCellFields P fs = true) (hC : P.cellsOf e = fs.size)
    (hks : fs.toList.map (fun f => P.underlying f.type) = ks.map fun k => some (TypeDesc.int k)) (hpos : 0 < fs.size)
    (hv : Value.okWide P W .any base t v) (h : DataW.Trod enc P W 0 (fun _ => true) true t v d ps) (hlt : ∀ x ∈ ps, x.block < W.heap.size) :
    ∃ (A : Option Addr) (n c : Nat) (L : List (List Int)), v = .slice A n c ∧ n ≤ c ∧ L.length = n ∧ Row W W.heap.size ks.length A n (L.flatMap (intRow ks)) ∧
      (∀ r ∈ L, r.length = ks.length ∧ ∀ (j : Nat) (k : IntKind) (x : Int), ks[j]? = some k → r[j]? = some x → (Lit.int k x).wf = true) ∧ ((n = 0 ∧ d = .nil) ∨ ∃ es sp : List (DataW H), d = .slice es sp ∧ es.length = n) := by
  have hkl : ks.length = fs.size := by
    have := congrArg List.length hks
    simpa using this.symm
  obtain ⟨A, n, c, rfl⟩ := okWide_slice ht hv
  obtain ⟨fuel, hf⟩ := h
  rcases Deep.open_slice ht hf with ⟨hcs, hx⟩ | ⟨a, len, cap, m, n', D, Pl, hcs, _, hl, hm, hmm, hx, hi⟩
  · simp only [Value.cells, List.cons.injEq, Value.slice.injEq, and_true] at hcs
    obtain ⟨rfl, rfl, rfl⟩ := hcs
    refine ⟨none, 0, 0, [], rfl, Nat.le_refl _, rfl, Row.nil, by simp, .inl ⟨rfl, ?_⟩⟩
    simp only [Prod.mk.injEq] at hx
    exact hx.1
  · simp only [Value.cells, List.cons.injEq, Value.slice.injEq, and_true] at hcs
    obtain ⟨rfl, rfl, rfl⟩ := hcs
    simp only [if_true] at hmm
    subst hmm
    simp only [Prod.mk.injEq] at hx
    have hel : ∀ i, i < n → ∃ r : List Int, (r.length = ks.length ∧ ∀ (j : Nat) (k : IntKind) (x : Int), ks[j]? = some k → r[j]? = some x → (Lit.int k x).wf = true) ∧ ∀ j, j < ks.length → W.cell? (a.add (i * ks.length + j)) = (intRow ks r)[j]? := by
      intro i hin
      obtain ⟨cs', hc, ht'⟩ := hi i (by omega)
      rw [hC] at hc
      obtain ⟨ys, n'', hn', hy, hlen, hyl, hfl⟩ := DataW.trod_struct he ht'
      obtain ⟨_, hcl, hat⟩ := World.cells?_some hc
      have hcell : ∀ j, j < ks.length → ∃ x : Int, ∃ k, ks[j]? = some k ∧ cs'[j]? = some (.int k x) ∧ (Lit.int k x).wf = true := by
        intro j hj
        have hjf : j < fs.size := by omega
        have hfj : fs[j]? = some fs[j] := Array.getElem?_eq_getElem hjf
        obtain ⟨ho, hk1⟩ := Deep.hone_of hone j _ hfj
        have h1 := hfl j _ hfj
        rw [ho, hk1] at h1
        have hcj : cs'[j]? = some (cs'[j]'(by omega)) := List.getElem?_eq_getElem (by omega)
        have hone' : (cs'.drop j).take 1 = [cs'[j]'(by omega)] := by
          rw [List.drop_eq_getElem_cons (by omega)]; rfl
        rw [hone'] at h1
        have hu : P.underlying fs[j].type = some (.int ks[j]) := by
          have := congrArg (fun l => l[j]?) hks
          simp [hjf, hj] at this
          exact this
        have hys : ys[j]? = some (ys[j]'(by omega)) := List.getElem?_eq_getElem (by omega)
        rw [hys] at h1
        obtain ⟨x, hx1, _, hw⟩ := DataW.trod_int hu h1
        simp only [List.cons.injEq, and_true] at hx1
        exact ⟨x, ks[j], List.getElem?_eq_getElem hj, by rw [hcj, hx1], hw⟩
      obtain ⟨X, hX⟩ := Deep.choose_lt (α := Int) (n := ks.length) (p := fun j x => ∃ k, ks[j]? = some k ∧ cs'[j]? = some (.int k x) ∧ (Lit.int k x).wf = true) hcell
      refine ⟨(List.range ks.length).map X, ⟨by simp, fun j k x hk hx => ?_⟩, fun j hj => ?_⟩
      · have hj : j < ks.length := (List.getElem?_eq_some_iff.1 hk).1
        obtain ⟨k', hk', _, hw⟩ := hX j hj
        rw [hk] at hk'
        injection hk' with hk'
        subst hk'
        simp [hj] at hx
        rw [← hx]; exact hw
      · obtain ⟨k', hk', hc', _⟩ := hX j hj
        have hj' : j < ks.length := hj
        have := hat j (by omega)
        rw [hc'] at this
        rw [show i * ks.length + j = i * fs.size + j from by rw [hkl], ← Deep.add_add, this]
        have hkj : ks[j] = k' := by
          rw [List.getElem?_eq_getElem hj'] at hk'
          injection hk'
        simp [intRow, hj', hkj]
    obtain ⟨R, hR⟩ := Deep.choose_lt (α := List Int) hel
    have hflat : ∀ (m : Nat), m ≤ n → (((List.range m).map R).flatMap (intRow ks)).length = m * ks.length ∧ ∀ j, j < m * ks.length → W.cell? (a.add j) = (((List.range m).map R).flatMap (intRow ks))[j]? := by
      intro m
      induction m with
      | zero => intro _; exact ⟨by simp, fun j hj => by simp at hj⟩
      | succ m ih =>
        intro hm'
        obtain ⟨i1, i2⟩ := ih (by omega)
        obtain ⟨⟨hr1, _⟩, hr2⟩ := hR m (by omega)
        have hlen1 : (intRow ks (R m)).length = ks.length := by simp [intRow, hr1]
        rw [List.range_succ, List.map_append, List.flatMap_append, List.map_cons, List.map_nil, List.flatMap_cons, List.flatMap_nil, List.append_nil]
        refine ⟨by rw [List.length_append, i1, hlen1, Nat.succ_mul], fun j hj => ?_⟩
        rw [Nat.succ_mul] at hj
        rcases Nat.lt_or_ge j (m * ks.length) with h1 | h1
        · rw [List.getElem?_append_left (by omega)]; exact i2 j h1
        · rw [List.getElem?_append_right (by omega), i1, ← hr2 _ (by omega), show m * ks.length + (j - m * ks.length) = j from by omega]
    obtain ⟨h1, h2⟩ := hflat n (Nat.le_refl _)
    refine ⟨_, n, _, (List.range n).map R, rfl, by omega, by simp, ⟨h1, fun hn => ?_⟩, ?_, .inr ⟨_, _, hx.1, by simp⟩⟩
    · obtain ⟨b, off, spot⟩ := a
      have hpk : 0 < n * ks.length := Nat.mul_pos hn (by omega)
      have hc0 := h2 0 hpk
      have hsp : spot = none := by
        rw [List.getElem?_eq_getElem (by rw [h1]; exact hpk)] at hc0
        simpa [Addr.add] using World.cell?_spot hc0
      subst hsp
      refine ⟨b, off, rfl, ?_, fun j hj => by rw [← h2 j hj, Addr.add_lit]⟩
      refine hlt (.cell b off) ?_
      rw [hx.2]
      refine List.mem_append_left _ (MemPlace.mem_row.2 ⟨0, ?_, by simp⟩)
      rw [hC]
      exact Nat.mul_pos (by omega) hpos
    · intro r hr
      simp only [List.mem_map, List.mem_range] at hr
      obtain ⟨i, hi', rfl⟩ := hr
      exact (hR i hi').1

end
end Go.Proofs.YthncochjhbmceaaGreat

namespace Go.Proofs.YthncochjhbmceaaGreat
set_option maxRecDepth 100000
open Go.RowKit

/-- some draws and some blocks on -/
def Gr (w w' : World) : Prop := ∃ q os, w' = Sort.grow (w.drewN q) os
theorem Gr.refl (w : World) : Gr w w := ⟨0, #[], by simp [Sort.grow]; rfl⟩
theorem Gr.trans {a b c : World} (h : Gr a b) (k : Gr b c) : Gr a c := by
  obtain ⟨q, os, rfl⟩ := h
  obtain ⟨q2, os2, rfl⟩ := k
  exact ⟨q + q2, os ++ os2, by rw [← World.drewN_drewN]; simp [Sort.grow, World.drewN, Array.append_assoc]⟩
theorem Gr.alloc {a b : World} (h : Gr a b) (o : Obj) : Gr a (b.alloc o) := by
  refine h.trans ⟨0, #[o], ?_⟩
  rw [Sort.alloc_eq_grow]; rfl
theorem Gr.drewN {a b : World} (h : Gr a b) (n : Nat) : Gr a (b.drewN n) := h.trans ⟨n, #[], by simp [Sort.grow]; rfl⟩
theorem Gr.drew {a b : World} (h : Gr a b) : Gr a b.drew := h.drewN 1
theorem Gr.below {a b : World} (h : Gr a b) : Below a.heap.size a b := by
  obtain ⟨q, os, rfl⟩ := h
  exact below_regrown a (a.drawn + q) os
theorem Gr.of_grown (w : World) (p : GrownBy) : Gr w (Sort.grow (w.drewN p.n) p.os) := ⟨p.n, p.os, rfl⟩
theorem gr_cell {a b : World} {p : Addr} {v : Value} (h : Gr a b) (hc : a.cell? p = some v) : b.cell? p = some v := (h.below.cell (World.block_lt_of_cell? a p hc)).trans hc
theorem gr_alloc_cell {a : World} {p : Addr} {v : Value} (o : Obj) (hc : a.cell? p = some v) : (a.alloc o).cell? p = some v := gr_cell ((Gr.refl a).alloc o) hc
end Go.Proofs.YthncochjhbmceaaGreat
