/- A map as the list of its entries: look-up, store, length, and the walk's laws. Condition: its keys are found by sameness. -/
import Derived.Maps.RangeWalk
namespace Go.Proofs.YthncochjhbmceaaGreat
open Go.MapKept Go.ChangeMaps

open Classical in
noncomputable def atV : List (Value × Value) → Value → Option Value
  | [], _ => none
  | p :: m, k => if p.1 = k then some p.2 else atV m k

open Classical in
noncomputable def putV : List (Value × Value) → Value → Value → List (Value × Value)
  | [], k, v => [(k, v)]
  | p :: m, k, v => if p.1 = k then (k, v) :: m else p :: putV m k v

theorem atV_put_same : ∀ (m : List (Value × Value)) (k v : Value), atV (putV m k v) k = some v
  | [], k, v => by simp [putV, atV]
  | p :: m, k, v => by
    unfold putV
    split
    · simp [atV]
    · rename_i h
      simp [atV, h, atV_put_same m k v]

theorem atV_put_other : ∀ (m : List (Value × Value)) (k v : Value) {k' : Value}, k' ≠ k → atV (putV m k v) k' = atV m k'
  | [], k, v, k', hne => by simp [putV, atV, Ne.symm hne]
  | p :: m, k, v, k', hne => by
    unfold putV
    split
    · rename_i h
      have h1 : ¬ p.1 = k' := fun e => hne (e ▸ h)
      simp [atV, Ne.symm hne, h1]
    · simp [atV, atV_put_other m k v hne]

theorem atV_none : ∀ (m : List (Value × Value)) (k : Value), atV m k = none ↔ ∀ p ∈ m, p.1 ≠ k
  | [], k => by simp [atV]
  | p :: m, k => by
    unfold atV
    split
    · rename_i h
      simp [h]
    · rename_i h
      simp [h, atV_none m k]

theorem atV_mem : ∀ (m : List (Value × Value)) (k v : Value), atV m k = some v → (k, v) ∈ m
  | p :: m, k, v, h => by
    unfold atV at h
    split at h
    · rename_i h1
      cases h
      exact List.mem_cons.2 (Or.inl (by rw [← h1]))
    · exact List.mem_cons_of_mem _ (atV_mem m k v h)

theorem atV_of_mem : ∀ (m : List (Value × Value)), (m.map (·.1)).Nodup → ∀ (k v : Value), (k, v) ∈ m → atV m k = some v
  | p :: m, hn, k, v, h => by
    simp only [List.map_cons, List.nodup_cons] at hn
    unfold atV
    rcases List.mem_cons.1 h with e | h
    · rw [← e]; simp
    · rw [if_neg, atV_of_mem m hn.2 k v h]
      intro e
      exact hn.1 (List.mem_map.2 ⟨(k, v), h, e.symm⟩)

theorem putV_keys : ∀ (m : List (Value × Value)) (k v : Value), ∀ p ∈ putV m k v, p = (k, v) ∨ (p ∈ m ∧ p.1 ≠ k) ∨ (p ∈ m)
  | [], k, v, p, h => by simp [putV] at h; exact Or.inl h
  | q :: m, k, v, p, h => by
    unfold putV at h
    split at h
    · rcases List.mem_cons.1 h with e | h
      · exact Or.inl e
      · exact Or.inr (Or.inr (List.mem_cons_of_mem _ h))
    · rcases List.mem_cons.1 h with e | h
      · exact Or.inr (Or.inr (by simp [e]))
      · rcases putV_keys m k v p h with h1 | h1 | h1
        · exact Or.inl h1
        · exact Or.inr (Or.inr (List.mem_cons_of_mem _ h1.1))
        · exact Or.inr (Or.inr (List.mem_cons_of_mem _ h1))

theorem putV_new : ∀ (m : List (Value × Value)) (k v : Value), (∀ p ∈ m, p.1 ≠ k) → putV m k v = m ++ [(k, v)]
  | [], _, _, _ => rfl
  | p :: m, k, v, h => by
    unfold putV
    rw [if_neg (h p (by simp)), putV_new m k v (fun q hq => h q (by simp [hq]))]
    rfl

theorem putV_old : ∀ (m : List (Value × Value)) (k v : Value) (j : Nat) (v0 : Value), (m.map (·.1)).Nodup → m[j]? = some (k, v0) → putV m k v = m.set j (k, v)
  | p :: m, k, v, 0, v0, _, h => by
    simp at h
    unfold putV
    simp [h]
  | p :: m, k, v, j + 1, v0, hn, h => by
    simp only [List.map_cons, List.nodup_cons] at hn
    simp only [List.getElem?_cons_succ] at h
    unfold putV
    rw [if_neg, putV_old m k v j v0 hn.2 h]
    · rfl
    · intro e
      exact hn.1 (List.mem_map.2 ⟨(k, v0), List.mem_of_getElem? h, e.symm⟩)

/-- WHAT THE LAWS NEED OF THE KEYS: found by sameness. (T: what a key is, in a world: a pointer's block must lie.) -/
structure KeyEq (P : Program) (k : TypeId) (T : World → Value → Prop) : Prop where
  check : ∀ (w : World) (em : Bool) {v : Value}, T w v → (Instr.checkKey em 10000 k v).run P w = .ok () w
  find : ∀ (w : World) {x : Value}, T w x → ∀ es : List MapEntry, (∀ e ∈ es, T w e.key) →
    ((Instr.findKey k x es).run P w = .ok none w ∧ ∀ e ∈ es, e.key ≠ x) ∨ ∃ j e, (Instr.findKey k x es).run P w = .ok (some (j, e.val)) w ∧ es[j]? = some e ∧ e.key = x
  stays : ∀ (w : World) {v : Value}, T w v → (Instr.keyThatStays v v).run P w = .ok v w

def IsStr (v : Value) : Prop := ∃ s, v = .string s
def IsInt (q : IntKind) (v : Value) : Prop := ∃ n, v = .int q n

theorem keyEq_plain {P : Program} {k : TypeId} {d : TypeDesc} (hd : P.underlying k = some d) {S : Value → Prop} (hS : ∀ v, S v → IsKey d v) : KeyEq P k (fun _ => S) where
  check w em v h := run_checkKey hd (hS v h) em 9999
  find w x h es hes := by
    rcases findNow_spec (hS x h) es 0 (fun e he => hS _ (hes e he)) with ⟨h1, h2⟩ | ⟨j, e0, h1, h2, h3⟩
    · exact Or.inl ⟨run_findKey hd h1, h2⟩
    · exact Or.inr ⟨j, e0, by simpa using run_findKey hd h1, h2, h3⟩
  stays w v h := run_keyThatStays (hS v h)

theorem keyEq_string {P : Program} {k : TypeId} (hk : P.underlying k = some .string) : KeyEq P k (fun _ => IsStr) :=
  keyEq_plain hk (fun v ⟨s, e⟩ => by rw [e]; trivial)
theorem keyEq_int {P : Program} {k : TypeId} {q : IntKind} (hk : P.underlying k = some (.int q)) : KeyEq P k (fun _ => IsInt q) :=
  keyEq_plain hk (fun v ⟨s, e⟩ => by rw [e]; exact rfl)

/-- BLOCK b IS THE MAP OF THESE ENTRIES. -/
def MapV (S : Value → Prop) (w : World) (b : Nat) (m : List (Value × Value)) : Prop :=
  (∃ es clock, w.heap[b]? = some (.map es clock) ∧ Stamped es clock ∧ es.toList.map (fun e => (e.key, e.val)) = m) ∧ ∀ p ∈ m, S p.1

section
variable {P : Program} {k e t : TypeId} {S : Value → Prop} {T : World → Value → Prop} {w : World} {b : Nat} {m : List (Value × Value)}

theorem MapV.nodup (h : MapV S w b m) : (m.map (·.1)).Nodup := by
  obtain ⟨⟨es, clock, _, ⟨_, _, h3⟩, rfl⟩, _⟩ := h
  simpa [List.map_map, Function.comp_def] using h3

theorem MapV.lt (h : MapV S w b m) : b < w.heap.size := by
  obtain ⟨⟨es, clock, hb, _⟩, _⟩ := h
  exact (Array.getElem?_eq_some_iff.1 hb).1

theorem MapV.kept {w' : World} (h : MapV S w b m) (hg : w'.heap[b]? = w.heap[b]?) : MapV S w' b m := by
  obtain ⟨⟨es, clock, hb, r⟩, hS⟩ := h
  exact ⟨⟨es, clock, hg.trans hb, r⟩, hS⟩

theorem mapV_made (S : Value → Prop) (w : World) : MapV S (w.alloc (.map #[] 0)) w.heap.size [] :=
  ⟨⟨#[], 0, (MapKept.heap_alloc w _).1, stamped_empty 0, rfl⟩, by simp⟩

theorem MapV.found (h : MapV S w b m) (K : KeyEq P k T) (hT : ∀ p ∈ m, T w p.1) {key : Value} (hk : T w key) : ∃ es clock, w.heap[b]? = some (.map es clock) ∧ Stamped es clock ∧ es.toList.map (fun e => (e.key, e.val)) = m ∧
    ((atV m key = none ∧ (Instr.findKey k key es.toList).run P w = .ok none w ∧ ∀ p ∈ m, p.1 ≠ key) ∨
     ∃ j e0, es.toList[j]? = some e0 ∧ e0.key = key ∧ atV m key = some e0.val ∧ (Instr.findKey k key es.toList).run P w = .ok (some (j, e0.val)) w) := by
  have hn := h.nodup
  obtain ⟨⟨es, clock, hb, hs, rfl⟩, _⟩ := h
  have hks : ∀ x ∈ es.toList, T w x.key := fun x hx => hT (x.key, x.val) (List.mem_map.2 ⟨x, hx, rfl⟩)
  refine ⟨es, clock, hb, hs, rfl, ?_⟩
  rcases K.find w hk es.toList hks with ⟨h1, h2⟩ | ⟨j, e0, h1, h2, h3⟩
  · have h4 : ∀ p ∈ es.toList.map (fun e => (e.key, e.val)), p.1 ≠ key := fun p hp => by
      obtain ⟨x, hx, rfl⟩ := List.mem_map.1 hp
      exact h2 x hx
    exact Or.inl ⟨(atV_none _ _).2 h4, h1, h4⟩
  · refine Or.inr ⟨j, e0, h2, h3, atV_of_mem _ hn _ _ ?_, h1⟩
    rw [← h3]
    exact List.mem_map.2 ⟨e0, List.mem_of_getElem? h2, rfl⟩

/-- 'm[k]', 'v, ok := m[k]'. -/
theorem MapV.look (h : MapV S w b m) (K : KeyEq P k T) (hT : ∀ p ∈ m, T w p.1) (ht : P.underlying t = some (.map k e)) {z : Value} (hz : (zeroValue e).run P w = .ok z w) {key : Value} (hk : T w key) (c : Bool) :
    (Instr.lookup t (.map (some b)) key c).run P w = .ok (if c then .tuple #[(atV m key).getD z, .bool (atV m key).isSome] else (atV m key).getD z) w := by
  obtain ⟨es, clock, hb, hs, rfl, hf⟩ := h.found K hT hk
  rcases hf with ⟨h0, h1, _⟩ | ⟨j, e0, h1, h2, h3, h4⟩
  · simp [Instr.lookup, run_underlying ht, MapKept.run_getObj_map hb, K.check w _ hk, h1, hz, h0, Result.andThen]
  · simp [Instr.lookup, run_underlying ht, MapKept.run_getObj_map hb, K.check w _ hk, h4, h3, Result.andThen]

/-- 'm[k] = v'. -/
theorem MapV.store (h : MapV S w b m) (K : KeyEq P k T) (hT : ∀ p ∈ m, T w p.1) (ht : P.underlying t = some (.map k e)) {key : Value} (hk : T w key) (hk' : S key) (val : Value) :
    ∃ w', (Instr.mapUpdate t (.map (some b)) key val).run P w = .ok () w' ∧ MapV S w' b (putV m key val) ∧ w.grownBy w' (some b) ∧ w'.heap.size = w.heap.size := by
  have hn := h.nodup
  have hS := h.2
  obtain ⟨es, clock, hb, hs, rfl, hf⟩ := h.found K hT hk
  have hgb : ∀ o, w.grownBy (setBlock w b o) (some b) ∧ (setBlock w b o).heap.size = w.heap.size := fun o =>
    ⟨⟨rfl, rfl, rfl, by simp [setBlock], fun i _ hi => heap_setBlock_other hb _ (fun e => hi (by rw [e]))⟩, by simp [setBlock]⟩
  rcases hf with ⟨h0, h1, h2⟩ | ⟨j, e0, h1, h2, h3, h4⟩
  · have hne : ∀ x ∈ es.toList, x.key ≠ key := fun x hx => h2 (x.key, x.val) (List.mem_map.2 ⟨x, hx, rfl⟩)
    refine ⟨setBlock w b (.map (es.push ⟨key, val, clock⟩) (clock + 1)), ?_, ⟨⟨_, _, heap_setBlock_same hb _, stamped_push hs hne, ?_⟩, ?_⟩, (hgb _).1, (hgb _).2⟩
    · simp [Instr.mapUpdate, run_underlying ht, MapKept.run_getObj_map hb, K.check w false hk, h1, MapKept.run_setObj_map _ hb, Result.andThen, setBlock]
    · rw [putV_new _ _ _ h2]
      simp
    · intro p hp
      rw [putV_new _ _ _ h2] at hp
      rcases List.mem_append.1 hp with hp | hp
      · exact hS p hp
      · simp at hp
        rw [hp]
        exact hk'
  · have hj : es[j]? = some e0 := by simpa using h1
    have hkeyf : ∀ e', es[j]? = some e' → ({ e' with key := key, val := val } : MapEntry).key = e'.key := fun e' he' => by rw [hj] at he'; cases he'; exact h2.symm
    refine ⟨setBlock w b (.map (es.modify j (fun e' => { e' with key := key, val := val })) clock), ?_, ⟨⟨_, _, heap_setBlock_same hb _, stamped_modify hs _ _ (fun _ _ => rfl) (fun e' _ he' => hkeyf e' he'), ?_⟩, ?_⟩, (hgb _).1, (hgb _).2⟩
    · simp [Instr.mapUpdate, run_underlying ht, MapKept.run_getObj_map hb, K.check w false hk, h4, hj, h2, K.stays w hk, MapKept.run_setObj_map _ hb, Result.andThen, setBlock]
    · rw [putV_old _ key val j e0.val hn (by rw [List.getElem?_map, h1]; simp [h2]), Array.toList_modify, modify_eq_set _ _ _ _ h1]
      simp [List.map_set]
    · intro p hp
      rcases putV_keys _ _ _ p hp with rfl | h5 | h5
      · exact hk'
      · exact hS p h5.1
      · exact hS p h5

/-- 'len(m)'. -/
theorem MapV.len (h : MapV S w b m) (ht : P.underlying t = some (.map k e)) (ty : TypeId) : (Builtin.len_ #[t] ty #[.map (some b)]).run P w = .ok (.int .i64 m.length) w := by
  obtain ⟨⟨es, clock, hb, _, rfl⟩, _⟩ := h
  simp [Builtin.len_, run_underlying ht, MapKept.run_getObj_map hb, goInt, Result.andThen]
end

/-! ### at the operation -/
section
variable {P : Program} (w : World) {ops : Array Oper} {rest : List Oper} {o : Oper} {a : Act} {Q : Exit → Act → World → Prop} {S : Value → Prop} {T : World → Value → Prop} {k e : TypeId}

end
end Go.Proofs.YthncochjhbmceaaGreat
