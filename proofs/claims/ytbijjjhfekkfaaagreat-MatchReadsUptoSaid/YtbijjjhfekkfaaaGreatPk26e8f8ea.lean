/- What is left of a pattern behind a byte, and what a pattern matches: plain places. No program is walked here. How a pattern is read: plain places. No program is walked here. A map as the list of its entries: look-up, store, length, and the walk's laws. Condition: its keys are found by sameness. Keys that are pointers: found by sameness, as long as what they point at lies. No program is walked here. Cursors of the package post: what one tells (a rising list), and how it lies in memory. No program is walked here. A pattern's tree, and what is left of it, as they lie. No program is walked here. -/
import Derived.Test.YtbijjjhfekkfaaaGreatBase
import Derived.Maps.RangeWalk
import Derived.LaidEqlPtr
namespace Go.Proofs.YtbijjjhfekkfaaaGreat

/-- a pattern's tree; a set of bytes is four numbers -/
inductive Tr where
  | emp
  | cls (a b c d : Nat)
  | cat (x y : Tr)
  | alt (x y : Tr)
  | star (x : Tr)
  | plus (x : Tr)
  | quest (x : Tr)
/-- does the tree match the empty text? -/
def nulT : Tr → Bool
  | .cat x y => nulT x && nulT y
  | .alt x y => nulT x || nulT y
  | .plus x => nulT x
  | .cls _ _ _ _ => false
  | _ => true
/-- is the byte in the set? -/
def hasB (a b c d : Nat) (n : Nat) : Bool := (if n / 64 = 0 then a else if n / 64 = 1 then b else if n / 64 = 2 then c else d).testBit (n % 64)
/-- what is left behind the byte n of a tree with these behind it -/
def derT : Tr → List Tr → Nat → List (List Tr)
  | .emp, _, _ => []
  | .cls a b c d, r, n => if hasB a b c d n then [r] else []
  | .cat x y, r, n => derT x (y :: r) n ++ if nulT x then derT y r n else []
  | .alt x y, r, n => derT x r n ++ derT y r n
  | .star x, r, n => derT x (.star x :: r) n
  | .plus x, r, n => derT x (.star x :: r) n
  | .quest x, r, n => derT x r n
/-- what is left behind the byte n of trees, one behind another -/
def stepT : List Tr → Nat → List (List Tr)
  | [], _ => []
  | t :: r, n => derT t r n ++ if nulT t then stepT r n else []
/-- what is left behind a text -/
def leftT (t : Tr) (s : List Nat) : List (List Tr) := s.foldl (fun S n => S.flatMap fun r => stepT r n) [[t]]
/-- does the tree match the text? -/
def matT (t : Tr) (s : List Nat) : Bool := (leftT t s).any fun r => r.all nulT
theorem leftT_snoc (t : Tr) (s : List Nat) (n : Nat) : leftT t (s ++ [n]) = (leftT t s).flatMap fun r => stepT r n := by simp [leftT, List.foldl_append]
theorem fold_none (u : List Nat) : u.foldl (fun S n => S.flatMap fun r => stepT r n) ([] : List (List Tr)) = [] := by
  induction u with
  | nil => rfl
  | cons n u ih => simpa using ih
theorem leftT_none {t : Tr} {s : List Nat} (h : leftT t s = []) (u : List Nat) : leftT t (s ++ u) = [] := by
  unfold leftT at h ⊢
  rw [List.foldl_append, h, fold_none]
end Go.Proofs.YtbijjjhfekkfaaaGreat

namespace Go.Proofs.YtbijjjhfekkfaaaGreat

/-- a set of bytes: four numbers of 64 bits -/
structure BS where
  a : Nat
  b : Nat
  c : Nat
  d : Nat
def BS.zero : BS := ⟨0, 0, 0, 0⟩
def BS.all : BS := ⟨18446744073709551615, 18446744073709551615, 18446744073709551615, 18446744073709551615⟩
/-- the number at this place -/
def BS.at_ (S : BS) (k : Nat) : Nat := if k = 0 then S.a else if k = 1 then S.b else if k = 2 then S.c else S.d
/-- the number at this place turned -/
def BS.on (S : BS) (k : Nat) (f : Nat → Nat) : BS := if k = 0 then { S with a := f S.a } else if k = 1 then { S with b := f S.b } else if k = 2 then { S with c := f S.c } else { S with d := f S.d }
/-- one byte more -/
def BS.put1 (S : BS) (n : Nat) : BS := S.on (n / 64) fun x => x ||| 2 ^ (n % 64)
/-- n bytes more, from this one on -/
def BS.puts (S : BS) (lo : Nat) : Nat → BS
  | 0 => S
  | n + 1 => (BS.puts S lo n).put1 (lo + n)
/-- the bytes from lo to hi more -/
def BS.put (S : BS) (lo hi : Nat) : BS := S.puts lo (hi + 1 - lo)
def BS.not (S : BS) : BS := ⟨18446744073709551615 - S.a, 18446744073709551615 - S.b, 18446744073709551615 - S.c, 18446744073709551615 - S.d⟩
def BS.isZero (S : BS) : Bool := S.a == 0 && S.b == 0 && S.c == 0 && S.d == 0
def BS.tr (S : BS) : Tr := .cls S.a S.b S.c S.d

/-- what reading gives: an error's number, or something and the place behind it -/
inductive PR (α : Type) where
  | bad (e : Nat)
  | ok (a : α) (at_ : Nat)
/-- the byte at a place -/
def byteN (s : List UInt8) (i : Nat) : Nat := (s[i]?.getD 0).toNat
section
variable (s : List UInt8)
def escP (i : Nat) : PR Nat := if i < s.length then .ok (byteN s i) (i + 1) else .bad 65
def letP (i : Nat) : PR Nat := if i < s.length then (if byteN s i = 92 then escP s (i + 1) else .ok (byteN s i) (i + 1)) else .bad 63
/-- one item of a class: the letters from and to -/
def itemP (i : Nat) : PR (Nat × Nat) :=
  match letP s i with
  | .bad e => .bad e
  | .ok lo j =>
    if j + 1 < s.length ∧ byteN s j = 45 ∧ byteN s (j + 1) ≠ 93 then
      (match letP s (j + 1) with
       | .bad e => .bad e
       | .ok hi k => .ok (lo, hi) k)
    else .ok (lo, lo) j
/-- the items of a class, up to its bracket: the set, how many, whether one falls -/
def itemsP : Nat → Nat → BS → Nat → Bool → PR (BS × Nat × Bool)
  | 0, _, _, _, _ => .bad 63
  | f + 1, i, S, n, fl =>
    if i < s.length ∧ byteN s i = 93 then .ok (S, n, fl) (i + 1) else
    match itemP s i with
    | .bad e => .bad e
    | .ok (lo, hi) j => itemsP f j (S.put lo hi) (n + 1) (fl || decide (hi < lo))
/-- a class, from behind its bracket -/
def classP (i : Nat) : PR BS :=
  let tn := decide (i < s.length ∧ byteN s i = 94)
  match itemsP s (s.length + 1) (if tn then i + 1 else i) .zero 0 false with
  | .bad e => .bad e
  | .ok (S, n, fl) j =>
    let S' := if tn then S.not else S
    if n = 0 ∨ fl = true ∨ S'.isZero = true then .bad 63 else .ok S' j
/-- an atom; m: how much deeper it may go; sub: what stands in brackets -/
def atomP (m : Nat) (sub : Nat → PR Tr) (i : Nat) : PR Tr :=
  let b := byteN s i
  if b = 42 ∨ b = 43 ∨ b = 63 then .bad 64 else
  if b = 40 then
    (if m = 0 then .bad 66 else
     match sub (i + 1) with
     | .bad e => .bad e
     | .ok t j => if j < s.length then .ok t (j + 1) else .bad 61) else
  if b = 91 then
    (match classP s (i + 1) with
     | .bad e => .bad e
     | .ok S j => .ok S.tr j) else
  if b = 46 then .ok (BS.zero.put 0 255).tr (i + 1) else
  if b = 92 then
    (match escP s (i + 1) with
     | .bad e => .bad e
     | .ok x j => .ok (BS.zero.put x x).tr j) else
  .ok (BS.zero.put b b).tr (i + 1)
/-- the signs behind an atom -/
def signP (b : Nat) (t : Tr) : Option Tr := if b = 42 then some (.star t) else if b = 43 then some (.plus t) else if b = 63 then some (.quest t) else none
def signsP : Nat → Nat → Tr → Tr × Nat
  | 0, i, t => (t, i)
  | f + 1, i, t => if i < s.length then (match signP (byteN s i) t with
    | some t' => signsP f (i + 1) t'
    | none => (t, i)) else (t, i)
def pieceP (m : Nat) (sub : Nat → PR Tr) (i : Nat) : PR Tr :=
  match atomP s m sub i with
  | .bad e => .bad e
  | .ok t j => .ok (signsP s (s.length + 1) j t).1 (signsP s (s.length + 1) j t).2
/-- pieces one behind another -/
def branchL (m : Nat) (top : Bool) (sub : Nat → PR Tr) : Nat → Nat → Option Tr → PR Tr
  | 0, _, _ => .bad 63
  | f + 1, i, n =>
    if i < s.length ∧ byteN s i = 41 ∧ top = true then .bad 62 else
    if i < s.length ∧ byteN s i ≠ 124 ∧ byteN s i ≠ 41 then
      match pieceP s m sub i with
      | .bad e => .bad e
      | .ok t j => branchL m top sub f j (some (match n with | none => t | some x => .cat x t))
    else .ok (n.getD .emp) i
def branchP (m : Nat) (top : Bool) (sub : Nat → PR Tr) (i : Nat) : PR Tr := branchL s m top sub (s.length + 1) i none
/-- branches, one beside another -/
def branchesL (m : Nat) (top : Bool) (sub : Nat → PR Tr) : Nat → Nat → Tr → PR Tr
  | 0, _, _ => .bad 63
  | f + 1, i, n =>
    if i < s.length ∧ byteN s i = 124 then
      match branchP s m top sub (i + 1) with
      | .bad e => .bad e
      | .ok t j => branchesL m top sub f j (.alt n t)
    else .ok n i
def branchesP (m : Nat) (top : Bool) (sub : Nat → PR Tr) (i : Nat) : PR Tr :=
  match branchP s m top sub i with
  | .bad e => .bad e
  | .ok t j => branchesL s m top sub (s.length + 1) j t
/-- what stands at a depth of 16 - m -/
def depthP : Nat → Nat → PR Tr
  | 0, i => branchesP s 0 false (fun _ => .bad 63) i
  | m + 1, i => branchesP s (m + 1) (decide (m + 1 = 16)) (depthP m) i
/-- the tree of a pattern, or the error -/
def parseP : PR Tr := if 64 < s.length then .bad 60 else depthP s 16 0
end
end Go.Proofs.YtbijjjhfekkfaaaGreat

namespace Go.Proofs.YtbijjjhfekkfaaaGreat
open Go.MapKept Go.ChangeMaps

open Classical in
noncomputable def atV : List (Value × Value) → Value → Option Value
  | [], _ => none
  | p :: m, k => if p.1 = k then some p.2 else atV m k

open Classical in
noncomputable def putV : List (Value × Value) → Value → Value → List (Value × Value)
  | [], k, v => [(k, v)]
  | p :: m, k, v => if p.1 = k then (k, v) :: m else p :: putV m k v

theorem atV_put_same : ∀ (m : List (Value × Value)) (k v : Value), atV (putV m k v) k = some v
  | [], k, v => by simp [putV, atV]
  | p :: m, k, v => by
    unfold putV
    split
    · simp [atV]
    · rename_i h
      simp [atV, h, atV_put_same m k v]

theorem atV_put_other : ∀ (m : List (Value × Value)) (k v : Value) {k' : Value}, k' ≠ k → atV (putV m k v) k' = atV m k'
  | [], k, v, k', hne => by simp [putV, atV, Ne.symm hne]
  | p :: m, k, v, k', hne => by
    unfold putV
    split
    · rename_i h
      have h1 : ¬ p.1 = k' := fun e => hne (e ▸ h)
      simp [atV, Ne.symm hne, h1]
    · simp [atV, atV_put_other m k v hne]

theorem atV_none : ∀ (m : List (Value × Value)) (k : Value), atV m k = none ↔ ∀ p ∈ m, p.1 ≠ k
  | [], k => by simp [atV]
  | p :: m, k => by
    unfold atV
    split
    · rename_i h
      simp [h]
    · rename_i h
      simp [h, atV_none m k]

theorem atV_mem : ∀ (m : List (Value × Value)) (k v : Value), atV m k = some v → (k, v) ∈ m
  | p :: m, k, v, h => by
    unfold atV at h
    split at h
    · rename_i h1
      cases h
      exact List.mem_cons.2 (Or.inl (by rw [← h1]))
    · exact List.mem_cons_of_mem _ (atV_mem m k v h)

theorem atV_of_mem : ∀ (m : List (Value × Value)), (m.map (·.1)).Nodup → ∀ (k v : Value), (k, v) ∈ m → atV m k = some v
  | p :: m, hn, k, v, h => by
    simp only [List.map_cons, List.nodup_cons] at hn
    unfold atV
    rcases List.mem_cons.1 h with e | h
    · rw [← e]; simp
    · rw [if_neg, atV_of_mem m hn.2 k v h]
      intro e
      exact hn.1 (List.mem_map.2 ⟨(k, v), h, e.symm⟩)

theorem putV_keys : ∀ (m : List (Value × Value)) (k v : Value), ∀ p ∈ putV m k v, p = (k, v) ∨ (p ∈ m ∧ p.1 ≠ k) ∨ (p ∈ m)
  | [], k, v, p, h => by simp [putV] at h; exact Or.inl h
  | q :: m, k, v, p, h => by
    unfold putV at h
    split at h
    · rcases List.mem_cons.1 h with e | h
      · exact Or.inl e
      · exact Or.inr (Or.inr (List.mem_cons_of_mem _ h))
    · rcases List.mem_cons.1 h with e | h
      · exact Or.inr (Or.inr (by simp [e]))
      · rcases putV_keys m k v p h with h1 | h1 | h1
        · exact Or.inl h1
        · exact Or.inr (Or.inr (List.mem_cons_of_mem _ h1.1))
        · exact Or.inr (Or.inr (List.mem_cons_of_mem _ h1))

theorem putV_new : ∀ (m : List (Value × Value)) (k v : Value), (∀ p ∈ m, p.1 ≠ k) → putV m k v = m ++ [(k, v)]
  | [], _, _, _ => rfl
  | p :: m, k, v, h => by
    unfold putV
    rw [if_neg (h p (by simp)), putV_new m k v (fun q hq => h q (by simp [hq]))]
    rfl

theorem putV_old : ∀ (m : List (Value × Value)) (k v : Value) (j : Nat) (v0 : Value), (m.map (·.1)).Nodup → m[j]? = some (k, v0) → putV m k v = m.set j (k, v)
  | p :: m, k, v, 0, v0, _, h => by
    simp at h
    unfold putV
    simp [h]
  | p :: m, k, v, j + 1, v0, hn, h => by
    simp only [List.map_cons, List.nodup_cons] at hn
    simp only [List.getElem?_cons_succ] at h
    unfold putV
    rw [if_neg, putV_old m k v j v0 hn.2 h]
    · rfl
    · intro e
      exact hn.1 (List.mem_map.2 ⟨(k, v0), List.mem_of_getElem? h, e.symm⟩)

theorem putV_length (m : List (Value × Value)) (k v : Value) : (putV m k v).length ≤ m.length + 1 := by
  induction m with
  | nil => simp [putV]
  | cons p m ih =>
    unfold putV
    split
    · simp
    · simpa using ih

/-- WHAT THE LAWS NEED OF THE KEYS: found by sameness. (T: what a key is, in a world: a pointer's block must lie.) -/
structure KeyEq (P : Program) (k : TypeId) (T : World → Value → Prop) : Prop where
  check : ∀ (w : World) (em : Bool) {v : Value}, T w v → (Instr.checkKey em 10000 k v).run P w = .ok () w
  find : ∀ (w : World) {x : Value}, T w x → ∀ es : List MapEntry, (∀ e ∈ es, T w e.key) →
    ((Instr.findKey k x es).run P w = .ok none w ∧ ∀ e ∈ es, e.key ≠ x) ∨ ∃ j e, (Instr.findKey k x es).run P w = .ok (some (j, e.val)) w ∧ es[j]? = some e ∧ e.key = x
  stays : ∀ (w : World) {v : Value}, T w v → (Instr.keyThatStays v v).run P w = .ok v w

def IsStr (v : Value) : Prop := ∃ s, v = .string s
def IsInt (q : IntKind) (v : Value) : Prop := ∃ n, v = .int q n

theorem keyEq_plain {P : Program} {k : TypeId} {d : TypeDesc} (hd : P.underlying k = some d) {S : Value → Prop} (hS : ∀ v, S v → IsKey d v) : KeyEq P k (fun _ => S) where
  check w em v h := run_checkKey hd (hS v h) em 9999
  find w x h es hes := by
    rcases findNow_spec (hS x h) es 0 (fun e he => hS _ (hes e he)) with ⟨h1, h2⟩ | ⟨j, e0, h1, h2, h3⟩
    · exact Or.inl ⟨run_findKey hd h1, h2⟩
    · exact Or.inr ⟨j, e0, by simpa using run_findKey hd h1, h2, h3⟩
  stays w v h := run_keyThatStays (hS v h)

theorem keyEq_string {P : Program} {k : TypeId} (hk : P.underlying k = some .string) : KeyEq P k (fun _ => IsStr) :=
  keyEq_plain hk (fun v ⟨s, e⟩ => by rw [e]; trivial)
theorem keyEq_int {P : Program} {k : TypeId} {q : IntKind} (hk : P.underlying k = some (.int q)) : KeyEq P k (fun _ => IsInt q) :=
  keyEq_plain hk (fun v ⟨s, e⟩ => by rw [e]; exact rfl)

/-- BLOCK b IS THE MAP OF THESE ENTRIES. -/
def MapV (S : Value → Prop) (w : World) (b : Nat) (m : List (Value × Value)) : Prop :=
  (∃ es clock, w.heap[b]? = some (.map es clock) ∧ Stamped es clock ∧ es.toList.map (fun e => (e.key, e.val)) = m) ∧ ∀ p ∈ m, S p.1

section
variable {P : Program} {k e t : TypeId} {S : Value → Prop} {T : World → Value → Prop} {w : World} {b : Nat} {m : List (Value × Value)}

theorem MapV.nodup (h : MapV S w b m) : (m.map (·.1)).Nodup := by
  obtain ⟨⟨es, clock, _, ⟨_, _, h3⟩, rfl⟩, _⟩ := h
  simpa [List.map_map, Function.comp_def] using h3

theorem MapV.lt (h : MapV S w b m) : b < w.heap.size := by
  obtain ⟨⟨es, clock, hb, _⟩, _⟩ := h
  exact (Array.getElem?_eq_some_iff.1 hb).1

theorem MapV.kept {w' : World} (h : MapV S w b m) (hg : w'.heap[b]? = w.heap[b]?) : MapV S w' b m := by
  obtain ⟨⟨es, clock, hb, r⟩, hS⟩ := h
  exact ⟨⟨es, clock, hg.trans hb, r⟩, hS⟩

theorem mapV_made (S : Value → Prop) (w : World) : MapV S (w.alloc (.map #[] 0)) w.heap.size [] :=
  ⟨⟨#[], 0, (MapKept.heap_alloc w _).1, stamped_empty 0, rfl⟩, by simp⟩

theorem MapV.found (h : MapV S w b m) (K : KeyEq P k T) (hT : ∀ p ∈ m, T w p.1) {key : Value} (hk : T w key) : ∃ es clock, w.heap[b]? = some (.map es clock) ∧ Stamped es clock ∧ es.toList.map (fun e => (e.key, e.val)) = m ∧
    ((atV m key = none ∧ (Instr.findKey k key es.toList).run P w = .ok none w ∧ ∀ p ∈ m, p.1 ≠ key) ∨
     ∃ j e0, es.toList[j]? = some e0 ∧ e0.key = key ∧ atV m key = some e0.val ∧ (Instr.findKey k key es.toList).run P w = .ok (some (j, e0.val)) w) := by
  have hn := h.nodup
  obtain ⟨⟨es, clock, hb, hs, rfl⟩, _⟩ := h
  have hks : ∀ x ∈ es.toList, T w x.key := fun x hx => hT (x.key, x.val) (List.mem_map.2 ⟨x, hx, rfl⟩)
  refine ⟨es, clock, hb, hs, rfl, ?_⟩
  rcases K.find w hk es.toList hks with ⟨h1, h2⟩ | ⟨j, e0, h1, h2, h3⟩
  · have h4 : ∀ p ∈ es.toList.map (fun e => (e.key, e.val)), p.1 ≠ key := fun p hp => by
      obtain ⟨x, hx, rfl⟩ := List.mem_map.1 hp
      exact h2 x hx
    exact Or.inl ⟨(atV_none _ _).2 h4, h1, h4⟩
  · refine Or.inr ⟨j, e0, h2, h3, atV_of_mem _ hn _ _ ?_, h1⟩
    rw [← h3]
    exact List.mem_map.2 ⟨e0, List.mem_of_getElem? h2, rfl⟩

/-- 'm[k]', 'v, ok := m[k]'. -/
theorem MapV.look (h : MapV S w b m) (K : KeyEq P k T) (hT : ∀ p ∈ m, T w p.1) (ht : P.underlying t = some (.map k e)) {z : Value} (hz : (zeroValue e).run P w = .ok z w) {key : Value} (hk : T w key) (c : Bool) :
    (Instr.lookup t (.map (some b)) key c).run P w = .ok (if c then .tuple #[(atV m key).getD z, .bool (atV m key).isSome] else (atV m key).getD z) w := by
  obtain ⟨es, clock, hb, hs, rfl, hf⟩ := h.found K hT hk
  rcases hf with ⟨h0, h1, _⟩ | ⟨j, e0, h1, h2, h3, h4⟩
  · simp [Instr.lookup, run_underlying ht, MapKept.run_getObj_map hb, K.check w _ hk, h1, hz, h0, Result.andThen]
  · simp [Instr.lookup, run_underlying ht, MapKept.run_getObj_map hb, K.check w _ hk, h4, h3, Result.andThen]

theorem look_none (K : KeyEq P k T) (ht : P.underlying t = some (.map k e)) {z : Value} (hz : (zeroValue e).run P w = .ok z w) {key : Value} (hk : T w key) (c : Bool) :
    (Instr.lookup t (.map none) key c).run P w = .ok (if c then .tuple #[z, .bool false] else z) w := by
  rcases K.find w hk [] (by simp) with ⟨f1, _⟩ | ⟨j, e0, _, f2, _⟩
  · simp [Instr.lookup, run_underlying ht, K.check w _ hk, f1, hz, Result.andThen]
  · simp at f2

/-- 'm[k] = v'. -/
theorem MapV.store (h : MapV S w b m) (K : KeyEq P k T) (hT : ∀ p ∈ m, T w p.1) (ht : P.underlying t = some (.map k e)) {key : Value} (hk : T w key) (hk' : S key) (val : Value) :
    ∃ w', (Instr.mapUpdate t (.map (some b)) key val).run P w = .ok () w' ∧ MapV S w' b (putV m key val) ∧ w.grownBy w' (some b) ∧ w'.heap.size = w.heap.size := by
  have hn := h.nodup
  have hS := h.2
  obtain ⟨es, clock, hb, hs, rfl, hf⟩ := h.found K hT hk
  have hgb : ∀ o, w.grownBy (setBlock w b o) (some b) ∧ (setBlock w b o).heap.size = w.heap.size := fun o =>
    ⟨⟨rfl, rfl, rfl, by simp [setBlock], fun i _ hi => heap_setBlock_other hb _ (fun e => hi (by rw [e]))⟩, by simp [setBlock]⟩
  rcases hf with ⟨h0, h1, h2⟩ | ⟨j, e0, h1, h2, h3, h4⟩
  · have hne : ∀ x ∈ es.toList, x.key ≠ key := fun x hx => h2 (x.key, x.val) (List.mem_map.2 ⟨x, hx, rfl⟩)
    refine ⟨setBlock w b (.map (es.push ⟨key, val, clock⟩) (clock + 1)), ?_, ⟨⟨_, _, heap_setBlock_same hb _, stamped_push hs hne, ?_⟩, ?_⟩, (hgb _).1, (hgb _).2⟩
    · simp [Instr.mapUpdate, run_underlying ht, MapKept.run_getObj_map hb, K.check w false hk, h1, MapKept.run_setObj_map _ hb, Result.andThen, setBlock]
    · rw [putV_new _ _ _ h2]
      simp
    · intro p hp
      rw [putV_new _ _ _ h2] at hp
      rcases List.mem_append.1 hp with hp | hp
      · exact hS p hp
      · simp at hp
        rw [hp]
        exact hk'
  · have hj : es[j]? = some e0 := by simpa using h1
    have hkeyf : ∀ e', es[j]? = some e' → ({ e' with key := key, val := val } : MapEntry).key = e'.key := fun e' he' => by rw [hj] at he'; cases he'; exact h2.symm
    refine ⟨setBlock w b (.map (es.modify j (fun e' => { e' with key := key, val := val })) clock), ?_, ⟨⟨_, _, heap_setBlock_same hb _, stamped_modify hs _ _ (fun _ _ => rfl) (fun e' _ he' => hkeyf e' he'), ?_⟩, ?_⟩, (hgb _).1, (hgb _).2⟩
    · simp [Instr.mapUpdate, run_underlying ht, MapKept.run_getObj_map hb, K.check w false hk, h4, hj, h2, K.stays w hk, MapKept.run_setObj_map _ hb, Result.andThen, setBlock]
    · rw [putV_old _ key val j e0.val hn (by rw [List.getElem?_map, h1]; simp [h2]), Array.toList_modify, modify_eq_set _ _ _ _ h1]
      simp [List.map_set]
    · intro p hp
      rcases putV_keys _ _ _ p hp with rfl | h5 | h5
      · exact hk'
      · exact hS p h5.1
      · exact hS p h5

/-- 'len(m)'. -/
theorem MapV.len (h : MapV S w b m) (ht : P.underlying t = some (.map k e)) (ty : TypeId) : (Builtin.len_ #[t] ty #[.map (some b)]).run P w = .ok (.int .i64 m.length) w := by
  obtain ⟨⟨es, clock, hb, _, rfl⟩, _⟩ := h
  simp [Builtin.len_, run_underlying ht, MapKept.run_getObj_map hb, goInt, Result.andThen]
end

/-! ### at the operation -/
section
variable {P : Program} (w : World) {ops : Array Oper} {rest : List Oper} {o : Oper} {a : Act} {Q : Exit → Act → World → Prop} {S : Value → Prop} {T : World → Value → Prop} {k e : TypeId}

theorem wpList_look (hg : o.guard = none) (mm x : Operand) (t : TypeId) (hop : o.op = Op.lookup t mm x false)
    (K : KeyEq P k T) (ht : P.underlying t = some (.map k e)) {z : Value} (hz : (zeroValue e).run P w = .ok z w) (b : Nat) (m : List (Value × Value))
    (hm : a.eval mm = .map (some b)) (h : MapV S w b m) (hT : ∀ p ∈ m, T w p.1) (key : Value) (hx : a.eval x = key) (hk : T w key) (v : Value) (hv : (atV m key).getD z = v)
    (hK : wpList P ops Q rest (a.put o.dst v) w) :
    wpList P ops Q (o :: rest) a w := by
  refine wpList_plain hg fun K' hK' => ?_
  unfold Oper.wp
  simp [execOp, hop, hm, hx, h.look K hT ht hz hk false, hv, Result.andThen]
  exact hK' _ _ hK

theorem wpList_look_ok (hg : o.guard = none) (mm x : Operand) (t : TypeId) (hop : o.op = Op.lookup t mm x true)
    (K : KeyEq P k T) (ht : P.underlying t = some (.map k e)) {z : Value} (hz : (zeroValue e).run P w = .ok z w) (b : Nat) (m : List (Value × Value))
    (hm : a.eval mm = .map (some b)) (h : MapV S w b m) (hT : ∀ p ∈ m, T w p.1) (key : Value) (hx : a.eval x = key) (hk : T w key) (v : Value) (hv : (atV m key).getD z = v) (is : Bool) (his : (atV m key).isSome = is)
    (hK : wpList P ops Q rest (a.put o.dst (.tuple #[v, .bool is])) w) :
    wpList P ops Q (o :: rest) a w := by
  refine wpList_plain hg fun K' hK' => ?_
  unfold Oper.wp
  simp [execOp, hop, hm, hx, h.look K hT ht hz hk true, hv, his, Result.andThen]
  exact hK' _ _ hK

theorem wpList_store (hg : o.guard = none) (mm x v : Operand) (t : TypeId) (hop : o.op = Op.mapUpdate t mm x v)
    (K : KeyEq P k T) (ht : P.underlying t = some (.map k e)) (b : Nat) (m : List (Value × Value))
    (hm : a.eval mm = .map (some b)) (h : MapV S w b m) (hT : ∀ p ∈ m, T w p.1) (key val : Value) (hx : a.eval x = key) (hv : a.eval v = val) (hk : T w key) (hk' : S key)
    (hK : ∀ w', MapV S w' b (putV m key val) → w.grownBy w' (some b) → w'.heap.size = w.heap.size → wpList P ops Q rest (a.put o.dst undef) w') :
    wpList P ops Q (o :: rest) a w := by
  refine wpList_plain hg fun K' hK' => ?_
  obtain ⟨w', hrun, r1, r2, r3⟩ := h.store K hT ht hk hk' val
  unfold Oper.wp
  simp [execOp, hop, hm, hx, hv, hrun, Result.andThen]
  exact hK' _ _ (hK w' r1 r2 r3)
end
end Go.Proofs.YtbijjjhfekkfaaaGreat

namespace Go.Proofs.YtbijjjhfekkfaaaGreat
open Go.MapKept Go.ChangeMaps

/-- where the pointer points there is a block of cells -/
def Laid (w : World) (p : Option Addr) : Prop := ∀ a, p = some a → ∃ ca ta, w.heap[a.block]? = some (.cells ca ta (0, 0))
def IsPtr (v : Value) : Prop := ∃ p, v = .pointer p
def PtrKey (w : World) (v : Value) : Prop := ∃ p, v = .pointer p ∧ Laid w p
def IsPair (v : Value) : Prop := ∃ p q, v = .agg #[.pointer p, .pointer q]
def PairKey (w : World) (v : Value) : Prop := ∃ p q, v = .agg #[.pointer p, .pointer q] ∧ Laid w p ∧ Laid w q
section
variable {P : Program}
theorem run_equalIn_ptr (w : World) (d : Nat) {tp te : TypeId} {j : TypeInfo} (hp : P.underlying tp = some (.pointer te)) (hte : P.info? te = some j) (hsz : j.size ≠ 0) {p q : Option Addr} (h1 : Laid w p) (h2 : Laid w q) :
    ∃ r : Bool, (Op.equalIn (d + 1) tp (.pointer p) (.pointer q)).run P w = .ok r w ∧ (r = true ↔ p = q) := by
  cases p with
  | none => exact ⟨q.isNone, by simp [Op.equalIn, run_underlying hp], by cases q <;> simp⟩
  | some a =>
    cases q with
    | none => exact ⟨false, by simp [Op.equalIn, run_underlying hp], by simp⟩
    | some b =>
      by_cases e : a = b
      · subst e
        exact ⟨true, by simp [Op.equalIn, run_underlying hp, sizeOf, typeInfo, hte, run_sameAddr_same], by simp⟩
      · obtain ⟨ca, ta, ha⟩ := h1 a rfl
        obtain ⟨cb, tb, hb⟩ := h2 b rfl
        exact ⟨false, by simp [Op.equalIn, run_underlying hp, sizeOf, typeInfo, hte, hsz, run_sameAddr_other w e ha hb], by simp [e]⟩
theorem run_findAsking_eq (w : World) {k : TypeId} {T : Value → Prop} (heq : ∀ {x y : Value}, T x → T y → ∃ r : Bool, (Op.equal k x y).run P w = .ok r w ∧ (r = true ↔ x = y)) {x : Value} (hx : T x) :
    ∀ (es : List MapEntry) (i : Nat), (∀ e ∈ es, T e.key) →
      ((Instr.findAsking k x es i).run P w = .ok none w ∧ ∀ e ∈ es, e.key ≠ x) ∨
      ∃ j e, (Instr.findAsking k x es i).run P w = .ok (some (i + j, e.val)) w ∧ es[j]? = some e ∧ e.key = x
  | [], i, _ => .inl ⟨by simp [Instr.findAsking], by simp⟩
  | e :: es, i, hall => by
    obtain ⟨r, hr, hiff⟩ := heq hx (hall e (by simp))
    cases r
    · have hne : e.key ≠ x := fun h => by
        have := hiff.2 h.symm
        cases this
      rcases run_findAsking_eq w heq hx es (i + 1) (fun y hy => hall y (by simp [hy])) with ⟨h1, h2⟩ | ⟨j, e', h1, h2, h3⟩
      · left
        refine ⟨by simp [Instr.findAsking, hr, h1], fun y hy => ?_⟩
        rcases List.mem_cons.1 hy with rfl | hy
        · exact hne
        · exact h2 y hy
      · right
        exact ⟨j + 1, e', by simp [Instr.findAsking, hr, h1, Nat.add_assoc, Nat.add_comm 1 j], by simpa using h2, h3⟩
    · right
      exact ⟨0, e, by simp [Instr.findAsking, hr], rfl, (hiff.1 rfl).symm⟩
/-- keys of a type whose sameness is asked key by key -/
theorem find_asking (w : World) {k : TypeId} {d : TypeDesc} (hd : P.underlying k = some d) {T : Value → Prop} (hnow : ∀ x y, T x → T y → Instr.sameNow d x y = none)
    (heq : ∀ {x y : Value}, T x → T y → ∃ r : Bool, (Op.equal k x y).run P w = .ok r w ∧ (r = true ↔ x = y)) {x : Value} (hx : T x) (es : List MapEntry) (hall : ∀ e ∈ es, T e.key) :
    ((Instr.findKey k x es).run P w = .ok none w ∧ ∀ e ∈ es, e.key ≠ x) ∨ ∃ j e, (Instr.findKey k x es).run P w = .ok (some (j, e.val)) w ∧ es[j]? = some e ∧ e.key = x := by
  cases es with
  | nil => exact .inl ⟨by simp [Instr.findKey, run_underlying hd, Instr.findNow, Result.andThen], by simp⟩
  | cons e es =>
    have hn : Instr.findNow d x (e :: es) 0 = none := by
      unfold Instr.findNow
      rw [hnow x e.key hx (hall e (by simp))]
    have hf : (Instr.findKey k x (e :: es)).run P w = (Instr.findAsking k x (e :: es) 0).run P w := by
      simp [Instr.findKey, run_underlying hd, hn, Result.andThen]
    rcases run_findAsking_eq w heq hx (e :: es) 0 hall with ⟨h1, h2⟩ | ⟨j, e', h1, h2, h3⟩
    · exact .inl ⟨hf.trans h1, h2⟩
    · exact .inr ⟨j, e', by rw [hf, h1, Nat.zero_add], h2, h3⟩
theorem keyEq_ptr {k te : TypeId} {j : TypeInfo} (hk : P.underlying k = some (.pointer te)) (hte : P.info? te = some j) (hsz : j.size ≠ 0) : KeyEq P k PtrKey where
  check w em v h := by
    obtain ⟨p, rfl, _⟩ := h
    unfold Instr.checkKey
    simp only [Sem.run_bind, run_underlying hk, Result.andThen]
    rfl
  find w x h es hes := by
    refine find_asking w hk (T := PtrKey w) (fun x y hx hy => ?_) (fun {x y} hx hy => ?_) h es hes
    · obtain ⟨p, rfl, _⟩ := hx
      rfl
    · obtain ⟨p, rfl, h1⟩ := hx
      obtain ⟨q, rfl, h2⟩ := hy
      obtain ⟨r, hr, hi⟩ := run_equalIn_ptr w 9999 hk hte hsz h1 h2
      exact ⟨r, hr, hi.trans (by simp)⟩
  stays w v h := by
    obtain ⟨p, rfl, _⟩ := h
    have h : ∀ n, Instr.sameBits n (.pointer p) (.pointer p) = true := fun n => by cases n <;> simp [Instr.sameBits]
    unfold Instr.keyThatStays
    rw [if_pos (h 10000)]
    rfl
end
theorem Laid.below {w w' : World} {p : Option Addr} (h : Laid w p) (hb : ∀ g, g < w.heap.size → (∃ ca ta, w.heap[g]? = some (.cells ca ta (0, 0))) → ∃ ca ta, w'.heap[g]? = some (.cells ca ta (0, 0))) : Laid w' p := fun a e => by
  obtain ⟨ca, ta, hc⟩ := h a e
  exact hb _ (Array.getElem?_eq_some_iff.1 hc).1 ⟨ca, ta, hc⟩
end Go.Proofs.YtbijjjhfekkfaaaGreat

namespace Go.Proofs.YtbijjjhfekkfaaaGreat
set_option maxRecDepth 100000
open Go.RowKit

/-! rising lists -/
def rising (E : List Int) : Prop := E.Pairwise (· < ·)
def geL (n : Int) (E : List Int) : List Int := E.filter fun x => decide (n ≤ x)
theorem mem_geL {n x : Int} {E : List Int} : x ∈ geL n E ↔ x ∈ E ∧ n ≤ x := by simp [geL]
theorem rising_geL {E : List Int} (h : rising E) (n : Int) : rising (geL n E) := List.Pairwise.filter _ h
theorem geL_geL (n m : Int) (E : List Int) : geL n (geL m E) = geL (max n m) E := by
  simp only [geL, List.filter_filter]
  congr 1
  funext x
  rw [← Bool.decide_and]
  exact decide_eq_decide.2 (by omega)
theorem geL_all {n : Int} {E : List Int} (h : ∀ x ∈ E, n ≤ x) : geL n E = E := List.filter_eq_self.2 fun x hx => by simpa using h x hx
theorem geL_nil (n : Int) : geL n [] = [] := rfl
theorem rising_ext : ∀ {E D : List Int}, rising E → rising D → (∀ x, x ∈ E ↔ x ∈ D) → E = D
  | [], [], _, _, _ => rfl
  | [], d :: D, _, _, h => absurd ((h d).2 (by simp)) (by simp)
  | e :: E, [], _, _, h => absurd ((h e).1 (by simp)) (by simp)
  | e :: E, d :: D, hE, hD, h => by
    obtain ⟨h1, h2⟩ := List.pairwise_cons.1 hE
    obtain ⟨k1, k2⟩ := List.pairwise_cons.1 hD
    have hed : e = d := by
      have a := (h e).1 (by simp)
      have b := (h d).2 (by simp)
      rcases List.mem_cons.1 a with a | a
      · exact a
      · rcases List.mem_cons.1 b with b | b
        · exact b.symm
        · have := k1 e a; have := h1 d b; omega
    subst hed
    congr 1
    refine rising_ext h2 k2 fun x => ⟨fun hx => ?_, fun hx => ?_⟩
    · rcases List.mem_cons.1 ((h x).1 (List.mem_cons_of_mem _ hx)) with e1 | e1
      · have := h1 x hx; omega
      · exact e1
    · rcases List.mem_cons.1 ((h x).2 (List.mem_cons_of_mem _ hx)) with e1 | e1
      · have := k1 x hx; omega
      · exact e1
/-- the answer of a list's first number -/
def ansL : List Int → Ending
  | [] => .returned (.tuple #[.int .i64 0, .bool false])
  | x :: _ => .returned (.tuple #[.int .i64 x, .bool true])
def inI (n : Int) : Prop := -9223372036854775808 ≤ n ∧ n ≤ 9223372036854775807

/-! only the blocks of a set, and what is new, may have turned -/
structure Kp (F : Nat → Prop) (a w : World) : Prop where
  os : w.os = a.os
  tape : w.tape = a.tape
  output : w.output = a.output
  size : a.heap.size ≤ w.heap.size
  block : ∀ k, k < a.heap.size → ¬ F k → w.heap[k]? = a.heap[k]?
section
variable {F G : Nat → Prop} {a b c w w' : World}
theorem Kp.refl (F : Nat → Prop) (w : World) : Kp F w w := ⟨rfl, rfl, rfl, Nat.le_refl _, fun _ _ _ => rfl⟩
theorem Kp.trans (h : Kp F a b) (k : Kp F b c) : Kp F a c :=
  ⟨k.os.trans h.os, k.tape.trans h.tape, k.output.trans h.output, Nat.le_trans h.size k.size, fun i hi hn => (k.block i (Nat.lt_of_lt_of_le hi h.size) hn).trans (h.block i hi hn)⟩
theorem Kp.wider (h : Kp F a b) (k : ∀ i, F i → G i) : Kp G a b := ⟨h.os, h.tape, h.output, h.size, fun i hi hn => h.block i hi fun e => hn (k i e)⟩
theorem Kp.of_below (h : Below a.heap.size a w) (F : Nat → Prop) : Kp F a w := ⟨h.os, h.tape, h.output, h.size, fun i hi _ => h.block i hi⟩
theorem Kp.drew (h : Kp F a w) : Kp F a w.drew := ⟨h.os, h.tape, h.output, h.size, h.block⟩
theorem Kp.drewN (h : Kp F a w) (n : Nat) : Kp F a (w.drewN n) := ⟨h.os, h.tape, h.output, h.size, h.block⟩
theorem Kp.alloc (h : Kp F a w) (o : Obj) : Kp F a (w.alloc o) := h.trans ⟨rfl, rfl, rfl, by simp, fun i hi _ => Below.heap_alloc w o i hi⟩
theorem Kp.put (h : Kp F a w) {g : Nat} (hg : F g) (i : Nat) (u : Value) : Kp F a (w.setCell ⟨g, i, none⟩ u) :=
  h.trans ⟨rfl, rfl, rfl, by simp, fun k _ hk => Below.heap_setCell w _ u k (fun e => hk (by rw [e]; exact hg))⟩
theorem Kp.below {B : Nat} (h : Kp F a w) (hF : ∀ k, F k → B ≤ k) (hB : B ≤ a.heap.size) : Below B a w := ⟨h.os, h.tape, h.output, h.size, fun k hk => h.block k (by omega) fun e => by have := hF k e; omega⟩
end

/-! how it lies -/
theorem Row.keep1 {w w' : World} {B B' size n : Nat} {A : Option Addr} {xs : List Value} (h : Row w B size A n xs) (hB : B ≤ B') (hk : 0 < n → ∀ g o, A = some ⟨g, o, none⟩ → w'.heap[g]? = w.heap[g]?) : Row w' B' size A n xs :=
  ⟨h.len, fun hn => by
    obtain ⟨g, o, e, hb, hc⟩ := h.at_ hn
    exact ⟨g, o, e, by omega, fun j hj => (World.cell?_of_block (w := w) (a := ⟨g, o + j, none⟩) (hk hn g o e)).trans (hc j hj)⟩⟩
/-- the block that a row's address is of -/
def blockOf (A : Option Addr) (k : Nat) : Prop := ∃ o, A = some ⟨k, o, none⟩
def Src := World → Value → List Int → (Nat → Prop) → Prop
def IsList : Src := fun w v E F => ∃ lb A n c, v = .iface 370 (.pointer (some ⟨lb, 0, none⟩)) ∧ Whole1 w lb 372 #[.slice A n c] ∧ Row w w.heap.size 1 A n (E.map (Value.int .i64)) ∧ n ≤ c ∧ n * 8 ≤ 140737488355328 ∧ (0 < n → ¬ blockOf A lb) ∧ (F lb ∧ ∀ k, 0 < n → blockOf A k → F k) ∧ rising E ∧ (∀ x ∈ E, inI x) ∧ ∀ k, F k → k < w.heap.size
def CurOf (S : Src) : Src := fun w p E F =>
  (p = .pointer none ∧ E = [] ∧ ∀ k, ¬ F k) ∨
  ∃ b v fr dn E0 F0, p = .pointer (some ⟨b, 0, none⟩) ∧ Whole1 w b 379 #[v, .int .i64 fr, .bool dn] ∧ ¬ F0 b ∧ S w v E0 F0 ∧ inI fr ∧ (∀ k, F k ↔ k = b ∨ F0 k) ∧ E = if dn = true then [] else geL fr E0
/-- a cursor among others: its pointer, its list, its blocks -/
structure Kid where
  p : Value
  E : List Int
  F : Nat → Prop
def Kids (S : Src) (w : World) (A : Option Addr) (cs : List Kid) (F : Nat → Prop) : Prop :=
  Row w w.heap.size 1 A cs.length (cs.map Kid.p) ∧ (∀ x ∈ cs, CurOf S w x.p x.E x.F) ∧ (cs.Pairwise fun x y => ∀ k, ¬ (x.F k ∧ y.F k)) ∧ (∀ x ∈ cs, ∀ k, x.F k → ¬ blockOf A k) ∧ ((∀ k, cs ≠ [] → blockOf A k → F k) ∧ ∀ x ∈ cs, ∀ k, x.F k → F k) ∧ ∀ k, F k → k < w.heap.size
def IsAnd (S : Src) : Src := fun w v E F => ∃ A n c cs, v = .iface 303 (.slice A n c) ∧ cs.length = n ∧ n ≤ 4611686018427387904 ∧ Kids S w A cs F ∧ rising E ∧ ∀ x, x ∈ E ↔ cs ≠ [] ∧ ∀ y ∈ cs, x ∈ y.E
def IsOr (S : Src) : Src := fun w v E F => ∃ A n c cs, v = .iface 375 (.slice A n c) ∧ cs.length = n ∧ n ≤ 4611686018427387904 ∧ Kids S w A cs F ∧ rising E ∧ ∀ x, x ∈ E ↔ ∃ y ∈ cs, x ∈ y.E
def IsWo (S : Src) : Src := fun w v E F => ∃ x y : Kid, v = .iface 374 (.agg #[x.p, y.p]) ∧ CurOf S w x.p x.E x.F ∧ CurOf S w y.p y.E y.F ∧ (∀ k, ¬ (x.F k ∧ y.F k)) ∧ (∀ k, F k ↔ x.F k ∨ y.F k) ∧ rising E ∧ ∀ z, z ∈ E ↔ z ∈ x.E ∧ z ∉ y.E
def IsSrc : Nat → Src
  | 0 => IsList
  | d + 1 => fun w v E F => IsList w v E F ∨ IsAnd (IsSrc d) w v E F ∨ IsOr (IsSrc d) w v E F ∨ IsWo (IsSrc d) w v E F

/-! what a source's blocks bear is all that it asks -/
def FrameOk (S : Src) : Prop := ∀ w w' v E F, S w v E F → w.heap.size ≤ w'.heap.size → (∀ k, F k → w'.heap[k]? = w.heap[k]?) → S w' v E F
def RiseOk (S : Src) : Prop := ∀ w v E F, S w v E F → rising E ∧ ∀ x ∈ E, inI x
theorem whole_keep {w w' : World} {g : Nat} {t : TypeId} {cs : Array Value} (h : Whole1 w g t cs) (k : w'.heap[g]? = w.heap[g]?) : Whole1 w' g t cs := k.trans h
theorem list_frame : FrameOk IsList := by
  rintro w w' v E F ⟨lb, A, n, c, rfl, h1, h2, h3, h4, h5, h6, h7, h8, h9⟩ hs hk
  refine ⟨lb, A, n, c, rfl, whole_keep h1 (hk lb h6.1), h2.keep1 hs fun hn g o e => hk g (h6.2 g hn ⟨o, e⟩), h3, h4, h5, h6, h7, h8, fun k hb => Nat.lt_of_lt_of_le (h9 k hb) hs⟩
theorem cur_frame {S : Src} (h : FrameOk S) : FrameOk (CurOf S) := by
  rintro w w' v E F (h0 | ⟨b, v, fr, dn, E0, F0, rfl, h1, h2, h3, h4, h5, h6⟩) hs hk
  · exact .inl h0
  · exact .inr ⟨b, v, fr, dn, E0, F0, rfl, whole_keep h1 (hk b ((h5 b).2 (.inl rfl))), h2, h _ _ _ _ _ h3 hs fun k hF => hk k ((h5 k).2 (.inr hF)), h4, h5, h6⟩
theorem kids_frame {S : Src} (h : FrameOk S) {w w' : World} {A : Option Addr} {cs : List Kid} {F : Nat → Prop} (hK : Kids S w A cs F) (hs : w.heap.size ≤ w'.heap.size) (hk : ∀ k, F k → w'.heap[k]? = w.heap[k]?) : Kids S w' A cs F := by
  obtain ⟨h1, h2, h3, h4, h5, h6⟩ := hK
  exact ⟨h1.keep1 hs fun hn g o e => hk g (h5.1 g (fun e => by rw [e] at hn; simp at hn) ⟨o, e⟩), fun x hx => cur_frame h _ _ _ _ _ (h2 x hx) hs fun k hF => hk k (h5.2 x hx k hF), h3, h4, h5, fun k hb => Nat.lt_of_lt_of_le (h6 k hb) hs⟩
theorem src_frame : ∀ d, FrameOk (IsSrc d)
  | 0 => list_frame
  | d + 1 => by
    rintro w w' v E F (h | ⟨A, n, c, cs, rfl, h1, h2, h3, h4, h5⟩ | ⟨A, n, c, cs, rfl, h1, h2, h3, h4, h5⟩ | ⟨x, y, rfl, h1, h2, h3, h4, h5, h6⟩) hs hk
    · exact .inl (list_frame _ _ _ _ _ h hs hk)
    · exact .inr (.inl ⟨A, n, c, cs, rfl, h1, h2, kids_frame (src_frame d) h3 hs hk, h4, h5⟩)
    · exact .inr (.inr (.inl ⟨A, n, c, cs, rfl, h1, h2, kids_frame (src_frame d) h3 hs hk, h4, h5⟩))
    · exact .inr (.inr (.inr ⟨x, y, rfl, cur_frame (src_frame d) _ _ _ _ _ h1 hs fun k hF => hk k ((h4 k).2 (.inl hF)), cur_frame (src_frame d) _ _ _ _ _ h2 hs fun k hF => hk k ((h4 k).2 (.inr hF)), h3, h4, h5, h6⟩))
theorem cur_rise {S : Src} (h : RiseOk S) : RiseOk (CurOf S) := by
  rintro w v E F (⟨rfl, rfl, _⟩ | ⟨b, v, fr, dn, E0, F0, rfl, h1, h2, h3, h4, h5, rfl⟩)
  · exact ⟨List.Pairwise.nil, by simp⟩
  · obtain ⟨r1, r2⟩ := h _ _ _ _ h3
    cases dn
    · exact ⟨rising_geL r1 _, fun x hx => r2 x (mem_geL.1 hx).1⟩
    · exact ⟨List.Pairwise.nil, by simp⟩
theorem src_rise : ∀ d, RiseOk (IsSrc d)
  | 0 => by rintro w v E F ⟨lb, A, n, c, rfl, h1, h2, h3, h4, h5, h6, h7, h8, h9⟩; exact ⟨h7, h8⟩
  | d + 1 => by
    rintro w v E F (⟨lb, A, n, c, rfl, h1, h2, h3, h4, h5, h6, h7, h8, h9⟩ | ⟨A, n, c, cs, rfl, h1, h2, h3, h4, h5⟩ | ⟨A, n, c, cs, rfl, h1, h2, h3, h4, h5⟩ | ⟨x, y, rfl, h1, h2, h3, h4, h5, h6⟩)
    · exact ⟨h7, h8⟩
    · refine ⟨h4, fun x hx => ?_⟩
      obtain ⟨hne, hall⟩ := (h5 x).1 hx
      obtain ⟨y, hy⟩ := List.exists_mem_of_ne_nil cs hne
      exact (cur_rise (src_rise d) _ _ _ _ (h3.2.1 y hy)).2 x (hall y hy)
    · refine ⟨h4, fun x hx => ?_⟩
      obtain ⟨y, hy, hxy⟩ := (h5 x).1 hx
      exact (cur_rise (src_rise d) _ _ _ _ (h3.2.1 y hy)).2 x hxy
    · exact ⟨h5, fun z hz => (cur_rise (src_rise d) _ _ _ _ h1).2 z ((h6 z).1 hz).1⟩
def OldOk (S : Src) : Prop := ∀ w v E F, S w v E F → ∀ k, F k → k < w.heap.size
theorem cur_old {S : Src} (h : OldOk S) : OldOk (CurOf S) := by
  rintro w v E F (⟨rfl, rfl, h0⟩ | ⟨b, v, fr, dn, E0, F0, rfl, h1, h2, h3, h4, h5, rfl⟩) k hk
  · exact absurd hk (h0 k)
  · rcases (h5 k).1 hk with rfl | hk
    · exact h1.lt
    · exact h _ _ _ _ h3 k hk
theorem kids_old {S : Src} {w : World} {A : Option Addr} {cs : List Kid} {F : Nat → Prop} (hK : Kids S w A cs F) : ∀ k, F k → k < w.heap.size := fun k hk => by
  exact hK.2.2.2.2.2 k hk
theorem src_old : ∀ d, OldOk (IsSrc d)
  | 0 => by
    rintro w v E F ⟨lb, A, n, c, rfl, h1, h2, h3, h4, h5, h6, h7, h8, h9⟩ k hk
    exact h9 k hk
  | d + 1 => by
    rintro w v E F (⟨lb, A, n, c, rfl, h1, h2, h3, h4, h5, h6, h7, h8, h9⟩ | ⟨A, n, c, cs, rfl, h1, h2, h3, h4, h5⟩ | ⟨A, n, c, cs, rfl, h1, h2, h3, h4, h5⟩ | ⟨x, y, rfl, h1, h2, h3, h4, h5, h6⟩) k hk
    · exact h9 k hk
    · exact kids_old h3 k hk
    · exact kids_old h3 k hk
    · rcases (h4 k).1 hk with hk | hk
      · exact cur_old (src_old d) _ _ _ _ h1 k hk
      · exact cur_old (src_old d) _ _ _ _ h2 k hk
/-- one of the kids was asked -/
theorem kids_step {S : Src} (hF : FrameOk S) (hO : OldOk S) {w w' : World} {A : Option Addr} {cs : List Kid} {F : Nat → Prop} (hK : Kids S w A cs F) {j : Nat} {x : Kid} (hx : cs[j]? = some x) {E' : List Int} (h : CurOf S w' x.p E' x.F) (hk : Kp x.F w w') :
    Kids S w' A (cs.set j ⟨x.p, E', x.F⟩) F ∧ Kp F w w' := by
  obtain ⟨h1, h2, h3, h4, h5, h6⟩ := hK
  have hxm := List.mem_of_getElem? hx
  obtain ⟨hj, hxe⟩ := List.getElem?_eq_some_iff.1 hx
  have hmapP : (cs.set j ⟨x.p, E', x.F⟩).map Kid.p = cs.map Kid.p := by
    rw [List.map_set]
    refine List.ext_getElem? fun i => ?_
    by_cases e : i = j
    · subst e; rw [List.getElem?_set_self (by simpa using hj), List.getElem?_map, hx]; rfl
    · rw [List.getElem?_set_ne (fun h => e h.symm)]
  have hmapF : (cs.set j ⟨x.p, E', x.F⟩).map Kid.F = cs.map Kid.F := by
    rw [List.map_set]
    refine List.ext_getElem? fun i => ?_
    by_cases e : i = j
    · subst e; rw [List.getElem?_set_self (by simpa using hj), List.getElem?_map, hx]; rfl
    · rw [List.getElem?_set_ne (fun h => e h.symm)]
  have hmemF : ∀ G : Nat → Prop, G ∈ (cs.set j ⟨x.p, E', x.F⟩).map Kid.F ↔ G ∈ cs.map Kid.F := fun G => by rw [hmapF]
  have hkF : Kp F w w' := hk.wider fun i hi => h5.2 x hxm i hi
  refine ⟨⟨?_, fun y hy => ?_, ?_, fun y hy k hyk => ?_, ⟨fun k hne hb => h5.1 k (fun e => by rw [e] at hj; simp at hj) hb, fun y hy k hyk => ?_⟩, fun k hb => Nat.lt_of_lt_of_le (h6 k hb) hk.size⟩, hkF⟩
  · rw [hmapP, List.length_set]
    exact h1.keep1 hk.size fun _ g o e => hk.block g (h6 g (h5.1 g (fun e => by rw [e] at hj; simp at hj) ⟨o, e⟩)) fun hg => h4 x hxm g hg ⟨o, e⟩
  · obtain ⟨i, hi⟩ := List.mem_iff_getElem?.1 hy
    by_cases e : i = j
    · subst e
      rw [List.getElem?_set_self hj] at hi
      cases hi
      exact h
    · rw [List.getElem?_set_ne (fun h => e h.symm)] at hi
      have hym := List.mem_of_getElem? hi
      refine cur_frame hF _ _ _ _ _ (h2 y hym) hk.size fun k hyk => hk.block k (cur_old hO _ _ _ _ (h2 y hym) k hyk) fun hxk => ?_
      obtain ⟨hil, hie⟩ := List.getElem?_eq_some_iff.1 hi
      have hp := List.pairwise_iff_getElem.1 h3
      rcases Nat.lt_or_gt_of_ne e with hlt | hlt
      · exact hp i j hil hj hlt k ⟨by rw [hie]; exact hyk, by rw [hxe]; exact hxk⟩
      · exact hp j i hj hil hlt k ⟨by rw [hxe]; exact hxk, by rw [hie]; exact hyk⟩
  · have : (cs.map Kid.F).Pairwise fun a b => ∀ k, ¬ (a k ∧ b k) := List.pairwise_map.2 h3
    rw [← hmapF] at this
    exact List.pairwise_map.1 this
  · obtain ⟨z, hz, hzF⟩ := List.mem_map.1 ((hmemF y.F).1 (List.mem_map.2 ⟨y, hy, rfl⟩))
    exact h4 z hz k (by rw [hzF]; exact hyk)
  · obtain ⟨z, hz, hzF⟩ := List.mem_map.1 ((hmemF y.F).1 (List.mem_map.2 ⟨y, hy, rfl⟩))
    exact h5.2 z hz k (by rw [hzF]; exact hyk)
theorem cur_mono {S T : Src} (h : ∀ w v E F, S w v E F → T w v E F) : ∀ w v E F, CurOf S w v E F → CurOf T w v E F := by
  rintro w v E F (h0 | ⟨b, v, fr, dn, E0, F0, rfl, h1, h2, h3, h4, h5, h6⟩)
  · exact .inl h0
  · exact .inr ⟨b, v, fr, dn, E0, F0, rfl, h1, h2, h _ _ _ _ h3, h4, h5, h6⟩
theorem src_up : ∀ d w v E F, IsSrc d w v E F → IsSrc (d + 1) w v E F
  | 0, _, _, _, _, h => .inl h
  | d + 1, w, v, E, F, h => by
    rcases h with h | ⟨A, n, c, cs, rfl, h1, h2, h3, h4, h5⟩ | ⟨A, n, c, cs, rfl, h1, h2, h3, h4, h5⟩ | ⟨x, y, rfl, h1, h2, h3, h4, h5, h6⟩
    · exact .inl h
    · exact .inr (.inl ⟨A, n, c, cs, rfl, h1, h2, ⟨h3.1, fun x hx => cur_mono (src_up d) _ _ _ _ (h3.2.1 x hx), h3.2.2⟩, h4, h5⟩)
    · exact .inr (.inr (.inl ⟨A, n, c, cs, rfl, h1, h2, ⟨h3.1, fun x hx => cur_mono (src_up d) _ _ _ _ (h3.2.1 x hx), h3.2.2⟩, h4, h5⟩))
    · exact .inr (.inr (.inr ⟨x, y, rfl, cur_mono (src_up d) _ _ _ _ h1, cur_mono (src_up d) _ _ _ _ h2, h3, h4, h5, h6⟩))
theorem src_le {d e : Nat} (h : d ≤ e) {w : World} {v : Value} {E : List Int} {F : Nat → Prop} (hs : IsSrc d w v E F) : IsSrc e w v E F := by
  induction h with
  | refl => exact hs
  | step _ ih => exact src_up _ _ _ _ _ ih
end Go.Proofs.YtbijjjhfekkfaaaGreat

namespace Go.Proofs.YtbijjjhfekkfaaaGreat
set_option maxRecDepth 100000
open Go.RowKit

/-- only the maps in these blocks, and what is new, may have turned -/
structure Stays (F : Nat → Prop) (w w' : World) : Prop where
  kp : Kp F w w'
  cells : ∀ g t cs, Whole1 w g t cs → Whole1 w' g t cs
section
variable {F G : Nat → Prop} {a b c w w' : World}
theorem Stays.refl (F : Nat → Prop) (w : World) : Stays F w w := ⟨Kp.refl F w, fun _ _ _ => id⟩
theorem Stays.trans (h : Stays F a b) (k : Stays F b c) : Stays F a c := ⟨h.kp.trans k.kp, fun g t cs hw => k.cells g t cs (h.cells g t cs hw)⟩
theorem Stays.wider (h : Stays F a b) (k : ∀ i, F i → G i) : Stays G a b := ⟨h.kp.wider k, h.cells⟩
theorem Stays.of_below (h : Below a.heap.size a w) (F : Nat → Prop) : Stays F a w := ⟨Kp.of_below h F, fun g _ _ hw => (h.block g hw.lt).trans hw⟩
theorem Stays.drewN (h : Stays F a w) (n : Nat) : Stays F a (w.drewN n) := ⟨h.kp.drewN n, h.cells⟩
theorem Stays.alloc (h : Stays F a w) (o : Obj) : Stays F a (w.alloc o) := ⟨h.kp.alloc o, fun g t cs hw => (Below.heap_alloc w o g (h.cells g t cs hw).lt).trans (h.cells g t cs hw)⟩
theorem Stays.mapV {S : Value → Prop} {m : List (Value × Value)} {g : Nat} (h : Stays F w w') (hm : MapV S w g m) (hn : ¬ F g) : MapV S w' g m := hm.kept (h.kp.block g hm.lt hn)
/-- a map was written -/
theorem Stays.of_map {S : Value → Prop} {m : List (Value × Value)} {g : Nat} (hm : MapV S w g m) (hg : w.grownBy w' (some g)) (hF : F g) : Stays F w w' :=
  ⟨⟨hg.os, hg.tape, hg.output, hg.size, fun k hk hn => hg.block k hk fun e => by cases e; exact hn hF⟩, fun k t cs hw => (hg.block k hw.lt fun e => by
    obtain ⟨⟨es, clock, hb, _⟩, _⟩ := hm
    rw [← Option.some.inj e, show w.heap[k]? = some (.cells cs t (0, 0)) from hw] at hb
    cases hb).trans hw⟩
theorem Stays.below {B : Nat} (h : Stays F a w) (hF : ∀ k, F k → B ≤ k) (hB : B ≤ a.heap.size) : Below B a w := h.kp.below hF hB
end

/-- a node's block -/
def NodeAt (w : World) (p : Nat) (kind : Int) (S : BS) (v : Value) : Prop :=
  Whole1 w p 415 #[.int .i64 kind, .int .u64 (S.a : Int), .int .u64 (S.b : Int), .int .u64 (S.c : Int), .int .u64 (S.d : Int), v]
def kid (p : Nat) : Value := .pointer (some ⟨p, 0, none⟩)
/-- a node with one child, with two -/
def Node1 (w : World) (p : Nat) (kind : Int) (p1 : Nat) : Prop := ∃ q c, NodeAt w p kind .zero (.slice (some ⟨q, 0, none⟩) 1 c) ∧ Whole1 w q 259 #[kid p1]
def Node2 (w : World) (p : Nat) (kind : Int) (p1 p2 : Nat) : Prop := ∃ q c, NodeAt w p kind .zero (.slice (some ⟨q, 0, none⟩) 2 c) ∧ Whole1 w q 259 #[kid p1, kid p2]
/-- each of the four is a number of 64 bits -/
def fitB (a b c d : Nat) : Prop := a < 18446744073709551616 ∧ b < 18446744073709551616 ∧ c < 18446744073709551616 ∧ d < 18446744073709551616
/-- THE POINTER'S BLOCK IS THIS TREE -/
def IsTr (w : World) : Nat → Tr → Prop
  | p, .emp => ∃ v, NodeAt w p 0 .zero v
  | p, .cls a b c d => ∃ v, NodeAt w p 1 ⟨a, b, c, d⟩ v ∧ fitB a b c d
  | p, .cat x y => ∃ p1 p2, Node2 w p 2 p1 p2 ∧ IsTr w p1 x ∧ IsTr w p2 y
  | p, .alt x y => ∃ p1 p2, Node2 w p 3 p1 p2 ∧ IsTr w p1 x ∧ IsTr w p2 y
  | p, .star x => ∃ p1, Node1 w p 4 p1 ∧ IsTr w p1 x
  | p, .plus x => ∃ p1, Node1 w p 5 p1 ∧ IsTr w p1 x
  | p, .quest x => ∃ p1, Node1 w p 6 p1 ∧ IsTr w p1 x
/-- THE POINTER IS A REST: these trees, one behind another -/
def IsRest (w : World) : Option Addr → List Tr → Prop
  | p, [] => p = none
  | p, t :: l => ∃ g n q, p = some ⟨g, 0, none⟩ ∧ Whole1 w g 344 #[kid n, .pointer q] ∧ IsTr w n t ∧ IsRest w q l
section
variable {w w' : World}
/-- nodes stay -/
def NodesOn (w w' : World) : Prop := ∀ g t cs, (t = 415 ∨ t = 259) → Whole1 w g t cs → Whole1 w' g t cs
theorem node1_on {p p1 : Nat} {k : Int} (h : Node1 w p k p1) (hs : NodesOn w w') : Node1 w' p k p1 := by
  obtain ⟨q, c, h1, h2⟩ := h
  exact ⟨q, c, hs _ _ _ (.inl rfl) h1, hs _ _ _ (.inr rfl) h2⟩
theorem node2_on {p p1 p2 : Nat} {k : Int} (h : Node2 w p k p1 p2) (hs : NodesOn w w') : Node2 w' p k p1 p2 := by
  obtain ⟨q, c, h1, h2⟩ := h
  exact ⟨q, c, hs _ _ _ (.inl rfl) h1, hs _ _ _ (.inr rfl) h2⟩
theorem isTr_nodes (hs : NodesOn w w') : ∀ (t : Tr) (p : Nat), IsTr w p t → IsTr w' p t
  | .emp, _, ⟨v, h⟩ => ⟨v, hs _ _ _ (.inl rfl) h⟩
  | .cls _ _ _ _, _, ⟨v, h, hf⟩ => ⟨v, hs _ _ _ (.inl rfl) h, hf⟩
  | .cat x y, _, ⟨p1, p2, h, h1, h2⟩ => ⟨p1, p2, node2_on h hs, isTr_nodes hs x p1 h1, isTr_nodes hs y p2 h2⟩
  | .alt x y, _, ⟨p1, p2, h, h1, h2⟩ => ⟨p1, p2, node2_on h hs, isTr_nodes hs x p1 h1, isTr_nodes hs y p2 h2⟩
  | .star x, _, ⟨p1, h, h1⟩ => ⟨p1, node1_on h hs, isTr_nodes hs x p1 h1⟩
  | .plus x, _, ⟨p1, h, h1⟩ => ⟨p1, node1_on h hs, isTr_nodes hs x p1 h1⟩
  | .quest x, _, ⟨p1, h, h1⟩ => ⟨p1, node1_on h hs, isTr_nodes hs x p1 h1⟩
theorem isTr_on (hs : ∀ g t cs, Whole1 w g t cs → Whole1 w' g t cs) (t : Tr) (p : Nat) (h : IsTr w p t) : IsTr w' p t := isTr_nodes (fun g t cs _ => hs g t cs) t p h
theorem isTr_node : ∀ {t : Tr} {p : Nat}, IsTr w p t → ∃ k S v, NodeAt w p k S v
  | .emp, _, ⟨v, h⟩ => ⟨_, _, v, h⟩
  | .cls _ _ _ _, _, ⟨v, h, _⟩ => ⟨_, _, v, h⟩
  | .cat _ _, _, ⟨_, _, ⟨_, _, h, _⟩, _⟩ => ⟨_, _, _, h⟩
  | .alt _ _, _, ⟨_, _, ⟨_, _, h, _⟩, _⟩ => ⟨_, _, _, h⟩
  | .star _, _, ⟨_, ⟨_, _, h, _⟩, _⟩ => ⟨_, _, _, h⟩
  | .plus _, _, ⟨_, ⟨_, _, h, _⟩, _⟩ => ⟨_, _, _, h⟩
  | .quest _, _, ⟨_, ⟨_, _, h, _⟩, _⟩ => ⟨_, _, _, h⟩
theorem isRest_on (hs : ∀ g t cs, Whole1 w g t cs → Whole1 w' g t cs) : ∀ (l : List Tr) (p : Option Addr), IsRest w p l → IsRest w' p l
  | [], _, h => h
  | t :: l, _, ⟨g, n, q, h1, h2, h3, h4⟩ => ⟨g, n, q, h1, hs _ _ _ h2, isTr_on hs t n h3, isRest_on hs l q h4⟩
theorem whole_one {g : Nat} {t t' : TypeId} {cs cs' : Array Value} (h : Whole1 w g t cs) (k : Whole1 w g t' cs') : cs = cs' := by
  have := (show w.heap[g]? = some (.cells cs t (0, 0)) from h).symm.trans k
  cases this
  rfl
theorem node_one {p : Nat} {k k' : Int} {S S' : BS} {v v' : Value} (h : NodeAt w p k S v) (h' : NodeAt w p k' S' v') : k = k' ∧ S = S' ∧ v = v' := by
  have := whole_one h h'
  simp only [Array.mk.injEq, List.cons.injEq, Value.int.injEq, true_and, and_true] at this
  obtain ⟨h1, h2, h3, h4, h5, h6⟩ := this
  refine ⟨h1, ?_, h6⟩
  cases S
  cases S'
  simp only at h2 h3 h4 h5
  simp only [BS.mk.injEq]
  omega
theorem node1_one {p p1 p1' : Nat} {k k' : Int} (h : Node1 w p k p1) (h' : Node1 w p k' p1') : k = k' ∧ p1 = p1' := by
  obtain ⟨q, c, h1, h2⟩ := h
  obtain ⟨q', c', h1', h2'⟩ := h'
  obtain ⟨e1, _, e2⟩ := node_one h1 h1'
  simp only [Value.slice.injEq, Option.some.injEq, Addr.mk.injEq, and_true, true_and] at e2
  obtain ⟨rfl, _⟩ := e2
  have := whole_one h2 h2'
  simp [kid] at this
  exact ⟨e1, this⟩
theorem node2_one {p p1 p2 p1' p2' : Nat} {k k' : Int} (h : Node2 w p k p1 p2) (h' : Node2 w p k' p1' p2') : k = k' ∧ p1 = p1' ∧ p2 = p2' := by
  obtain ⟨q, c, h1, h2⟩ := h
  obtain ⟨q', c', h1', h2'⟩ := h'
  obtain ⟨e1, _, e2⟩ := node_one h1 h1'
  simp only [Value.slice.injEq, Option.some.injEq, Addr.mk.injEq, and_true, true_and] at e2
  obtain ⟨rfl, _⟩ := e2
  have := whole_one h2 h2'
  simp [kid] at this
  exact ⟨e1, this⟩
theorem node1_kind {p p1 : Nat} {k : Int} (h : Node1 w p k p1) : ∃ v, NodeAt w p k .zero v := by
  obtain ⟨q, c, h1, _⟩ := h
  exact ⟨_, h1⟩
theorem node2_kind {p p1 p2 : Nat} {k : Int} (h : Node2 w p k p1 p2) : ∃ v, NodeAt w p k .zero v := by
  obtain ⟨q, c, h1, _⟩ := h
  exact ⟨_, h1⟩
/-- what kind of node a tree is -/
def kindT : Tr → Int
  | .emp => 0
  | .cls _ _ _ _ => 1
  | .cat _ _ => 2
  | .alt _ _ => 3
  | .star _ => 4
  | .plus _ => 5
  | .quest _ => 6
theorem isTr_kind : ∀ {t : Tr} {p : Nat}, IsTr w p t → ∃ S v, NodeAt w p (kindT t) S v
  | .emp, _, ⟨v, h⟩ => ⟨_, v, h⟩
  | .cls _ _ _ _, _, ⟨v, h, _⟩ => ⟨_, v, h⟩
  | .cat _ _, _, ⟨_, _, ⟨_, _, h, _⟩, _⟩ => ⟨_, _, h⟩
  | .alt _ _, _, ⟨_, _, ⟨_, _, h, _⟩, _⟩ => ⟨_, _, h⟩
  | .star _, _, ⟨_, ⟨_, _, h, _⟩, _⟩ => ⟨_, _, h⟩
  | .plus _, _, ⟨_, ⟨_, _, h, _⟩, _⟩ => ⟨_, _, h⟩
  | .quest _, _, ⟨_, ⟨_, _, h, _⟩, _⟩ => ⟨_, _, h⟩
theorem isTr_one : ∀ (t u : Tr) (p : Nat), IsTr w p t → IsTr w p u → t = u := by
  intro t
  induction t with
  | emp =>
    intro u p h k
    obtain ⟨S, v, h1⟩ := isTr_kind h
    obtain ⟨S', v', h2⟩ := isTr_kind k
    have := (node_one h1 h2).1
    cases u <;> first | rfl | simp [kindT] at this
  | cls a b c d =>
    intro u p h k
    obtain ⟨S, v, h1⟩ := isTr_kind h
    obtain ⟨S', v', h2⟩ := isTr_kind k
    have := (node_one h1 h2).1
    cases u <;> simp [kindT] at this
    obtain ⟨v, h, _⟩ := h
    obtain ⟨v', k, _⟩ := k
    have := (node_one h k).2.1
    simp only [BS.mk.injEq] at this
    obtain ⟨rfl, rfl, rfl, rfl⟩ := this
    rfl
  | cat x y ihx ihy =>
    intro u p h k
    obtain ⟨S, v, h1⟩ := isTr_kind h
    obtain ⟨S', v', h2⟩ := isTr_kind k
    have := (node_one h1 h2).1
    cases u <;> simp [kindT] at this
    obtain ⟨p1, p2, h, hx, hy⟩ := h
    obtain ⟨p1', p2', k, kx, ky⟩ := k
    obtain ⟨_, rfl, rfl⟩ := node2_one h k
    rw [ihx _ _ hx kx, ihy _ _ hy ky]
  | alt x y ihx ihy =>
    intro u p h k
    obtain ⟨S, v, h1⟩ := isTr_kind h
    obtain ⟨S', v', h2⟩ := isTr_kind k
    have := (node_one h1 h2).1
    cases u <;> simp [kindT] at this
    obtain ⟨p1, p2, h, hx, hy⟩ := h
    obtain ⟨p1', p2', k, kx, ky⟩ := k
    obtain ⟨_, rfl, rfl⟩ := node2_one h k
    rw [ihx _ _ hx kx, ihy _ _ hy ky]
  | star x ihx =>
    intro u p h k
    obtain ⟨S, v, h1⟩ := isTr_kind h
    obtain ⟨S', v', h2⟩ := isTr_kind k
    have := (node_one h1 h2).1
    cases u <;> simp [kindT] at this
    obtain ⟨p1, h, hx⟩ := h
    obtain ⟨p1', k, kx⟩ := k
    obtain ⟨_, rfl⟩ := node1_one h k
    rw [ihx _ _ hx kx]
  | plus x ihx =>
    intro u p h k
    obtain ⟨S, v, h1⟩ := isTr_kind h
    obtain ⟨S', v', h2⟩ := isTr_kind k
    have := (node_one h1 h2).1
    cases u <;> simp [kindT] at this
    obtain ⟨p1, h, hx⟩ := h
    obtain ⟨p1', k, kx⟩ := k
    obtain ⟨_, rfl⟩ := node1_one h k
    rw [ihx _ _ hx kx]
  | quest x ihx =>
    intro u p h k
    obtain ⟨S, v, h1⟩ := isTr_kind h
    obtain ⟨S', v', h2⟩ := isTr_kind k
    have := (node_one h1 h2).1
    cases u <;> simp [kindT] at this
    obtain ⟨p1, h, hx⟩ := h
    obtain ⟨p1', k, kx⟩ := k
    obtain ⟨_, rfl⟩ := node1_one h k
    rw [ihx _ _ hx kx]
theorem isRest_one : ∀ (l m : List Tr) (p : Option Addr), IsRest w p l → IsRest w p m → l = m
  | [], [], _, _, _ => rfl
  | [], _ :: _, _, h, ⟨_, _, _, k, _⟩ => by
    have h : _ = none := h
    rw [h] at k
    cases k
  | _ :: _, [], _, ⟨_, _, _, k, _⟩, h => by
    have h : _ = none := h
    rw [h] at k
    cases k
  | t :: l, u :: m, _, ⟨g, n, q, rfl, h1, h2, h3⟩, ⟨g', n', q', e, k1, k2, k3⟩ => by
    simp only [Option.some.injEq, Addr.mk.injEq, and_true] at e
    subst e
    have := whole_one h1 k1
    simp [kid] at this
    obtain ⟨rfl, rfl⟩ := this
    rw [isTr_one t u n h2 k2, isRest_one l m q h3 k3]
theorem laid_whole {g : Nat} {t : TypeId} {cs : Array Value} (h : Whole1 w g t cs) : Laid w (some ⟨g, 0, none⟩) := fun a e => by
  cases e
  exact ⟨cs, t, h⟩
theorem laid_tr {t : Tr} {p : Nat} (h : IsTr w p t) : Laid w (some ⟨p, 0, none⟩) := by
  obtain ⟨k, S, v, h⟩ := isTr_node h
  exact laid_whole h
theorem laid_none : Laid w none := fun a e => by cases e
theorem laid_rest : ∀ {l : List Tr} {p : Option Addr}, IsRest w p l → Laid w p
  | [], _, h => by
    have h : _ = none := h
    rw [h]
    exact laid_none
  | _ :: _, _, ⟨g, n, q, rfl, h, _⟩ => laid_whole h
theorem laid_on {p : Option Addr} (h : Laid w p) (hs : ∀ g t cs, Whole1 w g t cs → Whole1 w' g t cs) : Laid w' p := fun a e => by
  obtain ⟨ca, ta, h⟩ := h a e
  exact ⟨ca, ta, hs _ _ _ h⟩
end
end Go.Proofs.YtbijjjhfekkfaaaGreat
