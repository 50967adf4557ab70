/- What is left of a pattern behind a byte, and what a pattern matches: plain places. No program is walked here. How a pattern is read: plain places. No program is walked here. Keys that are pointers: found by sameness, as long as what they point at lies. No program is walked here. A pattern's tree, and what is left of it, as they lie. No program is walked here. -/
import Derived.Test.YthncochjhbmceaaGreatBase
import Derived.Test.YthncochjhbmceaaGreatMapV
import Derived.LaidEqlPtr
import Derived.Test.YthncochjhbmceaaGreatPk95d54107
namespace Go.Proofs.YthncochjhbmceaaGreat

/-- a pattern's tree; a set of bytes is four numbers -/
inductive Tr where
  | emp
  | cls (a b c d : Nat)
  | cat (x y : Tr)
  | alt (x y : Tr)
  | star (x : Tr)
  | plus (x : Tr)
  | quest (x : Tr)
/-- does the tree match the empty text? -/
def nulT : Tr → Bool
  | .cat x y => nulT x && nulT y
  | .alt x y => nulT x || nulT y
  | .plus x => nulT x
  | .cls _ _ _ _ => false
  | _ => true
/-- is the byte in the set? -/
def hasB (a b c d : Nat) (n : Nat) : Bool := (if n / 64 = 0 then a else if n / 64 = 1 then b else if n / 64 = 2 then c else d).testBit (n % 64)
/-- what is left behind the byte n of a tree with these behind it -/
def derT : Tr → List Tr → Nat → List (List Tr)
  | .emp, _, _ => []
  | .cls a b c d, r, n => if hasB a b c d n then [r] else []
  | .cat x y, r, n => derT x (y :: r) n ++ if nulT x then derT y r n else []
  | .alt x y, r, n => derT x r n ++ derT y r n
  | .star x, r, n => derT x (.star x :: r) n
  | .plus x, r, n => derT x (.star x :: r) n
  | .quest x, r, n => derT x r n
/-- what is left behind the byte n of trees, one behind another -/
def stepT : List Tr → Nat → List (List Tr)
  | [], _ => []
  | t :: r, n => derT t r n ++ if nulT t then stepT r n else []
/-- what is left behind a text -/
def leftT (t : Tr) (s : List Nat) : List (List Tr) := s.foldl (fun S n => S.flatMap fun r => stepT r n) [[t]]
/-- does the tree match the text? -/
def matT (t : Tr) (s : List Nat) : Bool := (leftT t s).any fun r => r.all nulT
theorem leftT_snoc (t : Tr) (s : List Nat) (n : Nat) : leftT t (s ++ [n]) = (leftT t s).flatMap fun r => stepT r n := by simp [leftT, List.foldl_append]
theorem fold_none (u : List Nat) : u.foldl (fun S n => S.flatMap fun r => stepT r n) ([] : List (List Tr)) = [] := by
  induction u with
  | nil => rfl
  | cons n u ih => simpa using ih
theorem leftT_none {t : Tr} {s : List Nat} (h : leftT t s = []) (u : List Nat) : leftT t (s ++ u) = [] := by
  unfold leftT at h ⊢
  rw [List.foldl_append, h, fold_none]
end Go.Proofs.YthncochjhbmceaaGreat

namespace Go.Proofs.YthncochjhbmceaaGreat

/-- a set of bytes: four numbers of 64 bits -/
structure BS where
  a : Nat
  b : Nat
  c : Nat
  d : Nat
def BS.zero : BS := ⟨0, 0, 0, 0⟩
def BS.all : BS := ⟨18446744073709551615, 18446744073709551615, 18446744073709551615, 18446744073709551615⟩
/-- the number at this place -/
def BS.at_ (S : BS) (k : Nat) : Nat := if k = 0 then S.a else if k = 1 then S.b else if k = 2 then S.c else S.d
/-- the number at this place turned -/
def BS.on (S : BS) (k : Nat) (f : Nat → Nat) : BS := if k = 0 then { S with a := f S.a } else if k = 1 then { S with b := f S.b } else if k = 2 then { S with c := f S.c } else { S with d := f S.d }
/-- one byte more -/
def BS.put1 (S : BS) (n : Nat) : BS := S.on (n / 64) fun x => x ||| 2 ^ (n % 64)
/-- n bytes more, from this one on -/
def BS.puts (S : BS) (lo : Nat) : Nat → BS
  | 0 => S
  | n + 1 => (BS.puts S lo n).put1 (lo + n)
/-- the bytes from lo to hi more -/
def BS.put (S : BS) (lo hi : Nat) : BS := S.puts lo (hi + 1 - lo)
def BS.not (S : BS) : BS := ⟨18446744073709551615 - S.a, 18446744073709551615 - S.b, 18446744073709551615 - S.c, 18446744073709551615 - S.d⟩
def BS.isZero (S : BS) : Bool := S.a == 0 && S.b == 0 && S.c == 0 && S.d == 0
def BS.tr (S : BS) : Tr := .cls S.a S.b S.c S.d

/-- what reading gives: an error's number, or something and the place behind it -/
inductive PR (α : Type) where
  | bad (e : Nat)
  | ok (a : α) (at_ : Nat)
/-- the byte at a place -/
def byteN (s : List UInt8) (i : Nat) : Nat := (s[i]?.getD 0).toNat
section
variable (s : List UInt8)
def escP (i : Nat) : PR Nat := if i < s.length then .ok (byteN s i) (i + 1) else .bad 65
def letP (i : Nat) : PR Nat := if i < s.length then (if byteN s i = 92 then escP s (i + 1) else .ok (byteN s i) (i + 1)) else .bad 63
/-- one item of a class: the letters from and to -/
def itemP (i : Nat) : PR (Nat × Nat) :=
  match letP s i with
  | .bad e => .bad e
  | .ok lo j =>
    if j + 1 < s.length ∧ byteN s j = 45 ∧ byteN s (j + 1) ≠ 93 then
      (match letP s (j + 1) with
       | .bad e => .bad e
       | .ok hi k => .ok (lo, hi) k)
    else .ok (lo, lo) j
/-- the items of a class, up to its bracket: the set, how many, whether one falls -/
def itemsP : Nat → Nat → BS → Nat → Bool → PR (BS × Nat × Bool)
  | 0, _, _, _, _ => .bad 63
  | f + 1, i, S, n, fl =>
    if i < s.length ∧ byteN s i = 93 then .ok (S, n, fl) (i + 1) else
    match itemP s i with
    | .bad e => .bad e
    | .ok (lo, hi) j => itemsP f j (S.put lo hi) (n + 1) (fl || decide (hi < lo))
/-- a class, from behind its bracket -/
def classP (i : Nat) : PR BS :=
  let tn := decide (i < s.length ∧ byteN s i = 94)
  match itemsP s (s.length + 1) (if tn then i + 1 else i) .zero 0 false with
  | .bad e => .bad e
  | .ok (S, n, fl) j =>
    let S' := if tn then S.not else S
    if n = 0 ∨ fl = true ∨ S'.isZero = true then .bad 63 else .ok S' j
/-- an atom; m: how much deeper it may go; sub: what stands in brackets -/
def atomP (m : Nat) (sub : Nat → PR Tr) (i : Nat) : PR Tr :=
  let b := byteN s i
  if b = 42 ∨ b = 43 ∨ b = 63 then .bad 64 else
  if b = 40 then
    (if m = 0 then .bad 66 else
     match sub (i + 1) with
     | .bad e => .bad e
     | .ok t j => if j < s.length then .ok t (j + 1) else .bad 61) else
  if b = 91 then
    (match classP s (i + 1) with
     | .bad e => .bad e
     | .ok S j => .ok S.tr j) else
  if b = 46 then .ok (BS.zero.put 0 255).tr (i + 1) else
  if b = 92 then
    (match escP s (i + 1) with
     | .bad e => .bad e
     | .ok x j => .ok (BS.zero.put x x).tr j) else
  .ok (BS.zero.put b b).tr (i + 1)
/-- the signs behind an atom -/
def signP (b : Nat) (t : Tr) : Option Tr := if b = 42 then some (.star t) else if b = 43 then some (.plus t) else if b = 63 then some (.quest t) else none
def signsP : Nat → Nat → Tr → Tr × Nat
  | 0, i, t => (t, i)
  | f + 1, i, t => if i < s.length then (match signP (byteN s i) t with
    | some t' => signsP f (i + 1) t'
    | none => (t, i)) else (t, i)
def pieceP (m : Nat) (sub : Nat → PR Tr) (i : Nat) : PR Tr :=
  match atomP s m sub i with
  | .bad e => .bad e
  | .ok t j => .ok (signsP s (s.length + 1) j t).1 (signsP s (s.length + 1) j t).2
/-- pieces one behind another -/
def branchL (m : Nat) (top : Bool) (sub : Nat → PR Tr) : Nat → Nat → Option Tr → PR Tr
  | 0, _, _ => .bad 63
  | f + 1, i, n =>
    if i < s.length ∧ byteN s i = 41 ∧ top = true then .bad 62 else
    if i < s.length ∧ byteN s i ≠ 124 ∧ byteN s i ≠ 41 then
      match pieceP s m sub i with
      | .bad e => .bad e
      | .ok t j => branchL m top sub f j (some (match n with | none => t | some x => .cat x t))
    else .ok (n.getD .emp) i
def branchP (m : Nat) (top : Bool) (sub : Nat → PR Tr) (i : Nat) : PR Tr := branchL s m top sub (s.length + 1) i none
/-- branches, one beside another -/
def branchesL (m : Nat) (top : Bool) (sub : Nat → PR Tr) : Nat → Nat → Tr → PR Tr
  | 0, _, _ => .bad 63
  | f + 1, i, n =>
    if i < s.length ∧ byteN s i = 124 then
      match branchP s m top sub (i + 1) with
      | .bad e => .bad e
      | .ok t j => branchesL m top sub f j (.alt n t)
    else .ok n i
def branchesP (m : Nat) (top : Bool) (sub : Nat → PR Tr) (i : Nat) : PR Tr :=
  match branchP s m top sub i with
  | .bad e => .bad e
  | .ok t j => branchesL s m top sub (s.length + 1) j t
/-- what stands at a depth of 16 - m -/
def depthP : Nat → Nat → PR Tr
  | 0, i => branchesP s 0 false (fun _ => .bad 63) i
  | m + 1, i => branchesP s (m + 1) (decide (m + 1 = 16)) (depthP m) i
/-- the tree of a pattern, or the error -/
def parseP : PR Tr := if 64 < s.length then .bad 60 else depthP s 16 0
end
end Go.Proofs.YthncochjhbmceaaGreat

namespace Go.Proofs.YthncochjhbmceaaGreat
open Go.MapKept Go.ChangeMaps

/-- where the pointer points there is a block of cells -/
def Laid (w : World) (p : Option Addr) : Prop := ∀ a, p = some a → ∃ ca ta, w.heap[a.block]? = some (.cells ca ta (0, 0))
def IsPtr (v : Value) : Prop := ∃ p, v = .pointer p
def PtrKey (w : World) (v : Value) : Prop := ∃ p, v = .pointer p ∧ Laid w p
def IsPair (v : Value) : Prop := ∃ p q, v = .agg #[.pointer p, .pointer q]
def PairKey (w : World) (v : Value) : Prop := ∃ p q, v = .agg #[.pointer p, .pointer q] ∧ Laid w p ∧ Laid w q
section
variable {P : Program}
theorem run_equalIn_ptr (w : World) (d : Nat) {tp te : TypeId} {j : TypeInfo} (hp : P.underlying tp = some (.pointer te)) (hte : P.info? te = some j) (hsz : j.size ≠ 0) {p q : Option Addr} (h1 : Laid w p) (h2 : Laid w q) :
    ∃ r : Bool, (Op.equalIn (d + 1) tp (.pointer p) (.pointer q)).run P w = .ok r w ∧ (r = true ↔ p = q) := by
  cases p with
  | none => exact ⟨q.isNone, by simp [Op.equalIn, run_underlying hp], by cases q <;> simp⟩
  | some a =>
    cases q with
    | none => exact ⟨false, by simp [Op.equalIn, run_underlying hp], by simp⟩
    | some b =>
      by_cases e : a = b
      · subst e
        exact ⟨true, by simp [Op.equalIn, run_underlying hp, sizeOf, typeInfo, hte, run_sameAddr_same], by simp⟩
      · obtain ⟨ca, ta, ha⟩ := h1 a rfl
        obtain ⟨cb, tb, hb⟩ := h2 b rfl
        exact ⟨false, by simp [Op.equalIn, run_underlying hp, sizeOf, typeInfo, hte, hsz, run_sameAddr_other w e ha hb], by simp [e]⟩
theorem run_findAsking_eq (w : World) {k : TypeId} {T : Value → Prop} (heq : ∀ {x y : Value}, T x → T y → ∃ r : Bool, (Op.equal k x y).run P w = .ok r w ∧ (r = true ↔ x = y)) {x : Value} (hx : T x) :
    ∀ (es : List MapEntry) (i : Nat), (∀ e ∈ es, T e.key) →
      ((Instr.findAsking k x es i).run P w = .ok none w ∧ ∀ e ∈ es, e.key ≠ x) ∨
      ∃ j e, (Instr.findAsking k x es i).run P w = .ok (some (i + j, e.val)) w ∧ es[j]? = some e ∧ e.key = x
  | [], i, _ => .inl ⟨by simp [Instr.findAsking], by simp⟩
  | e :: es, i, hall => by
    obtain ⟨r, hr, hiff⟩ := heq hx (hall e (by simp))
    cases r
    · have hne : e.key ≠ x := fun h => by
        have := hiff.2 h.symm
        cases this
      rcases run_findAsking_eq w heq hx es (i + 1) (fun y hy => hall y (by simp [hy])) with ⟨h1, h2⟩ | ⟨j, e', h1, h2, h3⟩
      · left
        refine ⟨by simp [Instr.findAsking, hr, h1], fun y hy => ?_⟩
        rcases List.mem_cons.1 hy with rfl | hy
        · exact hne
        · exact h2 y hy
      · right
        exact ⟨j + 1, e', by simp [Instr.findAsking, hr, h1, Nat.add_assoc, Nat.add_comm 1 j], by simpa using h2, h3⟩
    · right
      exact ⟨0, e, by simp [Instr.findAsking, hr], rfl, (hiff.1 rfl).symm⟩
/-- keys of a type whose sameness is asked key by key -/
theorem find_asking (w : World) {k : TypeId} {d : TypeDesc} (hd : P.underlying k = some d) {T : Value → Prop} (hnow : ∀ x y, T x → T y → Instr.sameNow d x y = none)
    (heq : ∀ {x y : Value}, T x → T y → ∃ r : Bool, (Op.equal k x y).run P w = .ok r w ∧ (r = true ↔ x = y)) {x : Value} (hx : T x) (es : List MapEntry) (hall : ∀ e ∈ es, T e.key) :
    ((Instr.findKey k x es).run P w = .ok none w ∧ ∀ e ∈ es, e.key ≠ x) ∨ ∃ j e, (Instr.findKey k x es).run P w = .ok (some (j, e.val)) w ∧ es[j]? = some e ∧ e.key = x := by
  cases es with
  | nil => exact .inl ⟨by simp [Instr.findKey, run_underlying hd, Instr.findNow, Result.andThen], by simp⟩
  | cons e es =>
    have hn : Instr.findNow d x (e :: es) 0 = none := by
      unfold Instr.findNow
      rw [hnow x e.key hx (hall e (by simp))]
    have hf : (Instr.findKey k x (e :: es)).run P w = (Instr.findAsking k x (e :: es) 0).run P w := by
      simp [Instr.findKey, run_underlying hd, hn, Result.andThen]
    rcases run_findAsking_eq w heq hx (e :: es) 0 hall with ⟨h1, h2⟩ | ⟨j, e', h1, h2, h3⟩
    · exact .inl ⟨hf.trans h1, h2⟩
    · exact .inr ⟨j, e', by rw [hf, h1, Nat.zero_add], h2, h3⟩
theorem keyEq_ptr {k te : TypeId} {j : TypeInfo} (hk : P.underlying k = some (.pointer te)) (hte : P.info? te = some j) (hsz : j.size ≠ 0) : KeyEq P k PtrKey where
  check w em v h := by
    obtain ⟨p, rfl, _⟩ := h
    unfold Instr.checkKey
    simp only [Sem.run_bind, run_underlying hk, Result.andThen]
    rfl
  find w x h es hes := by
    refine find_asking w hk (T := PtrKey w) (fun x y hx hy => ?_) (fun {x y} hx hy => ?_) h es hes
    · obtain ⟨p, rfl, _⟩ := hx
      rfl
    · obtain ⟨p, rfl, h1⟩ := hx
      obtain ⟨q, rfl, h2⟩ := hy
      obtain ⟨r, hr, hi⟩ := run_equalIn_ptr w 9999 hk hte hsz h1 h2
      exact ⟨r, hr, hi.trans (by simp)⟩
  stays w v h := by
    obtain ⟨p, rfl, _⟩ := h
    have h : ∀ n, Instr.sameBits n (.pointer p) (.pointer p) = true := fun n => by cases n <;> simp [Instr.sameBits]
    unfold Instr.keyThatStays
    rw [if_pos (h 10000)]
    rfl
end
theorem Laid.below {w w' : World} {p : Option Addr} (h : Laid w p) (hb : ∀ g, g < w.heap.size → (∃ ca ta, w.heap[g]? = some (.cells ca ta (0, 0))) → ∃ ca ta, w'.heap[g]? = some (.cells ca ta (0, 0))) : Laid w' p := fun a e => by
  obtain ⟨ca, ta, hc⟩ := h a e
  exact hb _ (Array.getElem?_eq_some_iff.1 hc).1 ⟨ca, ta, hc⟩
end Go.Proofs.YthncochjhbmceaaGreat

namespace Go.Proofs.YthncochjhbmceaaGreat
set_option maxRecDepth 100000
open Go.RowKit

/-- only the maps in these blocks, and what is new, may have turned -/
structure Stays (F : Nat → Prop) (w w' : World) : Prop where
  kp : Kp F w w'
  cells : ∀ g t cs, Whole1 w g t cs → Whole1 w' g t cs
section
variable {F G : Nat → Prop} {a b c w w' : World}
theorem Stays.refl (F : Nat → Prop) (w : World) : Stays F w w := ⟨Kp.refl F w, fun _ _ _ => id⟩
theorem Stays.trans (h : Stays F a b) (k : Stays F b c) : Stays F a c := ⟨h.kp.trans k.kp, fun g t cs hw => k.cells g t cs (h.cells g t cs hw)⟩
theorem Stays.wider (h : Stays F a b) (k : ∀ i, F i → G i) : Stays G a b := ⟨h.kp.wider k, h.cells⟩
theorem Stays.of_below (h : Below a.heap.size a w) (F : Nat → Prop) : Stays F a w := ⟨Kp.of_below h F, fun g _ _ hw => (h.block g hw.lt).trans hw⟩
theorem Stays.drewN (h : Stays F a w) (n : Nat) : Stays F a (w.drewN n) := ⟨h.kp.drewN n, h.cells⟩
theorem Stays.alloc (h : Stays F a w) (o : Obj) : Stays F a (w.alloc o) := ⟨h.kp.alloc o, fun g t cs hw => (Below.heap_alloc w o g (h.cells g t cs hw).lt).trans (h.cells g t cs hw)⟩
theorem Stays.mapV {S : Value → Prop} {m : List (Value × Value)} {g : Nat} (h : Stays F w w') (hm : MapV S w g m) (hn : ¬ F g) : MapV S w' g m := hm.kept (h.kp.block g hm.lt hn)
/-- a map was written -/
theorem Stays.of_map {S : Value → Prop} {m : List (Value × Value)} {g : Nat} (hm : MapV S w g m) (hg : w.grownBy w' (some g)) (hF : F g) : Stays F w w' :=
  ⟨⟨hg.os, hg.tape, hg.output, hg.size, fun k hk hn => hg.block k hk fun e => by cases e; exact hn hF⟩, fun k t cs hw => (hg.block k hw.lt fun e => by
    obtain ⟨⟨es, clock, hb, _⟩, _⟩ := hm
    rw [← Option.some.inj e, show w.heap[k]? = some (.cells cs t (0, 0)) from hw] at hb
    cases hb).trans hw⟩
theorem Stays.below {B : Nat} (h : Stays F a w) (hF : ∀ k, F k → B ≤ k) (hB : B ≤ a.heap.size) : Below B a w := h.kp.below hF hB
end

/-- a node's block -/
def NodeAt (w : World) (p : Nat) (kind : Int) (S : BS) (v : Value) : Prop :=
  Whole1 w p 332 #[.int .i64 kind, .int .u64 (S.a : Int), .int .u64 (S.b : Int), .int .u64 (S.c : Int), .int .u64 (S.d : Int), v]
def kid (p : Nat) : Value := .pointer (some ⟨p, 0, none⟩)
/-- a node with one child, with two -/
def Node1 (w : World) (p : Nat) (kind : Int) (p1 : Nat) : Prop := ∃ q c, NodeAt w p kind .zero (.slice (some ⟨q, 0, none⟩) 1 c) ∧ Whole1 w q 226 #[kid p1]
def Node2 (w : World) (p : Nat) (kind : Int) (p1 p2 : Nat) : Prop := ∃ q c, NodeAt w p kind .zero (.slice (some ⟨q, 0, none⟩) 2 c) ∧ Whole1 w q 226 #[kid p1, kid p2]
/-- each of the four is a number of 64 bits -/
def fitB (a b c d : Nat) : Prop := a < 18446744073709551616 ∧ b < 18446744073709551616 ∧ c < 18446744073709551616 ∧ d < 18446744073709551616
/-- THE POINTER'S BLOCK IS THIS TREE -/
def IsTr (w : World) : Nat → Tr → Prop
  | p, .emp => ∃ v, NodeAt w p 0 .zero v
  | p, .cls a b c d => ∃ v, NodeAt w p 1 ⟨a, b, c, d⟩ v ∧ fitB a b c d
  | p, .cat x y => ∃ p1 p2, Node2 w p 2 p1 p2 ∧ IsTr w p1 x ∧ IsTr w p2 y
  | p, .alt x y => ∃ p1 p2, Node2 w p 3 p1 p2 ∧ IsTr w p1 x ∧ IsTr w p2 y
  | p, .star x => ∃ p1, Node1 w p 4 p1 ∧ IsTr w p1 x
  | p, .plus x => ∃ p1, Node1 w p 5 p1 ∧ IsTr w p1 x
  | p, .quest x => ∃ p1, Node1 w p 6 p1 ∧ IsTr w p1 x
/-- THE POINTER IS A REST: these trees, one behind another -/
def IsRest (w : World) : Option Addr → List Tr → Prop
  | p, [] => p = none
  | p, t :: l => ∃ g n q, p = some ⟨g, 0, none⟩ ∧ Whole1 w g 279 #[kid n, .pointer q] ∧ IsTr w n t ∧ IsRest w q l
section
variable {w w' : World}
/-- nodes stay -/
def NodesOn (w w' : World) : Prop := ∀ g t cs, (t = 332 ∨ t = 226) → Whole1 w g t cs → Whole1 w' g t cs
theorem node1_on {p p1 : Nat} {k : Int} (h : Node1 w p k p1) (hs : NodesOn w w') : Node1 w' p k p1 := by
  obtain ⟨q, c, h1, h2⟩ := h
  exact ⟨q, c, hs _ _ _ (.inl rfl) h1, hs _ _ _ (.inr rfl) h2⟩
theorem node2_on {p p1 p2 : Nat} {k : Int} (h : Node2 w p k p1 p2) (hs : NodesOn w w') : Node2 w' p k p1 p2 := by
  obtain ⟨q, c, h1, h2⟩ := h
  exact ⟨q, c, hs _ _ _ (.inl rfl) h1, hs _ _ _ (.inr rfl) h2⟩
theorem isTr_nodes (hs : NodesOn w w') : ∀ (t : Tr) (p : Nat), IsTr w p t → IsTr w' p t
  | .emp, _, ⟨v, h⟩ => ⟨v, hs _ _ _ (.inl rfl) h⟩
  | .cls _ _ _ _, _, ⟨v, h, hf⟩ => ⟨v, hs _ _ _ (.inl rfl) h, hf⟩
  | .cat x y, _, ⟨p1, p2, h, h1, h2⟩ => ⟨p1, p2, node2_on h hs, isTr_nodes hs x p1 h1, isTr_nodes hs y p2 h2⟩
  | .alt x y, _, ⟨p1, p2, h, h1, h2⟩ => ⟨p1, p2, node2_on h hs, isTr_nodes hs x p1 h1, isTr_nodes hs y p2 h2⟩
  | .star x, _, ⟨p1, h, h1⟩ => ⟨p1, node1_on h hs, isTr_nodes hs x p1 h1⟩
  | .plus x, _, ⟨p1, h, h1⟩ => ⟨p1, node1_on h hs, isTr_nodes hs x p1 h1⟩
  | .quest x, _, ⟨p1, h, h1⟩ => ⟨p1, node1_on h hs, isTr_nodes hs x p1 h1⟩
theorem isTr_on (hs : ∀ g t cs, Whole1 w g t cs → Whole1 w' g t cs) (t : Tr) (p : Nat) (h : IsTr w p t) : IsTr w' p t := isTr_nodes (fun g t cs _ => hs g t cs) t p h
theorem isTr_node : ∀ {t : Tr} {p : Nat}, IsTr w p t → ∃ k S v, NodeAt w p k S v
  | .emp, _, ⟨v, h⟩ => ⟨_, _, v, h⟩
  | .cls _ _ _ _, _, ⟨v, h, _⟩ => ⟨_, _, v, h⟩
  | .cat _ _, _, ⟨_, _, ⟨_, _, h, _⟩, _⟩ => ⟨_, _, _, h⟩
  | .alt _ _, _, ⟨_, _, ⟨_, _, h, _⟩, _⟩ => ⟨_, _, _, h⟩
  | .star _, _, ⟨_, ⟨_, _, h, _⟩, _⟩ => ⟨_, _, _, h⟩
  | .plus _, _, ⟨_, ⟨_, _, h, _⟩, _⟩ => ⟨_, _, _, h⟩
  | .quest _, _, ⟨_, ⟨_, _, h, _⟩, _⟩ => ⟨_, _, _, h⟩
theorem isRest_on (hs : ∀ g t cs, Whole1 w g t cs → Whole1 w' g t cs) : ∀ (l : List Tr) (p : Option Addr), IsRest w p l → IsRest w' p l
  | [], _, h => h
  | t :: l, _, ⟨g, n, q, h1, h2, h3, h4⟩ => ⟨g, n, q, h1, hs _ _ _ h2, isTr_on hs t n h3, isRest_on hs l q h4⟩
theorem whole_one {g : Nat} {t t' : TypeId} {cs cs' : Array Value} (h : Whole1 w g t cs) (k : Whole1 w g t' cs') : cs = cs' := by
  have := (show w.heap[g]? = some (.cells cs t (0, 0)) from h).symm.trans k
  cases this
  rfl
theorem node_one {p : Nat} {k k' : Int} {S S' : BS} {v v' : Value} (h : NodeAt w p k S v) (h' : NodeAt w p k' S' v') : k = k' ∧ S = S' ∧ v = v' := by
  have := whole_one h h'
  simp only [Array.mk.injEq, List.cons.injEq, Value.int.injEq, true_and, and_true] at this
  obtain ⟨h1, h2, h3, h4, h5, h6⟩ := this
  refine ⟨h1, ?_, h6⟩
  cases S
  cases S'
  simp only at h2 h3 h4 h5
  simp only [BS.mk.injEq]
  omega
theorem node1_one {p p1 p1' : Nat} {k k' : Int} (h : Node1 w p k p1) (h' : Node1 w p k' p1') : k = k' ∧ p1 = p1' := by
  obtain ⟨q, c, h1, h2⟩ := h
  obtain ⟨q', c', h1', h2'⟩ := h'
  obtain ⟨e1, _, e2⟩ := node_one h1 h1'
  simp only [Value.slice.injEq, Option.some.injEq, Addr.mk.injEq, and_true, true_and] at e2
  obtain ⟨rfl, _⟩ := e2
  have := whole_one h2 h2'
  simp [kid] at this
  exact ⟨e1, this⟩
theorem node2_one {p p1 p2 p1' p2' : Nat} {k k' : Int} (h : Node2 w p k p1 p2) (h' : Node2 w p k' p1' p2') : k = k' ∧ p1 = p1' ∧ p2 = p2' := by
  obtain ⟨q, c, h1, h2⟩ := h
  obtain ⟨q', c', h1', h2'⟩ := h'
  obtain ⟨e1, _, e2⟩ := node_one h1 h1'
  simp only [Value.slice.injEq, Option.some.injEq, Addr.mk.injEq, and_true, true_and] at e2
  obtain ⟨rfl, _⟩ := e2
  have := whole_one h2 h2'
  simp [kid] at this
  exact ⟨e1, this⟩
/-- what kind of node a tree is -/
def kindT : Tr → Int
  | .emp => 0
  | .cls _ _ _ _ => 1
  | .cat _ _ => 2
  | .alt _ _ => 3
  | .star _ => 4
  | .plus _ => 5
  | .quest _ => 6
theorem isTr_kind : ∀ {t : Tr} {p : Nat}, IsTr w p t → ∃ S v, NodeAt w p (kindT t) S v
  | .emp, _, ⟨v, h⟩ => ⟨_, v, h⟩
  | .cls _ _ _ _, _, ⟨v, h, _⟩ => ⟨_, v, h⟩
  | .cat _ _, _, ⟨_, _, ⟨_, _, h, _⟩, _⟩ => ⟨_, _, h⟩
  | .alt _ _, _, ⟨_, _, ⟨_, _, h, _⟩, _⟩ => ⟨_, _, h⟩
  | .star _, _, ⟨_, ⟨_, _, h, _⟩, _⟩ => ⟨_, _, h⟩
  | .plus _, _, ⟨_, ⟨_, _, h, _⟩, _⟩ => ⟨_, _, h⟩
  | .quest _, _, ⟨_, ⟨_, _, h, _⟩, _⟩ => ⟨_, _, h⟩
theorem isTr_one : ∀ (t u : Tr) (p : Nat), IsTr w p t → IsTr w p u → t = u := by
  intro t
  induction t with
  | emp =>
    intro u p h k
    obtain ⟨S, v, h1⟩ := isTr_kind h
    obtain ⟨S', v', h2⟩ := isTr_kind k
    have := (node_one h1 h2).1
    cases u <;> first | rfl | simp [kindT] at this
  | cls a b c d =>
    intro u p h k
    obtain ⟨S, v, h1⟩ := isTr_kind h
    obtain ⟨S', v', h2⟩ := isTr_kind k
    have := (node_one h1 h2).1
    cases u <;> simp [kindT] at this
    obtain ⟨v, h, _⟩ := h
    obtain ⟨v', k, _⟩ := k
    have := (node_one h k).2.1
    simp only [BS.mk.injEq] at this
    obtain ⟨rfl, rfl, rfl, rfl⟩ := this
    rfl
  | cat x y ihx ihy =>
    intro u p h k
    obtain ⟨S, v, h1⟩ := isTr_kind h
    obtain ⟨S', v', h2⟩ := isTr_kind k
    have := (node_one h1 h2).1
    cases u <;> simp [kindT] at this
    obtain ⟨p1, p2, h, hx, hy⟩ := h
    obtain ⟨p1', p2', k, kx, ky⟩ := k
    obtain ⟨_, rfl, rfl⟩ := node2_one h k
    rw [ihx _ _ hx kx, ihy _ _ hy ky]
  | alt x y ihx ihy =>
    intro u p h k
    obtain ⟨S, v, h1⟩ := isTr_kind h
    obtain ⟨S', v', h2⟩ := isTr_kind k
    have := (node_one h1 h2).1
    cases u <;> simp [kindT] at this
    obtain ⟨p1, p2, h, hx, hy⟩ := h
    obtain ⟨p1', p2', k, kx, ky⟩ := k
    obtain ⟨_, rfl, rfl⟩ := node2_one h k
    rw [ihx _ _ hx kx, ihy _ _ hy ky]
  | star x ihx =>
    intro u p h k
    obtain ⟨S, v, h1⟩ := isTr_kind h
    obtain ⟨S', v', h2⟩ := isTr_kind k
    have := (node_one h1 h2).1
    cases u <;> simp [kindT] at this
    obtain ⟨p1, h, hx⟩ := h
    obtain ⟨p1', k, kx⟩ := k
    obtain ⟨_, rfl⟩ := node1_one h k
    rw [ihx _ _ hx kx]
  | plus x ihx =>
    intro u p h k
    obtain ⟨S, v, h1⟩ := isTr_kind h
    obtain ⟨S', v', h2⟩ := isTr_kind k
    have := (node_one h1 h2).1
    cases u <;> simp [kindT] at this
    obtain ⟨p1, h, hx⟩ := h
    obtain ⟨p1', k, kx⟩ := k
    obtain ⟨_, rfl⟩ := node1_one h k
    rw [ihx _ _ hx kx]
  | quest x ihx =>
    intro u p h k
    obtain ⟨S, v, h1⟩ := isTr_kind h
    obtain ⟨S', v', h2⟩ := isTr_kind k
    have := (node_one h1 h2).1
    cases u <;> simp [kindT] at this
    obtain ⟨p1, h, hx⟩ := h
    obtain ⟨p1', k, kx⟩ := k
    obtain ⟨_, rfl⟩ := node1_one h k
    rw [ihx _ _ hx kx]
theorem isRest_one : ∀ (l m : List Tr) (p : Option Addr), IsRest w p l → IsRest w p m → l = m
  | [], [], _, _, _ => rfl
  | [], _ :: _, _, h, ⟨_, _, _, k, _⟩ => by
    have h : _ = none := h
    rw [h] at k
    cases k
  | _ :: _, [], _, ⟨_, _, _, k, _⟩, h => by
    have h : _ = none := h
    rw [h] at k
    cases k
  | t :: l, u :: m, _, ⟨g, n, q, rfl, h1, h2, h3⟩, ⟨g', n', q', e, k1, k2, k3⟩ => by
    simp only [Option.some.injEq, Addr.mk.injEq, and_true] at e
    subst e
    have := whole_one h1 k1
    simp [kid] at this
    obtain ⟨rfl, rfl⟩ := this
    rw [isTr_one t u n h2 k2, isRest_one l m q h3 k3]
theorem laid_whole {g : Nat} {t : TypeId} {cs : Array Value} (h : Whole1 w g t cs) : Laid w (some ⟨g, 0, none⟩) := fun a e => by
  cases e
  exact ⟨cs, t, h⟩
theorem laid_tr {t : Tr} {p : Nat} (h : IsTr w p t) : Laid w (some ⟨p, 0, none⟩) := by
  obtain ⟨k, S, v, h⟩ := isTr_node h
  exact laid_whole h
theorem laid_none : Laid w none := fun a e => by cases e
theorem laid_rest : ∀ {l : List Tr} {p : Option Addr}, IsRest w p l → Laid w p
  | [], _, h => by
    have h : _ = none := h
    rw [h]
    exact laid_none
  | _ :: _, _, ⟨g, n, q, rfl, h, _⟩ => laid_whole h
theorem laid_on {p : Option Addr} (h : Laid w p) (hs : ∀ g t cs, Whole1 w g t cs → Whole1 w' g t cs) : Laid w' p := fun a e => by
  obtain ⟨ca, ta, h⟩ := h a e
  exact ⟨ca, ta, hs _ _ _ h⟩
end
end Go.Proofs.YthncochjhbmceaaGreat
