/- How a pattern is read: plain places. No program is walked here. -/
import Derived.Test.YtalnndenncnbdaaDerP
namespace Go.Proofs.Ytalnndenncnbdaa

/-- a set of bytes: four numbers of 64 bits -/
structure BS where
  a : Nat
  b : Nat
  c : Nat
  d : Nat
def BS.zero : BS := ⟨0, 0, 0, 0⟩
def BS.all : BS := ⟨18446744073709551615, 18446744073709551615, 18446744073709551615, 18446744073709551615⟩
/-- the number at this place -/
def BS.at_ (S : BS) (k : Nat) : Nat := if k = 0 then S.a else if k = 1 then S.b else if k = 2 then S.c else S.d
/-- the number at this place turned -/
def BS.on (S : BS) (k : Nat) (f : Nat → Nat) : BS := if k = 0 then { S with a := f S.a } else if k = 1 then { S with b := f S.b } else if k = 2 then { S with c := f S.c } else { S with d := f S.d }
/-- one byte more -/
def BS.put1 (S : BS) (n : Nat) : BS := S.on (n / 64) fun x => x ||| 2 ^ (n % 64)
/-- n bytes more, from this one on -/
def BS.puts (S : BS) (lo : Nat) : Nat → BS
  | 0 => S
  | n + 1 => (BS.puts S lo n).put1 (lo + n)
/-- the bytes from lo to hi more -/
def BS.put (S : BS) (lo hi : Nat) : BS := S.puts lo (hi + 1 - lo)
def BS.not (S : BS) : BS := ⟨18446744073709551615 - S.a, 18446744073709551615 - S.b, 18446744073709551615 - S.c, 18446744073709551615 - S.d⟩
def BS.isZero (S : BS) : Bool := S.a == 0 && S.b == 0 && S.c == 0 && S.d == 0
def BS.tr (S : BS) : Tr := .cls S.a S.b S.c S.d

/-- what reading gives: an error's number, or something and the place behind it -/
inductive PR (α : Type) where
  | bad (e : Nat)
  | ok (a : α) (at_ : Nat)
/-- the byte at a place -/
def byteN (s : List UInt8) (i : Nat) : Nat := (s[i]?.getD 0).toNat
section
variable (s : List UInt8)
def escP (i : Nat) : PR Nat := if i < s.length then .ok (byteN s i) (i + 1) else .bad 65
def letP (i : Nat) : PR Nat := if i < s.length then (if byteN s i = 92 then escP s (i + 1) else .ok (byteN s i) (i + 1)) else .bad 63
/-- one item of a class: the letters from and to -/
def itemP (i : Nat) : PR (Nat × Nat) :=
  match letP s i with
  | .bad e => .bad e
  | .ok lo j =>
    if j + 1 < s.length ∧ byteN s j = 45 ∧ byteN s (j + 1) ≠ 93 then
      (match letP s (j + 1) with
       | .bad e => .bad e
       | .ok hi k => .ok (lo, hi) k)
    else .ok (lo, lo) j
/-- the items of a class, up to its bracket: the set, how many, whether one falls -/
def itemsP : Nat → Nat → BS → Nat → Bool → PR (BS × Nat × Bool)
  | 0, _, _, _, _ => .bad 63
  | f + 1, i, S, n, fl =>
    if i < s.length ∧ byteN s i = 93 then .ok (S, n, fl) (i + 1) else
    match itemP s i with
    | .bad e => .bad e
    | .ok (lo, hi) j => itemsP f j (S.put lo hi) (n + 1) (fl || decide (hi < lo))
/-- a class, from behind its bracket -/
def classP (i : Nat) : PR BS :=
  let tn := decide (i < s.length ∧ byteN s i = 94)
  match itemsP s (s.length + 1) (if tn then i + 1 else i) .zero 0 false with
  | .bad e => .bad e
  | .ok (S, n, fl) j =>
    let S' := if tn then S.not else S
    if n = 0 ∨ fl = true ∨ S'.isZero = true then .bad 63 else .ok S' j
/-- an atom; m: how much deeper it may go; sub: what stands in brackets -/
def atomP (m : Nat) (sub : Nat → PR Tr) (i : Nat) : PR Tr :=
  let b := byteN s i
  if b = 42 ∨ b = 43 ∨ b = 63 then .bad 64 else
  if b = 40 then
    (if m = 0 then .bad 66 else
     match sub (i + 1) with
     | .bad e => .bad e
     | .ok t j => if j < s.length then .ok t (j + 1) else .bad 61) else
  if b = 91 then
    (match classP s (i + 1) with
     | .bad e => .bad e
     | .ok S j => .ok S.tr j) else
  if b = 46 then .ok (BS.zero.put 0 255).tr (i + 1) else
  if b = 92 then
    (match escP s (i + 1) with
     | .bad e => .bad e
     | .ok x j => .ok (BS.zero.put x x).tr j) else
  .ok (BS.zero.put b b).tr (i + 1)
/-- the signs behind an atom -/
def signP (b : Nat) (t : Tr) : Option Tr := if b = 42 then some (.star t) else if b = 43 then some (.plus t) else if b = 63 then some (.quest t) else none
def signsP : Nat → Nat → Tr → Tr × Nat
  | 0, i, t => (t, i)
  | f + 1, i, t => if i < s.length then (match signP (byteN s i) t with
    | some t' => signsP f (i + 1) t'
    | none => (t, i)) else (t, i)
def pieceP (m : Nat) (sub : Nat → PR Tr) (i : Nat) : PR Tr :=
  match atomP s m sub i with
  | .bad e => .bad e
  | .ok t j => .ok (signsP s (s.length + 1) j t).1 (signsP s (s.length + 1) j t).2
/-- pieces one behind another -/
def branchL (m : Nat) (top : Bool) (sub : Nat → PR Tr) : Nat → Nat → Option Tr → PR Tr
  | 0, _, _ => .bad 63
  | f + 1, i, n =>
    if i < s.length ∧ byteN s i = 41 ∧ top = true then .bad 62 else
    if i < s.length ∧ byteN s i ≠ 124 ∧ byteN s i ≠ 41 then
      match pieceP s m sub i with
      | .bad e => .bad e
      | .ok t j => branchL m top sub f j (some (match n with | none => t | some x => .cat x t))
    else .ok (n.getD .emp) i
def branchP (m : Nat) (top : Bool) (sub : Nat → PR Tr) (i : Nat) : PR Tr := branchL s m top sub (s.length + 1) i none
/-- branches, one beside another -/
def branchesL (m : Nat) (top : Bool) (sub : Nat → PR Tr) : Nat → Nat → Tr → PR Tr
  | 0, _, _ => .bad 63
  | f + 1, i, n =>
    if i < s.length ∧ byteN s i = 124 then
      match branchP s m top sub (i + 1) with
      | .bad e => .bad e
      | .ok t j => branchesL m top sub f j (.alt n t)
    else .ok n i
def branchesP (m : Nat) (top : Bool) (sub : Nat → PR Tr) (i : Nat) : PR Tr :=
  match branchP s m top sub i with
  | .bad e => .bad e
  | .ok t j => branchesL s m top sub (s.length + 1) j t
/-- what stands at a depth of 16 - m -/
def depthP : Nat → Nat → PR Tr
  | 0, i => branchesP s 0 false (fun _ => .bad 63) i
  | m + 1, i => branchesP s (m + 1) (decide (m + 1 = 16)) (depthP m) i
/-- the tree of a pattern, or the error -/
def parseP : PR Tr := if 64 < s.length then .bad 60 else depthP s 16 0
end
end Go.Proofs.Ytalnndenncnbdaa
