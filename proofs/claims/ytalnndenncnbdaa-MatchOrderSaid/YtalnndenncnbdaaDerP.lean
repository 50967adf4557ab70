/- What is left of a pattern behind a byte, and what a pattern matches: plain places. No program is walked here. -/
import Derived.Test.YtalnndenncnbdaaBase
namespace Go.Proofs.Ytalnndenncnbdaa

/-- a pattern's tree; a set of bytes is four numbers -/
inductive Tr where
  | emp
  | cls (a b c d : Nat)
  | cat (x y : Tr)
  | alt (x y : Tr)
  | star (x : Tr)
  | plus (x : Tr)
  | quest (x : Tr)
/-- does the tree match the empty text? -/
def nulT : Tr → Bool
  | .cat x y => nulT x && nulT y
  | .alt x y => nulT x || nulT y
  | .plus x => nulT x
  | .cls _ _ _ _ => false
  | _ => true
/-- is the byte in the set? -/
def hasB (a b c d : Nat) (n : Nat) : Bool := (if n / 64 = 0 then a else if n / 64 = 1 then b else if n / 64 = 2 then c else d).testBit (n % 64)
/-- what is left behind the byte n of a tree with these behind it -/
def derT : Tr → List Tr → Nat → List (List Tr)
  | .emp, _, _ => []
  | .cls a b c d, r, n => if hasB a b c d n then [r] else []
  | .cat x y, r, n => derT x (y :: r) n ++ if nulT x then derT y r n else []
  | .alt x y, r, n => derT x r n ++ derT y r n
  | .star x, r, n => derT x (.star x :: r) n
  | .plus x, r, n => derT x (.star x :: r) n
  | .quest x, r, n => derT x r n
/-- what is left behind the byte n of trees, one behind another -/
def stepT : List Tr → Nat → List (List Tr)
  | [], _ => []
  | t :: r, n => derT t r n ++ if nulT t then stepT r n else []
/-- what is left behind a text -/
def leftT (t : Tr) (s : List Nat) : List (List Tr) := s.foldl (fun S n => S.flatMap fun r => stepT r n) [[t]]
/-- does the tree match the text? -/
def matT (t : Tr) (s : List Nat) : Bool := (leftT t s).any fun r => r.all nulT
theorem leftT_snoc (t : Tr) (s : List Nat) (n : Nat) : leftT t (s ++ [n]) = (leftT t s).flatMap fun r => stepT r n := by simp [leftT, List.foldl_append]
theorem fold_none (u : List Nat) : u.foldl (fun S n => S.flatMap fun r => stepT r n) ([] : List (List Tr)) = [] := by
  induction u with
  | nil => rfl
  | cons n u ih => simpa using ih
theorem leftT_none {t : Tr} {s : List Nat} (h : leftT t s = []) (u : List Nat) : leftT t (s ++ u) = [] := by
  unfold leftT at h ⊢
  rw [List.foldl_append, h, fold_none]
end Go.Proofs.Ytalnndenncnbdaa
