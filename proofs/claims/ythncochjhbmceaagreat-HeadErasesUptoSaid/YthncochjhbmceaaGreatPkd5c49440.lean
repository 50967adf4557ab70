/- labels.Unquote, walked: the value of a quotation and the place behind it. Condition: the text is not too long. The text of a set, read, plainly. No condition. Labels read from bytes, plainly. No condition. What is read of bytes and of texts is the one form of its set, plainly. No condition. -/
import Derived.Test.YthncochjhbmceaaGreatPk69c02a4a
import Derived.Test.YthncochjhbmceaaGreatPkf33574ff
import Derived.Test.YthncochjhbmceaaGreatPk76b7f4ba
import Derived.Lib.IndexLaws
namespace Go.Proofs.YthncochjhbmceaaGreat
set_option maxRecDepth 100000
open Go.RowKit

/-- what labels.Unquote answers -/
def unqP (s : ByteArray) (a : Int) : ByteArray × Int × Int := if 0 ≤ a then (match unqO s a.toNat with
  | some (v, n) => (⟨v.toArray⟩, (n : Nat), 0)
  | none => (⟨#[]⟩, 0, 21)) else (⟨#[]⟩, 0, 21)
def strLen : Value → Nat
  | .string s => s.size
  | _ => 0
theorem ext_list (s : ByteArray) (k e : Nat) : (s.extract k e).data.toList = (s.data.toList.drop k).take (e - k) := by
  rw [ByteArray.data_extract, Array.toList_extract]
end Go.Proofs.YthncochjhbmceaaGreat

namespace Go.Proofs.YthncochjhbmceaaGreat
set_option maxRecDepth 100000
open Go.RowKit

/-- labels read one behind the other from the place a on -/
def parR (s : ByteArray) : Nat → Nat → List Lbl → Option (List Lbl)
  | 0, _, _ => none
  | f + 1, a, out =>
    if Lib.indexByte (s.data.toList.drop a) 61 < 0 ∨ out.length = 8 then none
    else match unqO s (a + (Lib.indexByte (s.data.toList.drop a) 61).toNat + 1) with
      | none => none
      | some (v, n) => if n = s.size then some (out ++ [⟨s.extract a (a + (Lib.indexByte (s.data.toList.drop a) 61).toNat), ⟨v.toArray⟩⟩])
        else if s.data.toList[n]? = some 44 then parR s f (n + 1) (out ++ [⟨s.extract a (a + (Lib.indexByte (s.data.toList.drop a) 61).toNat), ⟨v.toArray⟩⟩]) else none
section
variable {s : ByteArray} {f a j : Nat} {out : List Lbl}
variable {v : List UInt8} {n : Nat} (h : Lib.indexByte (s.data.toList.drop a) 61 = j) (hu : unqO s (a + j + 1) = some (v, n))
include h hu
end
/-- the set that a text shows, or the error -/
def readL (s : ByteArray) : List Lbl × Int := match parR s 9 0 [] with
  | some l => if validP l then (l, 0) else ([], 21)
  | none => ([], 21)
end Go.Proofs.YthncochjhbmceaaGreat

namespace Go.Proofs.YthncochjhbmceaaGreat
set_option maxRecDepth 100000
open Go.RowKit

/-- may this label not stand behind these? -/
def badN (out : List Lbl) (x : Lbl) : Bool := match out.getLast? with
  | none => false
  | some z => !decide (ltN z x)
theorem badN_snoc (m : List Lbl) (z x : Lbl) : badN (m ++ [z]) x = !decide (ltN z x) := by simp [badN]
/-- the labels that are read: so many, from this place on, behind these -/
def decT (s : List UInt8) : Nat → Int → List Lbl → List Lbl × Int × Int
  | 0, a, out => (out, a, 0)
  | k + 1, a, out => if (readT s a).2.2 = 0 then
      if (readT s (readT s a).2.1).2.2 = 0 then
        if fitN (readT s a).1 = false then ([], 0, 40)
        else if fitV (readT s (readT s a).2.1).1 = false then ([], 0, 41)
        else if badN out ⟨(readT s a).1, (readT s (readT s a).2.1).1⟩ = true then ([], 0, 42)
        else decT s k (readT s (readT s a).2.1).2.1 (out ++ [⟨(readT s a).1, (readT s (readT s a).2.1).1⟩])
      else ([], 0, (readT s (readT s a).2.1).2.2)
    else ([], 0, (readT s a).2.2)
section
variable {s : List UInt8} {k : Nat} {a b c e : Int} {out : List Lbl} {u v : ByteArray}
theorem decT_go (h : readT s a = (u, b, 0)) (h2 : readT s b = (v, c, 0)) (hf : fitN u = true) (hg : fitV v = true) (hb : badN out ⟨u, v⟩ = false) : decT s (k + 1) a out = decT s k c (out ++ [⟨u, v⟩]) := by
  rw [decT, h]; simp only [if_true]; rw [h2]; simp only [if_true]; rw [if_neg (by rw [hf]; decide), if_neg (by rw [hg]; decide), if_neg (by rw [hb]; decide)]
/-- the set that is read at a place, the place behind it, the error -/
def decL (s : List UInt8) (a : Int) : List Lbl × Int × Int :=
  if (readU s a).2.2 = 0 then (if (readU s a).1 = 0 then ([], 0, 43) else if 8 < (readU s a).1 then ([], 0, 44) else decT s (readU s a).1 (readU s a).2.1 []) else ([], 0, (readU s a).2.2)
variable {n : Nat}
theorem decL_go (h : readU s a = (n, b, 0)) (h0 : n ≠ 0) (h8 : ¬ 8 < n) : decL s a = decT s n b [] := by
  rw [decL, h]; simp only [if_true]; rw [if_neg h0, if_neg h8]
end
end Go.Proofs.YthncochjhbmceaaGreat

namespace Go.Proofs.YthncochjhbmceaaGreat
set_option maxRecDepth 100000
open Go.RowKit

end Go.Proofs.YthncochjhbmceaaGreat
