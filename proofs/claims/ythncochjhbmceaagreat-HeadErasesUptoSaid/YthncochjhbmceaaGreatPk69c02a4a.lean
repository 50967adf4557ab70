/- The reference's Unquote. Condition: the text is not too long. A number that is read, plainly: by how many bytes of the kind that goes on stand ahead. No program. enc.ReadUint and enc.ReadInt, walked. enc.ReadInt, walked. -/
import Derived.Test.YthncochjhbmceaaGreatPk67e2a8de
import Derived.Test.YthncochjhbmceaaGreatPkf4cb56ba
import Derived.Deep.QuietTactic
import Derived.BigQuiet
import Derived.Lib.Zigzag
namespace Go.Proofs.YthncochjhbmceaaGreat
set_option maxRecDepth 100000
open Go.RowKit

/-- the value whose quotation stands at k, and the place behind it -/
def unqO (s : ByteArray) (k : Nat) : Option (List UInt8 × Nat) := if s.data.toList[k]? = some 34 then (parQ (s.data.toList.drop (k + 1))).map fun p => (p.1, k + 1 + p.2) else none
/-- what the reference answers -/
def unqR (s : ByteArray) (k : Nat) : ByteArray × Int := match unqO s k with
  | some (v, n) => (⟨v.toArray⟩, (n : Nat))
  | none => (⟨#[]⟩, -1)

/-- what is read of a quotation: the bytes acc, up to the place j -/
def RelQ (s : ByteArray) (k j : Nat) (acc : List UInt8) : Prop := parQ (s.data.toList.drop (k + 1)) = (parQ (s.data.toList.drop j)).map fun p => (acc ++ p.1, (j - (k + 1)) + p.2)
end Go.Proofs.YthncochjhbmceaaGreat

namespace Go.Proofs.YthncochjhbmceaaGreat
set_option maxRecDepth 100000

/-- the value of bytes, the lowest seven bits first -/
def valL : List UInt8 → Nat
  | [] => 0
  | b :: l => b.toNat % 128 + 128 * valL l
/-- the first k bytes go on -/
def goesOn (k : Nat) (l : List UInt8) : Prop := ∀ j b, j < k → l[j]? = some b → 128 ≤ b.toNat
end Go.Proofs.YthncochjhbmceaaGreat

namespace Go.Proofs.YthncochjhbmceaaGreat
set_option maxRecDepth 100000
open Go.RowKit Go.Shelf

end Go.Proofs.YthncochjhbmceaaGreat

namespace Go.Proofs.YthncochjhbmceaaGreat
set_option maxRecDepth 100000
open Go.RowKit Go.Shelf

end Go.Proofs.YthncochjhbmceaaGreat
