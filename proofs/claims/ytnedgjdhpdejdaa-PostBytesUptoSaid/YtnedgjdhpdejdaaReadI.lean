/- enc.ReadInt, walked. -/
import Derived.Test.YtnedgjdhpdejdaaReadU
import Derived.Lib.Zigzag
namespace Go.Proofs.Ytnedgjdhpdejdaa
set_option maxRecDepth 100000
open Go.RowKit Go.Shelf

theorem readU_lt (s : List UInt8) (a : Int) : (readU s a).1 < 18446744073709551616 := by
  rcases readU_err s a with h | h | h
  · exact (readU_ok (v := (readU s a).1) (n := (readU s a).2.1) (by rw [← h])).2.2.2.1
  · rw [h]; decide
  · rw [h]; decide

theorem unzz_bits {v : Nat} (h : v < 18446744073709551616) : bits .xor .i64 ((v : Int) / 2) (wrap64 (-wrap64 (bits .and .u64 (v : Int) 1))) = unzz v := by
  rw [Lib.u64_and1 v (by omega) (by omega)]
  have e2 : (v : Int) / 2 = ((v / 2 : Nat) : Int) := by omega
  have hl : v / 2 < 9223372036854775808 := by omega
  have hm : (BitVec.ofInt 64 ((v / 2 : Nat) : Int)).toNat = v / 2 := by
    rw [BitVec.ofInt_natCast, BitVec.toNat_ofNat]; exact Nat.mod_eq_of_lt (by omega)
  by_cases hp : v % 2 = 0
  · have e1 : wrap64 (-wrap64 ((v : Int) % 2)) = 0 := by
      have : (v : Int) % 2 = 0 := by omega
      rw [this]; unfold wrap64; omega
    rw [e1, e2]
    show IntKind.i64.wrap ((BitVec.ofInt 64 ((v / 2 : Nat) : Int) ^^^ BitVec.ofInt 64 0).toNat : Int) = _
    rw [BitVec.toNat_xor, hm]
    have : (BitVec.ofInt 64 0).toNat = 0 := by decide
    rw [this, Nat.xor_zero, IntKind.wrap_i64]
    unfold unzz
    rw [if_pos hp]
    omega
  · have e1 : wrap64 (-wrap64 ((v : Int) % 2)) = -1 := by
      have : (v : Int) % 2 = 1 := by omega
      rw [this]; unfold wrap64; omega
    rw [e1, e2]
    show IntKind.i64.wrap ((BitVec.ofInt 64 ((v / 2 : Nat) : Int) ^^^ BitVec.ofInt 64 (-1)).toNat : Int) = _
    have h1 : (BitVec.ofInt 64 (-1)).toNat = 2 ^ 64 - 1 := by decide
    rw [BitVec.toNat_xor, hm, h1, Nat.xor_comm, Lib.xor_ones64 _ (by omega), IntKind.wrap_i64]
    unfold unzz
    rw [if_neg hp]
    omega

end Go.Proofs.Ytnedgjdhpdejdaa
