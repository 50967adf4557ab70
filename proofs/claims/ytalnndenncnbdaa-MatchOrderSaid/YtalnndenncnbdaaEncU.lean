/- enc.Uint and enc.Int, walked. -/
import Derived.Test.YtalnndenncnbdaaEncP
import Derived.Test.YtalnndenncnbdaaBldr
import Derived.Lib.Zigzag
namespace Go.Proofs.Ytalnndenncnbdaa
set_option maxRecDepth 100000
open Go.RowKit Go.Shelf

theorem or128 (k : Nat) : bits .or .u8 ((k : Int) % 256) 128 = ((k % 128 + 128 : Nat) : Int) := by
  have e : (k : Int) % 256 = ((k % 256 : Nat) : Int) := by omega
  have hb := (bits_nat .u8 8 (by decide) wraps_u8 (k % 256) 128 (by omega) (by decide)).2
  have h : ∀ b : Fin 256, b.val ||| 128 = b.val % 128 + 128 := by decide
  have := h ⟨k % 256, by omega⟩
  simp only at this
  rw [e]
  refine hb.trans ?_
  rw [this]
  omega
theorem byteCells_one {b : Nat} (h : b < 256) : Lib.byteCells [UInt8.ofNat b] = [.int .u8 (b : Int)] := by
  simp [Lib.byteCells]; omega
theorem uintL_pre {pre l m : List UInt8} (h : pre ++ l = m) (h0 : 0 < l.length) : pre.length + 1 ≤ m.length := by
  rw [← h, List.length_append]; omega
theorem bld_new (w : World) : Lib.IsBuilder 74 5 w.heap.size w.heap.size (Lib.byteCells []) (w.alloc (.cells #[.pointer none, .slice none 0 0] 74)) :=
  .inl ⟨Nat.le_refl _, .slice none 0 0, Array.getElem?_push_size, World.ownsRow_nil _ _ _ _, by simp [Value.ownBlock]⟩

theorem bld_below {B b : Nat} {bs : List Value} {w w' : World} (h : Lib.IsBuilder 74 5 B b bs w) (hb : Below w.heap.size w w') : Lib.IsBuilder 74 5 B b bs w' := by
  rcases h with h | h
  · have hl := h.lt
    obtain ⟨h1, v, h2, h3, h4⟩ := h
    exact .inl ⟨h1, v, (hb.block b hl).trans h2, own_below h3 hb (Nat.le_refl _), h4⟩
  · have hl := h.lt
    obtain ⟨h1, v, h2, h3, h4⟩ := h
    exact .inr ⟨h1, v, (hb.block b hl).trans h2, own_below h3 hb (Nat.le_refl _), h4⟩

theorem u64_wrap64 (n : Int) : IntKind.u64.wrap (wrap64 n) = n % 18446744073709551616 := by
  rw [IntKind.wrap_u64]
  unfold wrap64
  omega
theorem zz_bits {v : Int} (h0 : -9223372036854775808 ≤ v) (h1 : v < 9223372036854775808) : bits .xor .u64 (IntKind.u64.wrap (wrap64 (v * 2))) (IntKind.u64.wrap (v / 9223372036854775808)) = (zz v : Nat) := by
  rw [u64_wrap64, IntKind.wrap_u64]
  by_cases hv : 0 ≤ v
  · have e1 : v * 2 % 18446744073709551616 = ((2 * v).toNat : Nat) := by omega
    have e2 : v / 9223372036854775808 % 18446744073709551616 = ((0 : Nat) : Int) := by omega
    rw [e1, e2, bits_xor_u64_nat _ _ (by omega) (by decide), Nat.xor_zero]
    simp [zz, hv]
  · have e1 : v * 2 % 18446744073709551616 = ((2 * v + 18446744073709551616).toNat : Nat) := by omega
    have e2 : v / 9223372036854775808 % 18446744073709551616 = ((2 ^ 64 - 1 : Nat) : Int) := by omega
    rw [e1, e2, bits_xor_u64_nat _ _ (by omega) (by decide), Nat.xor_comm, Lib.xor_ones64 _ (by omega)]
    unfold zz
    rw [if_neg hv]
    omega

end Go.Proofs.Ytalnndenncnbdaa
