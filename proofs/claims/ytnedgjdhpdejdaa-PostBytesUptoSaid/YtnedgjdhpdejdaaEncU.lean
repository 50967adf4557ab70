/- enc.Uint and enc.Int, walked. -/
import Derived.Test.YtnedgjdhpdejdaaEncP
import Derived.Test.YtnedgjdhpdejdaaBldr
import Derived.Lib.Zigzag
namespace Go.Proofs.Ytnedgjdhpdejdaa
set_option maxRecDepth 100000
open Go.RowKit Go.Shelf

theorem or128 (k : Nat) : bits .or .u8 ((k : Int) % 256) 128 = ((k % 128 + 128 : Nat) : Int) := by
  have e : (k : Int) % 256 = ((k % 256 : Nat) : Int) := by omega
  have hb := (bits_nat .u8 8 (by decide) wraps_u8 (k % 256) 128 (by omega) (by decide)).2
  have h : ∀ b : Fin 256, b.val ||| 128 = b.val % 128 + 128 := by decide
  have := h ⟨k % 256, by omega⟩
  simp only at this
  rw [e]
  refine hb.trans ?_
  rw [this]
  omega
theorem byteCells_one {b : Nat} (h : b < 256) : Lib.byteCells [UInt8.ofNat b] = [.int .u8 (b : Int)] := by
  simp [Lib.byteCells]; omega
theorem uintL_pre {pre l m : List UInt8} (h : pre ++ l = m) (h0 : 0 < l.length) : pre.length + 1 ≤ m.length := by
  rw [← h, List.length_append]; omega
theorem bld_new (w : World) : Lib.IsBuilder 59 5 w.heap.size w.heap.size (Lib.byteCells []) (w.alloc (.cells #[.pointer none, .slice none 0 0] 59)) :=
  .inl ⟨Nat.le_refl _, .slice none 0 0, Array.getElem?_push_size, World.ownsRow_nil _ _ _ _, by simp [Value.ownBlock]⟩

theorem bld_below {B b : Nat} {bs : List Value} {w w' : World} (h : Lib.IsBuilder 59 5 B b bs w) (hb : Below w.heap.size w w') : Lib.IsBuilder 59 5 B b bs w' := by
  rcases h with h | h
  · have hl := h.lt
    obtain ⟨h1, v, h2, h3, h4⟩ := h
    exact .inl ⟨h1, v, (hb.block b hl).trans h2, own_below h3 hb (Nat.le_refl _), h4⟩
  · have hl := h.lt
    obtain ⟨h1, v, h2, h3, h4⟩ := h
    exact .inr ⟨h1, v, (hb.block b hl).trans h2, own_below h3 hb (Nat.le_refl _), h4⟩

set_option maxHeartbeats 2000000 in
theorem uint_any (v : Nat) (w : World) (hv : v < 18446744073709551616) :
    Calls Try.prog 26 #[.int .u64 v] w fun e w' => e = .returned (.string ⟨(uintL v).toArray⟩) ∧ Below w.heap.size w w' := by
  go_enter Try.func26, Try.ntmps26
  go_wp2_with fail
  have hI : Lib.IsBuilder 59 5 w.heap.size w.heap.size (Lib.byteCells []) (w.alloc (.cells #[.pointer none, .slice none 0 0] 59)) := bld_new w
  have hB : Below w.heap.size w (w.alloc (.cells #[.pointer none, .slice none 0 0] 59)) := (Below.refl _ _).alloc (Nat.le_refl _) _
  generalize w.alloc (.cells #[.pointer none, .slice none 0 0] 59) = w1 at hI hB ⊢
  obtain ⟨g, hg⟩ : ∃ g, w.heap.size = g := ⟨_, rfl⟩
  rw [hg] at hI hB ⊢
  go_loopw [0] (fun x wr => ∃ (k : Nat) (pre : List UInt8), x = .int .u64 k ∧ k < 18446744073709551616 ∧ Lib.IsBuilder 59 5 g g (Lib.byteCells pre) wr ∧ Hid (pre ++ uintL k = uintL v) ∧ Below g w wr) (fun x _ => (intOf x).toNat)
  case atStart => exact ⟨v, [], rfl, hv, hI, hidden rfl, hB⟩
  case round =>
    obtain ⟨k, pre, rfl, hk, hb, hp, hbl⟩ := hrel
    by_cases hs : k < 128
    · have h1 : ¬ (127 : Int) < (k : Int) := by omega
      go_wp2_with fail
      have hpl := uintL_pre hp.out (by rw [uintL_small hs]; simp)
      refine (bldByte_any g g (Lib.byteCells pre) k wr hb (by rw [Lib.byteCells_length]; have := uintL_ten hv; omega) (by have := hbl.size; omega)).mono ?_
      rintro e w2 ⟨rfl, hb2, hbl2, _⟩
      have hby : Lib.byteCells pre ++ [.int .u8 (k : Int)] = Lib.byteCells (uintL v) := by rw [← hp.out, uintL_small hs, Lib.byteCells_append, byteCells_one (by omega)]
      rw [hby] at hb2
      go_wp2_with fail
      refine (bldString_any g g (uintL v) w2 (.inr hb2) (uintL_ne v)).mono ?_
      rintro e w3 ⟨rfl, hbl3⟩
      go_wp2_with fail
      go_ret
      subst hg; exact ⟨rfl, hbl.trans (hbl2.trans hbl3)⟩
    · have h1 : (127 : Int) < (k : Int) := by omega
      go_wp2_with fail
      have hor := or128 k
      have hpl := uintL_pre hp.out (List.length_pos_iff.2 (uintL_ne k))
      refine (bldByte_any g g (Lib.byteCells pre) _ wr hb (by rw [Lib.byteCells_length]; have := uintL_ten hv; omega) (by have := hbl.size; omega)).mono ?_
      rintro e w2 ⟨rfl, hb2, hbl2, _⟩
      rw [hor] at hb2
      have hby : Lib.byteCells pre ++ [.int .u8 ((k % 128 + 128 : Nat) : Int)] = Lib.byteCells (pre ++ [UInt8.ofNat (k % 128 + 128)]) := by rw [Lib.byteCells_append, byteCells_one (by omega)]
      rw [hby] at hb2
      have hp2 : Hid ((pre ++ [UInt8.ofNat (k % 128 + 128)]) ++ uintL (k / 128) = uintL v) := hidden (by rw [← hp.out, uintL_big hs, List.append_assoc]; rfl)
      have hbl4 := hbl.trans hbl2
      clear hb hbl hbl2 hor hpl hby hp
      go_wp2_with fail
      go_roundw
      case rel => exact ⟨k / 128, _, by go_num, by omega, .inr hb2, hp2, hbl4⟩
      case measure => simp [intOf]; omega

theorem u64_wrap64 (n : Int) : IntKind.u64.wrap (wrap64 n) = n % 18446744073709551616 := by
  rw [IntKind.wrap_u64]
  unfold wrap64
  omega
theorem zz_bits {v : Int} (h0 : -9223372036854775808 ≤ v) (h1 : v < 9223372036854775808) : bits .xor .u64 (IntKind.u64.wrap (wrap64 (v * 2))) (IntKind.u64.wrap (v / 9223372036854775808)) = (zz v : Nat) := by
  rw [u64_wrap64, IntKind.wrap_u64]
  by_cases hv : 0 ≤ v
  · have e1 : v * 2 % 18446744073709551616 = ((2 * v).toNat : Nat) := by omega
    have e2 : v / 9223372036854775808 % 18446744073709551616 = ((0 : Nat) : Int) := by omega
    rw [e1, e2, bits_xor_u64_nat _ _ (by omega) (by decide), Nat.xor_zero]
    simp [zz, hv]
  · have e1 : v * 2 % 18446744073709551616 = ((2 * v + 18446744073709551616).toNat : Nat) := by omega
    have e2 : v / 9223372036854775808 % 18446744073709551616 = ((2 ^ 64 - 1 : Nat) : Int) := by omega
    rw [e1, e2, bits_xor_u64_nat _ _ (by omega) (by decide), Nat.xor_comm, Lib.xor_ones64 _ (by omega)]
    unfold zz
    rw [if_neg hv]
    omega

end Go.Proofs.Ytnedgjdhpdejdaa
