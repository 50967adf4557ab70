/- enc.ReadUint and enc.ReadInt, walked. -/
import Derived.Test.YtnedgjdhpdejdaaReadP
namespace Go.Proofs.Ytnedgjdhpdejdaa
set_option maxRecDepth 100000
open Go.RowKit Go.Shelf

theorem byte_at {s : List UInt8} {i : Nat} {b : UInt8} (h : s[i]? = some b) : ∃ hh : i < (⟨s.toArray⟩ : ByteArray).size, (⟨s.toArray⟩ : ByteArray)[i]'hh = b := by
  obtain ⟨h1, h2⟩ := List.getElem?_eq_some_iff.1 h
  exact ⟨by simpa [ByteArray.size] using h1, h2⟩
theorem and127 (b : UInt8) : bits .and .u8 (b.toNat : Int) 127 = ((b.toNat % 128 : Nat) : Int) := by
  have hb := (bits_nat .u8 8 (by decide) wraps_u8 b.toNat 127 b.toNat_lt (by decide)).1
  have h : ∀ b : Fin 256, b.val &&& 127 = b.val % 128 := by decide
  have := h ⟨b.toNat, b.toNat_lt⟩
  simp only at this
  rw [this] at hb
  exact hb
theorem pow7 (k : Nat) : (2 : Nat) ^ (7 * k) = 128 ^ k := by rw [Nat.pow_mul]
theorem acc_step {k : Nat} {l : List UInt8} {b : UInt8} {X : Int} (hX : X = ((2 ^ (7 * k) : Nat) : Int)) (hb : l[k]? = some b) (hk : k ≤ 9) (h9 : k = 9 → b.toNat ≤ 1) :
    bits .or .u64 (valL (l.take k) : Int) (IntKind.u64.wrap (IntKind.u64.wrap (bits .and .u8 (b.toNat : Int) 127) * X)) = (valL (l.take (k + 1)) : Nat) := by
  have hlk := (List.getElem?_eq_some_iff.1 hb).1
  have hl : (l.take k).length = k := by rw [List.length_take]; omega
  have e : l.take (k + 1) = l.take k ++ [b] := take_snoc? hb
  have hlt : b.toNat % 128 * 128 ^ k < 18446744073709551616 := by
    by_cases h : k = 9
    · have := h9 h
      subst h
      have h9' : (128 : Nat) ^ 9 = 9223372036854775808 := by decide
      rw [h9']
      omega
    · have hp : (128 : Nat) ^ k ≤ 128 ^ 8 := Nat.pow_le_pow_right (by decide) (by omega)
      have h8 : (128 : Nat) ^ 8 = 72057594037927936 := by decide
      have : b.toNat % 128 * 128 ^ k ≤ 127 * 128 ^ 8 := Nat.mul_le_mul (by omega) hp
      omega
  have hv := valL_lt (l.take k)
  rw [hl] at hv
  have hv2 := valL_fit (l := l.take k) (Nat.le_of_eq hl) hk
  rw [e, valL_snoc, hl, hX, and127, IntKind.wrap_u64, IntKind.wrap_u64, pow7]
  have e1 : ((b.toNat % 128 : Nat) : Int) % 18446744073709551616 = ((b.toNat % 128 : Nat) : Int) := by omega
  have e2 : ((b.toNat % 128 : Nat) : Int) * ((128 ^ k : Nat) : Int) = ((b.toNat % 128 * 128 ^ k : Nat) : Int) := by rw [← Int.natCast_mul]
  have e3 : ((b.toNat % 128 * 128 ^ k : Nat) : Int) % 18446744073709551616 = ((b.toNat % 128 * 128 ^ k : Nat) : Int) := by omega
  rw [e1, e2, e3, bits_or_u64_nat _ _ (by omega) hlt]
  congr 1
  rw [Nat.or_comm, Nat.mul_comm, ← pow7]
  rw [← pow7] at hv
  rw [← Nat.two_pow_add_eq_or_of_lt hv, Nat.add_comm]

set_option maxHeartbeats 2000000 in
theorem readUint_any (s : List UInt8) (a : Int) (w : World) (hs : s.length < 9223372036854775000) (ha : -9223372036854775808 ≤ a) (ha2 : a < 9223372036854775808) :
    Calls Try.prog 29 #[.string ⟨s.toArray⟩, .int .i64 a] w fun e w' => e = .returned (.tuple #[.int .u64 (readU s a).1, .int .i64 (readU s a).2.1, .int .i64 (readU s a).2.2]) ∧ Below w.heap.size w w' := by
  have hsz : (⟨s.toArray⟩ : ByteArray).size = s.length := by simp [ByteArray.size]
  by_cases hr : a < 0 ∨ (s.length : Int) ≤ a
  · rw [readU_out hr]
    go_enter Try.func29, Try.ntmps29
    rcases hr with hr | hr
    · go_wp2_with fail
      go_ret3
      exact ⟨rfl, Below.refl _ _⟩
    · by_cases h0 : a < 0
      · go_wp2_with fail
        go_ret3
        exact ⟨rfl, Below.refl _ _⟩
      · go_wp2_with fail
        go_ret3
        exact ⟨rfl, Below.refl _ _⟩
  · have h0 : ¬ a < 0 := fun h => hr (.inl h)
    have h1 : ¬ (s.length : Int) ≤ a := fun h => hr (.inr h)
    have h3 : (0 : Int) ≤ a := by omega
    go_enter Try.func29, Try.ntmps29
    go_wp2_with fail
    go_loopw [7, 18] (fun acc i wr => ∃ (k : Nat), i = .int .i64 k ∧ k ≤ 9 ∧ acc = .int .u64 (valL ((s.drop a.toNat).take k)) ∧ goesOn k (s.drop a.toNat) ∧ a + k ≤ s.length ∧ Below w.heap.size w wr) (fun _ i _ => 10 - (intOf i).toNat)
    case atStart => exact ⟨0, rfl, by omega, rfl, goesOn_zero _, by omega, Below.refl _ _⟩
    case round =>
      obtain ⟨k, rfl, hk, rfl, hg, hle, hb⟩ := hrel
      have k10 : (k : Int) < 10 := by omega
      by_cases he : a + k = s.length
      · have hR := hidden (readU_short h3 (by omega) hg he hk)
        go_wp2_with fail
        go_ret3
        rw [hR.out]
        exact ⟨rfl, hb⟩
      · obtain ⟨b, hB⟩ : ∃ b, s[(a + k).toNat]? = some b := ⟨_, List.getElem?_eq_getElem (by omega)⟩
        have hD := (rdrop_at (s := s) (k := k) h3).trans hB
        have hkn : k < (s.drop a.toNat).length := (List.getElem?_eq_some_iff.1 hD).1
        rw [List.length_drop] at hkn
        have hbl := b.toNat_lt
        obtain ⟨hh, hE⟩ := byte_at hB
        by_cases hbad : (k = 9 ∧ 1 < b.toNat) ∨ (0 < k ∧ b.toNat = 0)
        · have hR := hidden (readU_bad h3 hg hD hk hbad)
          by_cases h9 : k = 9
          · subst h9
            have hE9 : (⟨s.toArray⟩ : ByteArray)[(a + 9).toNat]'hh = b := hE
            by_cases hb1 : 1 < b.toNat
            · have hbI : (1 : Int) < b.toNat := by omega
              go_wp2_with fail
              go_ret3
              rw [hR.out]
              exact ⟨rfl, hb⟩
            · have hbI : ¬ (1 : Int) < b.toNat := by omega
              have hzI : (b.toNat : Int) = 0 := by omega
              go_wp2_with fail
              go_ret3
              rw [hR.out]
              exact ⟨rfl, hb⟩
          · have h9i : ¬ (k : Int) = 9 := by omega
            have hk0i : (0 : Int) < k := by omega
            have hzI : (b.toNat : Int) = 0 := by omega
            go_wp2_with fail
            go_ret3
            rw [hR.out]
            exact ⟨rfl, hb⟩
        · by_cases h9 : k = 9
          · subst h9
            have hE9 : (⟨s.toArray⟩ : ByteArray)[(a + 9).toNat]'hh = b := hE
            have hbI : ¬ (1 : Int) < b.toNat := by omega
            have hzI : ¬ (b.toNat : Int) = 0 := by omega
            have hlI : (b.toNat : Int) < 128 := by omega
            have hR := hidden (readU_stop h3 hg hD (by omega) hk (by omega) (by omega))
            have hA := hidden (acc_step (X := 9223372036854775808) (by decide) hD hk (fun _ => by omega))
            go_wp2_with fail
            go_ret3
            rw [hR.out, ← hA.out]
            exact ⟨rfl, hb⟩
          · have h9i : ¬ (k : Int) = 9 := by omega
            by_cases hk0 : k = 0
            · subst hk0
              have hE0 : (⟨s.toArray⟩ : ByteArray)[(a + 0).toNat]'hh = b := hE
              have hE1 : (⟨s.toArray⟩ : ByteArray)[a.toNat]'(by simpa using hh) = b := by simpa using hE0
              clear hE hE0
              have hA := hidden (acc_step (X := 1) (by decide) hD hk (fun h => absurd h h9))
              by_cases hl : b.toNat < 128
              · have hR := hidden (readU_stop h3 hg hD (by omega) hk (by omega) (by omega))
                have hlI : (b.toNat : Int) < 128 := by omega
                go_wp2_with fail
                go_ret3
                rw [hR.out, ← hA.out]
                refine ⟨?_, hb⟩
                simp
              · have hlI : ¬ (b.toNat : Int) < 128 := by omega
                go_wp2_with fail
                refine ⟨⟨1, rfl, by omega, ?_, goesOn_succ hg hD (by omega), by omega, hb⟩, by simp [intOf]⟩
                rw [← hA.out]
                simp
            · have hk0i : (0 : Int) < k := by omega
              have hzI : ¬ (b.toNat : Int) = 0 := by omega
              have hA := hidden (acc_step (X := 2 ^ (7 * k)) (by simp) hD hk (fun h => absurd h h9))
              by_cases hl : b.toNat < 128
              · have hR := hidden (readU_stop h3 hg hD (by omega) hk (by omega) (by omega))
                have hlI : (b.toNat : Int) < 128 := by omega
                go_wp2_with fail
                go_ret3
                rw [hR.out, ← hA.out]
                exact ⟨rfl, hb⟩
              · have hlI : ¬ (b.toNat : Int) < 128 := by omega
                go_wp2_with fail
                refine ⟨⟨k + 1, rfl, by omega, congrArg (Value.int .u64) hA.out, goesOn_succ hg hD (by omega), by omega, hb⟩, ?_⟩
                simp [intOf]; omega
end Go.Proofs.Ytnedgjdhpdejdaa
