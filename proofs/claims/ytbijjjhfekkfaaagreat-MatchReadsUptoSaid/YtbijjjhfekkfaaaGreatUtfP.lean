/- The characters of a text, plainly: bytes that no sign is among. No condition. -/
import Derived.Test.YtbijjjhfekkfaaaGreatBase
import Derived.Laws.RangeAny
import Derived.Lib.IndexLaws
namespace Go.Proofs.YtbijjjhfekkfaaaGreat
set_option maxRecDepth 100000

theorem get_list {s : ByteArray} {i : Nat} {c : UInt8} (h : s.data.toList[i]? = some c) : s.get! i = c := by
  have hi : i < s.size := (List.getElem?_eq_some_iff.1 h).1
  have h1 := get_at s i hi
  rw [Nat.add_zero] at h1
  rw [h1]
  have h2 := (List.getElem?_eq_some_iff.1 h).2
  exact h2
/-- what one character takes lies within the text, and none of its bytes is ASCII -/
theorem decode_inner (s : ByteArray) (pos : Nat) (h : pos < s.size) (ha : 128 ≤ (s[pos]'h).toNat) : pos + (Utf8.decode s pos).2 ≤ s.size ∧ ∀ j, pos ≤ j → j < pos + (Utf8.decode s pos).2 → ∀ c, s.data.toList[j]? = some c → 128 ≤ c.toNat := by
  have hn : ¬ (s[pos]'h).toNat < 128 := by omega
  have g0 := get_at s pos h
  rw [Nat.add_zero] at g0
  have key : ∀ d, 1 ≤ d → (∀ k, 1 ≤ k → k < d → pos + k < s.size ∧ 128 ≤ (s.get! (pos + k)).toNat) → pos + d ≤ s.size ∧ ∀ j, pos ≤ j → j < pos + d → ∀ c, s.data.toList[j]? = some c → 128 ≤ c.toNat := fun d hd hk => by
    refine ⟨?_, fun j h1 h2 c hc => ?_⟩
    · rcases Nat.lt_or_ge 1 d with h3 | h3
      · have := (hk (d - 1) (by omega) (by omega)).1; omega
      · omega
    · rw [← get_list hc]
      rcases Nat.eq_or_lt_of_le h1 with rfl | h3
      · rw [g0]; exact ha
      · have := (hk (j - pos) (by omega) (by omega)).2
        rwa [show pos + (j - pos) = j by omega] at this
  have hc : ∀ k, (decide (pos + k < s.size) && (s.get! (pos + k)).toNat / 64 == 2) = true → pos + k < s.size ∧ 128 ≤ (s.get! (pos + k)).toNat := fun k hk => by
    rw [Bool.and_eq_true, decide_eq_true_eq, beq_iff_eq] at hk
    exact ⟨hk.1, by omega⟩
  have one : ∀ k, 1 ≤ k → k < 1 → pos + k < s.size ∧ 128 ≤ (s.get! (pos + k)).toNat := fun k h1 h2 => by omega
  simp only [Utf8.decode, get_at s pos h, hn, if_false]
  split
  · rename_i h1
    rw [Bool.and_eq_true] at h1
    split
    · exact key 2 (by omega) fun k k1 k2 => by obtain rfl : k = 1 := by omega
                                               exact hc 1 h1.2
    · exact key 1 (by omega) one
  · split
    · rename_i h1
      rw [Bool.and_eq_true, Bool.and_eq_true] at h1
      split
      · exact key 3 (by omega) fun k k1 k2 => by
          rcases (show k = 1 ∨ k = 2 by omega) with rfl | rfl
          · exact hc 1 h1.1.2
          · exact hc 2 h1.2
      · exact key 1 (by omega) one
    · split
      · rename_i h1
        rw [Bool.and_eq_true, Bool.and_eq_true, Bool.and_eq_true] at h1
        split
        · exact key 4 (by omega) fun k k1 k2 => by
            rcases (show k = 1 ∨ k = 2 ∨ k = 3 by omega) with rfl | rfl | rfl
            · exact hc 1 h1.1.1.2
            · exact hc 2 h1.1.2
            · exact hc 3 h1.2
        · exact key 1 (by omega) one
      · exact key 1 (by omega) one
/-- a character beyond ASCII takes two bytes at least, and its last is not ASCII -/
theorem encode_high (r : Nat) (h : 128 ≤ r) (hv : Utf8.valid (r : Int) = true) : ∃ n c, (Utf8.encode (r : Int)).size = n + 1 ∧ 1 ≤ n ∧ n ≤ 3 ∧ (Utf8.encode (r : Int)).data.toList[n]? = some c ∧ 128 ≤ c.toNat := by
  have hlast : ∀ m : Nat, m < 64 → 128 ≤ (UInt8.ofNat (0x80 + m)).toNat := fun m hm => by
    show 128 ≤ (0x80 + m) % 256
    omega
  unfold Utf8.encode
  simp only [hv, if_true, Int.toNat_natCast]
  rw [if_neg (by omega)]
  split
  · exact ⟨1, _, rfl, by omega, by omega, rfl, hlast _ (Nat.mod_lt _ (by omega))⟩
  · split
    · exact ⟨2, _, rfl, by omega, by omega, rfl, hlast _ (Nat.mod_lt _ (by omega))⟩
    · exact ⟨3, _, rfl, by omega, by omega, rfl, hlast _ (Nat.mod_lt _ (by omega))⟩
end Go.Proofs.YtbijjjhfekkfaaaGreat
