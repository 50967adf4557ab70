/- The reference's Unquote. Condition: the text is not too long. A number that is read, plainly: by how many bytes of the kind that goes on stand ahead. No program. enc.ReadUint and enc.ReadInt, walked. enc.ReadInt, walked. The reference's Uint, Int, ReadUint and ReadInt, walked. Texts with their length ahead, written and read: enc.Text, enc.ReadText and the reference's. Condition: the text is within the reach. slices.IndexFunc and slices.ContainsFunc at labels, whatever predicate: what they return. Condition: the predicate has a contract, the row is within the reach. -/
import Derived.Test.YthncochjhbmceaaGreatPk69198d5e
import Derived.Test.YthncochjhbmceaaGreatPk3fc1764a
import Derived.Deep.QuietTactic
import Derived.BigQuiet
import Derived.Lib.Zigzag
import Derived.Test.YthncochjhbmceaaGreatPkb5fb2d9c
import Derived.Test.YthncochjhbmceaaGreatPk8f29ada1
namespace Go.Proofs.YthncochjhbmceaaGreat
set_option maxRecDepth 100000
open Go.RowKit

/-- the value whose quotation stands at k, and the place behind it -/
def unqO (s : ByteArray) (k : Nat) : Option (List UInt8 × Nat) := if s.data.toList[k]? = some 34 then (parQ (s.data.toList.drop (k + 1))).map fun p => (p.1, k + 1 + p.2) else none
/-- what the reference answers -/
def unqR (s : ByteArray) (k : Nat) : ByteArray × Int := match unqO s k with
  | some (v, n) => (⟨v.toArray⟩, (n : Nat))
  | none => (⟨#[]⟩, -1)

theorem drop_at? {l : List UInt8} {j : Nat} {b : UInt8} (h : l[j]? = some b) : l.drop j = b :: l.drop (j + 1) := by
  obtain ⟨h1, h2⟩ := List.getElem?_eq_some_iff.1 h
  rw [List.drop_eq_getElem_cons h1, h2]
theorem parQ_mark {l : List UInt8} {j : Nat} {b : UInt8} (h : l[j]? = some b) (hb : b.toNat = 34) : parQ (l.drop j) = some ([], 1) := by
  rw [drop_at? h, parQ_cons, if_pos hb]
theorem parQ_out {l : List UInt8} {j : Nat} {b : UInt8} (h : l[j]? = some b) (hn : b.toNat ≠ 34) (hb : b.toNat < 32 ∨ 126 < b.toNat) : parQ (l.drop j) = none := by
  rw [drop_at? h, parQ_cons, if_neg hn, if_pos hb]
theorem parQ_one {l : List UInt8} {j : Nat} {b : UInt8} (h : l[j]? = some b) (hn : b.toNat ≠ 34) (hb : ¬ (b.toNat < 32 ∨ 126 < b.toNat)) (h92 : b.toNat ≠ 92) : parQ (l.drop j) = (parQ (l.drop (j + 1))).map fun p => (b :: p.1, p.2 + 1) := by
  rw [drop_at? h, parQ_cons, if_neg hn, if_neg hb, if_pos h92]
theorem parQ_esc {l : List UInt8} {j : Nat} {b c : UInt8} (h : l[j]? = some b) (h92 : b.toNat = 92) (hc : l[j + 1]? = some c) (hh : c.toNat = 34 ∨ c.toNat = 92) : parQ (l.drop j) = (parQ (l.drop (j + 2))).map fun p => (c :: p.1, p.2 + 2) := by
  rw [drop_at? h, parQ_cons, if_neg (by omega), if_neg (by omega), if_neg (by omega), drop_at? hc]
  dsimp only
  rw [if_pos hh]
theorem parQ_short0 {l : List UInt8} {j : Nat} {b : UInt8} (h : l[j]? = some b) (h92 : b.toNat = 92) (hl : l.length ≤ j + 1) : parQ (l.drop j) = none := by
  rw [drop_at? h, parQ_cons, if_neg (by omega), if_neg (by omega), if_neg (by omega), List.drop_of_length_le hl]
theorem parQ_short {l : List UInt8} {j : Nat} {b c : UInt8} (h : l[j]? = some b) (h92 : b.toNat = 92) (hc : l[j + 1]? = some c) (hh : ¬ (c.toNat = 34 ∨ c.toNat = 92)) (hl : l.length ≤ j + 3) : parQ (l.drop j) = none := by
  rw [drop_at? h, parQ_cons, if_neg (by omega), if_neg (by omega), if_neg (by omega), drop_at? hc]
  dsimp only
  rw [if_neg hh]
  have : (l.drop (j + 1 + 1)).length ≤ 1 := by rw [List.length_drop]; omega
  match hr : l.drop (j + 1 + 1), this with
  | [], _ => rfl
  | [_], _ => rfl
theorem parQ_four {l : List UInt8} {j : Nat} {b c x y : UInt8} (h : l[j]? = some b) (h92 : b.toNat = 92) (hc : l[j + 1]? = some c) (hh : ¬ (c.toNat = 34 ∨ c.toNat = 92)) (hx : l[j + 2]? = some x) (hy : l[j + 3]? = some y) :
    parQ (l.drop j) = if c.toNat ≠ 120 then none else if hexV x < 16 ∧ hexV y < 16 ∧ ¬ (32 ≤ hexV x * 16 + hexV y ∧ hexV x * 16 + hexV y ≤ 126) then (parQ (l.drop (j + 4))).map fun p => (UInt8.ofNat (hexV x * 16 + hexV y) :: p.1, p.2 + 4) else none := by
  rw [drop_at? h, parQ_cons, if_neg (by omega), if_neg (by omega), if_neg (by omega), drop_at? hc]
  dsimp only
  rw [if_neg hh, show j + 1 + 1 = j + 2 from rfl, drop_at? hx, show j + 2 + 1 = j + 3 from rfl, drop_at? hy]
/-- what is read of a quotation: the bytes acc, up to the place j -/
def RelQ (s : ByteArray) (k j : Nat) (acc : List UInt8) : Prop := parQ (s.data.toList.drop (k + 1)) = (parQ (s.data.toList.drop j)).map fun p => (acc ++ p.1, (j - (k + 1)) + p.2)
theorem relQ_start (s : ByteArray) (k : Nat) : RelQ s k (k + 1) [] := by
  unfold RelQ
  cases parQ (s.data.toList.drop (k + 1)) <;> simp
theorem relQ_none {s : ByteArray} {k j : Nat} {acc : List UInt8} (h : RelQ s k j acc) (hn : parQ (s.data.toList.drop j) = none) : parQ (s.data.toList.drop (k + 1)) = none := by rw [h, hn]; rfl
theorem relQ_step {s : ByteArray} {k j d : Nat} {acc : List UInt8} {x : UInt8} (h : RelQ s k j acc) (hj : k + 1 ≤ j) (hp : parQ (s.data.toList.drop j) = (parQ (s.data.toList.drop (j + d))).map fun p => (x :: p.1, p.2 + d)) : RelQ s k (j + d) (acc ++ [x]) := by
  unfold RelQ at h ⊢
  rw [h, hp]
  cases parQ (s.data.toList.drop (j + d)) with
  | none => rfl
  | some p => simp; omega
theorem relQ_done {s : ByteArray} {k j : Nat} {acc : List UInt8} (h : RelQ s k j acc) (hp : parQ (s.data.toList.drop j) = some ([], 1)) : parQ (s.data.toList.drop (k + 1)) = some (acc, j - (k + 1) + 1) := by
  unfold RelQ at h
  rw [h, hp]; simp
theorem unqR_no {s : ByteArray} {k : Nat} (h : unqO s k = none) : unqR s k = (⟨#[]⟩, -1) := by rw [unqR, h]
theorem unqR_none {s : ByteArray} {k j : Nat} {acc : List UInt8} (h : RelQ s k j acc) (hn : parQ (s.data.toList.drop j) = none) : unqR s k = (⟨#[]⟩, -1) := unqR_no (by
  rw [unqO, relQ_none h hn]; simp)
theorem unqR_done {s : ByteArray} {k j : Nat} {acc : List UInt8} (h : RelQ s k j acc) (hj : k + 1 ≤ j) (h34 : s.data.toList[k]? = some 34) (hp : parQ (s.data.toList.drop j) = some ([], 1)) : unqR s k = (⟨acc.toArray⟩, ((j + 1 : Nat) : Int)) := by
  have : unqO s k = some (acc, j + 1) := by rw [unqO, if_pos h34, relQ_done h hp, Option.map_some]; simp; omega
  rw [unqR, this]
theorem hexV_le (b : UInt8) : hexV b ≤ 16 := by
  unfold hexV
  split
  · omega
  · split <;> omega
theorem bytes_back0 {w : World} {v : Value} {B n : Nat} {l : List UInt8} (h : w.ownsRow B 5 1 v n (Lib.byteCells l)) (hl : l.length = n) :
    (convert 176 9 v).run Tryz.prog w = .ok (.string ⟨l.toArray⟩) w := by
  by_cases h0 : l = []
  · subst h0
    rcases h.2 with ⟨rfl, _⟩ | ⟨g, cap, cur, rfl, _⟩
    · exact run_convert_bytes_nil w 176 5 Tryz.underlying176 Tryz.underlying5 0 0 9 Tryz.underlying9
    · subst hl
      exact run_convert_bytes_back w 176 9 5 ⟨g, 0, none⟩ cap [] Tryz.underlying176 Tryz.underlying5 Tryz.underlying9 fun j hj => absurd hj (by simp)
  · exact bytes_back h hl h0

end Go.Proofs.YthncochjhbmceaaGreat

namespace Go.Proofs.YthncochjhbmceaaGreat
set_option maxRecDepth 100000

/-- the value of bytes, the lowest seven bits first -/
def valL : List UInt8 → Nat
  | [] => 0
  | b :: l => b.toNat % 128 + 128 * valL l
theorem valL_lt (l : List UInt8) : valL l < 128 ^ l.length := by
  induction l with
  | nil => simp [valL]
  | cons b l ih =>
    simp only [valL, List.length_cons, Nat.pow_succ]
    omega
theorem valL_snoc (l : List UInt8) (b : UInt8) : valL (l ++ [b]) = valL l + b.toNat % 128 * 128 ^ l.length := by
  induction l with
  | nil => simp [valL]
  | cons x l ih =>
    have : b.toNat % 128 * 128 ^ (l.length + 1) = 128 * (b.toNat % 128 * 128 ^ l.length) := by rw [Nat.pow_succ]; ac_rfl
    simp only [List.cons_append, valL, List.length_cons, ih, this]
    omega
/-- the first k bytes go on -/
def goesOn (k : Nat) (l : List UInt8) : Prop := ∀ j b, j < k → l[j]? = some b → 128 ≤ b.toNat
theorem goesOn_zero (l : List UInt8) : goesOn 0 l := fun _ _ h _ => absurd h (Nat.not_lt_zero _)
theorem goesOn_succ {k : Nat} {l : List UInt8} {b : UInt8} (h : goesOn k l) (hb : l[k]? = some b) (h2 : 128 ≤ b.toNat) : goesOn (k + 1) l := fun j c hj hc => by
  by_cases e : j = k
  · subst e; rw [hb] at hc; cases hc; exact h2
  · exact h j c (by omega) hc
theorem goesOn_tail {k : Nat} {l : List UInt8} {b : UInt8} (h : goesOn (k + 1) (b :: l)) : goesOn k l := fun j c hj hc => h (j + 1) c (by omega) (by simpa using hc)
theorem ruL_stop (i : Nat) (l : List UInt8) : ∀ (k : Nat) (b : UInt8), goesOn k l → l[k]? = some b → b.toNat < 128 → i + k ≤ 9 → ¬ (i + k = 9 ∧ 1 < b.toNat) → ¬ (0 < i + k ∧ b.toNat = 0) → ruL i l = (valL (l.take (k + 1)), k + 1, 0) := by
  induction l generalizing i with
  | nil => intro k b _ h; simp at h
  | cons x l ih =>
    intro k b hg hb hlt hk h1 h2
    rw [ruL_cons]
    match k with
    | 0 =>
      simp only [List.getElem?_cons_zero, Option.some.injEq] at hb
      subst hb
      rw [if_neg (by omega), if_pos hlt]
      simp [valL]; omega
    | k + 1 =>
      have hx := hg 0 x (by omega) rfl
      rw [if_neg (by omega), if_neg (by omega)]
      have := ih (i + 1) k b (goesOn_tail hg) (by simpa using hb) hlt (by omega) (by omega) (by omega)
      rw [this]
      simp only [if_true, List.take_succ_cons, valL]
      rw [Nat.mul_comm, Nat.add_comm]
theorem ruL_short (i : Nat) (l : List UInt8) : goesOn l.length l → i + l.length ≤ 9 → ruL i l = (0, 0, 20) := by
  induction l generalizing i with
  | nil => intro _ _; rfl
  | cons x l ih =>
    intro hg hk
    simp only [List.length_cons] at hg hk
    have hx := hg 0 x (by omega) rfl
    rw [ruL_cons, if_neg (by omega), if_neg (by omega), ih (i + 1) (goesOn_tail hg) (by omega)]
    rfl
theorem ruL_bad (i : Nat) (l : List UInt8) : ∀ (k : Nat) (b : UInt8), goesOn k l → l[k]? = some b → i + k ≤ 9 → (i + k = 9 ∧ 1 < b.toNat) ∨ (0 < i + k ∧ b.toNat = 0) → ruL i l = (0, 0, 21) := by
  induction l generalizing i with
  | nil => intro k b _ h; simp at h
  | cons x l ih =>
    intro k b hg hb hk h1
    rw [ruL_cons]
    match k with
    | 0 =>
      simp only [List.getElem?_cons_zero, Option.some.injEq] at hb
      subst hb
      rw [if_pos (by omega)]
    | k + 1 =>
      have hx := hg 0 x (by omega) rfl
      rw [if_neg (by omega), if_neg (by omega)]
      have := ih (i + 1) k b (goesOn_tail hg) (by simpa using hb) (by omega) (by omega)
      rw [this]
      rfl
/-- what is read at a place: by the bytes behind it -/
theorem readU_out {s : List UInt8} {a : Int} (h : a < 0 ∨ (s.length : Int) ≤ a) : readU s a = (0, 0, 20) := by
  unfold readU; rw [if_pos h]
theorem readU_stop {s : List UInt8} {a : Int} {k : Nat} {b : UInt8} (h0 : 0 ≤ a) (hg : goesOn k (s.drop a.toNat)) (hb : (s.drop a.toNat)[k]? = some b) (hlt : b.toNat < 128) (hk : k ≤ 9) (h1 : ¬ (k = 9 ∧ 1 < b.toNat)) (h2 : ¬ (0 < k ∧ b.toNat = 0)) : readU s a = (valL ((s.drop a.toNat).take (k + 1)), a + k + 1, 0) := by
  have hl : a.toNat < s.length := by
    have := List.getElem?_eq_some_iff.1 hb
    obtain ⟨h, _⟩ := this
    rw [List.length_drop] at h; omega
  have := ruL_stop 0 (s.drop a.toNat) k b hg hb hlt (by omega) (by omega) (by omega)
  unfold readU
  rw [if_neg (by omega), this]
  simp only [if_true]
  congr 2
  omega
theorem readU_short {s : List UInt8} {a : Int} (h0 : 0 ≤ a) (hl : a < s.length) {k : Nat} (hg : goesOn k (s.drop a.toNat)) (hk : a + k = s.length) (h9 : k ≤ 9) : readU s a = (0, 0, 20) := by
  have e : (s.drop a.toNat).length = k := by rw [List.length_drop]; omega
  have := ruL_short 0 (s.drop a.toNat) (by rw [e]; exact hg) (by omega)
  unfold readU
  rw [if_neg (by omega), this]
  rfl
theorem readU_bad {s : List UInt8} {a : Int} {k : Nat} {b : UInt8} (h0 : 0 ≤ a) (hg : goesOn k (s.drop a.toNat)) (hb : (s.drop a.toNat)[k]? = some b) (hk : k ≤ 9) (h1 : (k = 9 ∧ 1 < b.toNat) ∨ (0 < k ∧ b.toNat = 0)) : readU s a = (0, 0, 21) := by
  have hl : a.toNat < s.length := by
    have := List.getElem?_eq_some_iff.1 hb
    obtain ⟨h, _⟩ := this
    rw [List.length_drop] at h; omega
  have := ruL_bad 0 (s.drop a.toNat) k b hg hb (by omega) (by omega)
  unfold readU
  rw [if_neg (by omega), this]
  rfl
theorem valL_fit {l : List UInt8} {k : Nat} (hl : l.length ≤ k) (hk : k ≤ 9) : valL l < 9223372036854775808 := by
  have h := valL_lt l
  have h1 : (128 : Nat) ^ l.length ≤ 128 ^ 9 := Nat.pow_le_pow_right (by decide) (by omega)
  have h9 : (128 : Nat) ^ 9 = 9223372036854775808 := by decide
  omega
/-- the place of a byte -/
theorem rdrop_at {s : List UInt8} {a : Int} {k : Nat} (h0 : 0 ≤ a) : (s.drop a.toNat)[k]? = s[(a + k).toNat]? := by
  rw [List.getElem?_drop]
  congr 1
  omega
end Go.Proofs.YthncochjhbmceaaGreat

namespace Go.Proofs.YthncochjhbmceaaGreat
set_option maxRecDepth 100000
open Go.RowKit Go.Shelf

theorem byte_at {s : List UInt8} {i : Nat} {b : UInt8} (h : s[i]? = some b) : ∃ hh : i < (⟨s.toArray⟩ : ByteArray).size, (⟨s.toArray⟩ : ByteArray)[i]'hh = b := by
  obtain ⟨h1, h2⟩ := List.getElem?_eq_some_iff.1 h
  exact ⟨by simpa [ByteArray.size] using h1, h2⟩
theorem and127 (b : UInt8) : bits .and .u8 (b.toNat : Int) 127 = ((b.toNat % 128 : Nat) : Int) := by
  have hb := (bits_nat .u8 8 (by decide) wraps_u8 b.toNat 127 b.toNat_lt (by decide)).1
  have h : ∀ b : Fin 256, b.val &&& 127 = b.val % 128 := by decide
  have := h ⟨b.toNat, b.toNat_lt⟩
  simp only at this
  rw [this] at hb
  exact hb
theorem pow7 (k : Nat) : (2 : Nat) ^ (7 * k) = 128 ^ k := by rw [Nat.pow_mul]
theorem acc_step {k : Nat} {l : List UInt8} {b : UInt8} {X : Int} (hX : X = ((2 ^ (7 * k) : Nat) : Int)) (hb : l[k]? = some b) (hk : k ≤ 9) (h9 : k = 9 → b.toNat ≤ 1) :
    bits .or .u64 (valL (l.take k) : Int) (IntKind.u64.wrap (IntKind.u64.wrap (bits .and .u8 (b.toNat : Int) 127) * X)) = (valL (l.take (k + 1)) : Nat) := by
  have hlk := (List.getElem?_eq_some_iff.1 hb).1
  have hl : (l.take k).length = k := by rw [List.length_take]; omega
  have e : l.take (k + 1) = l.take k ++ [b] := take_snoc? hb
  have hlt : b.toNat % 128 * 128 ^ k < 18446744073709551616 := by
    by_cases h : k = 9
    · have := h9 h
      subst h
      have h9' : (128 : Nat) ^ 9 = 9223372036854775808 := by decide
      rw [h9']
      omega
    · have hp : (128 : Nat) ^ k ≤ 128 ^ 8 := Nat.pow_le_pow_right (by decide) (by omega)
      have h8 : (128 : Nat) ^ 8 = 72057594037927936 := by decide
      have : b.toNat % 128 * 128 ^ k ≤ 127 * 128 ^ 8 := Nat.mul_le_mul (by omega) hp
      omega
  have hv := valL_lt (l.take k)
  rw [hl] at hv
  have hv2 := valL_fit (l := l.take k) (Nat.le_of_eq hl) hk
  rw [e, valL_snoc, hl, hX, and127, IntKind.wrap_u64, IntKind.wrap_u64, pow7]
  have e1 : ((b.toNat % 128 : Nat) : Int) % 18446744073709551616 = ((b.toNat % 128 : Nat) : Int) := by omega
  have e2 : ((b.toNat % 128 : Nat) : Int) * ((128 ^ k : Nat) : Int) = ((b.toNat % 128 * 128 ^ k : Nat) : Int) := by rw [← Int.natCast_mul]
  have e3 : ((b.toNat % 128 * 128 ^ k : Nat) : Int) % 18446744073709551616 = ((b.toNat % 128 * 128 ^ k : Nat) : Int) := by omega
  rw [e1, e2, e3, bits_or_u64_nat _ _ (by omega) hlt]
  congr 1
  rw [Nat.or_comm, Nat.mul_comm, ← pow7]
  rw [← pow7] at hv
  rw [← Nat.two_pow_add_eq_or_of_lt hv, Nat.add_comm]

end Go.Proofs.YthncochjhbmceaaGreat

namespace Go.Proofs.YthncochjhbmceaaGreat
set_option maxRecDepth 100000
open Go.RowKit Go.Shelf

theorem readU_lt (s : List UInt8) (a : Int) : (readU s a).1 < 18446744073709551616 := by
  rcases readU_err s a with h | h | h
  · exact (readU_ok (v := (readU s a).1) (n := (readU s a).2.1) (by rw [← h])).2.2.2.1
  · rw [h]; decide
  · rw [h]; decide

theorem unzz_bits {v : Nat} (h : v < 18446744073709551616) : bits .xor .i64 ((v : Int) / 2) (wrap64 (-wrap64 (bits .and .u64 (v : Int) 1))) = unzz v := by
  rw [Lib.u64_and1 v (by omega) (by omega)]
  have e2 : (v : Int) / 2 = ((v / 2 : Nat) : Int) := by omega
  have hl : v / 2 < 9223372036854775808 := by omega
  have hm : (BitVec.ofInt 64 ((v / 2 : Nat) : Int)).toNat = v / 2 := by
    rw [BitVec.ofInt_natCast, BitVec.toNat_ofNat]; exact Nat.mod_eq_of_lt (by omega)
  by_cases hp : v % 2 = 0
  · have e1 : wrap64 (-wrap64 ((v : Int) % 2)) = 0 := by
      have : (v : Int) % 2 = 0 := by omega
      rw [this]; unfold wrap64; omega
    rw [e1, e2]
    show IntKind.i64.wrap ((BitVec.ofInt 64 ((v / 2 : Nat) : Int) ^^^ BitVec.ofInt 64 0).toNat : Int) = _
    rw [BitVec.toNat_xor, hm]
    have : (BitVec.ofInt 64 0).toNat = 0 := by decide
    rw [this, Nat.xor_zero, IntKind.wrap_i64]
    unfold unzz
    rw [if_pos hp]
    omega
  · have e1 : wrap64 (-wrap64 ((v : Int) % 2)) = -1 := by
      have : (v : Int) % 2 = 1 := by omega
      rw [this]; unfold wrap64; omega
    rw [e1, e2]
    show IntKind.i64.wrap ((BitVec.ofInt 64 ((v / 2 : Nat) : Int) ^^^ BitVec.ofInt 64 (-1)).toNat : Int) = _
    have h1 : (BitVec.ofInt 64 (-1)).toNat = 2 ^ 64 - 1 := by decide
    rw [BitVec.toNat_xor, hm, h1, Nat.xor_comm, Lib.xor_ones64 _ (by omega), IntKind.wrap_i64]
    unfold unzz
    rw [if_neg hp]
    omega

end Go.Proofs.YthncochjhbmceaaGreat

namespace Go.Proofs.YthncochjhbmceaaGreat
set_option maxRecDepth 100000
open Go.RowKit Go.Shelf

theorem valL_drop_le (l : List UInt8) (m : Nat) : valL (l.drop m) ≤ valL l := by
  induction l generalizing m with
  | nil => simp
  | cons b l ih =>
    match m with
    | 0 => exact Nat.le_refl _
    | m + 1 =>
      have := ih m
      simp only [List.drop_succ_cons, valL]
      omega
theorem rd_byte {s : List UInt8} {a : Int} {k m : Nat} (h0 : 0 ≤ a) (hm : m ≤ k) (hk : k < s.length - a.toNat) : ∃ c, s[(a + ((m : Int) + 1)).toNat - 1]? = some c ∧ ((s.drop a.toNat).take (k + 1))[m]? = some c := by
  refine ⟨s[(a + ((m : Int) + 1)).toNat - 1]'(by omega), List.getElem?_eq_getElem (by omega), ?_⟩
  rw [List.getElem?_take_of_lt (by omega), List.getElem?_drop, List.getElem?_eq_getElem (by omega)]
  congr 2
  omega
theorem rd_step {T : List UInt8} {m : Nat} {c : UInt8} (hc : T[m]? = some c) (h : valL T < 18446744073709551616) :
    IntKind.u64.wrap (IntKind.u64.wrap ((valL (T.drop (m + 1)) : Int) * 128) + (c.toNat : Int) % 128) = (valL (T.drop m) : Nat) := by
  have hl := (List.getElem?_eq_some_iff.1 hc).1
  have e : T.drop m = c :: T.drop (m + 1) := by
    rw [List.drop_eq_getElem_cons hl]
    congr 1
    exact (List.getElem?_eq_some_iff.1 hc).2
  have hd := valL_drop_le T m
  rw [e] at hd ⊢
  simp only [valL] at hd ⊢
  rw [IntKind.wrap_u64, IntKind.wrap_u64]
  omega

end Go.Proofs.YthncochjhbmceaaGreat

namespace Go.Proofs.YthncochjhbmceaaGreat
set_option maxRecDepth 100000
open Go.RowKit

/-- a text, its length ahead -/
def textL (v : ByteArray) : List UInt8 := uintL v.size ++ v.data.toList
/-- a text read: what it is, the place behind it, the error -/
def readT (s : List UInt8) (a : Int) : ByteArray × Int × Int :=
  if (readU s a).2.2 = 0 then
    if (s.length : Int) - (readU s a).2.1 < (readU s a).1 then (⟨#[]⟩, 0, 20)
    else ((⟨s.toArray⟩ : ByteArray).extract (readU s a).2.1.toNat ((readU s a).2.1.toNat + (readU s a).1), (readU s a).2.1 + (readU s a).1, 0)
  else (⟨#[]⟩, 0, (readU s a).2.2)
section
variable {s : List UInt8} {a b e : Int} {n : Nat}
theorem readT_e (h : readU s a = (n, b, e)) (he : e ≠ 0) : readT s a = (⟨#[]⟩, 0, e) := by
  rw [readT, h]; exact if_neg he
theorem readT_short (h : readU s a = (n, b, 0)) (hl : (s.length : Int) - b < n) : readT s a = (⟨#[]⟩, 0, 20) := by
  rw [readT, h]; simp only [if_true]; exact if_pos hl
theorem readT_ok (h : readU s a = (n, b, 0)) (hl : ¬ (s.length : Int) - b < n) : readT s a = ((⟨s.toArray⟩ : ByteArray).extract b.toNat (b.toNat + n), b + n, 0) := by
  rw [readT, h]; simp only [if_true]; exact if_neg hl
end
theorem text_join (v : ByteArray) : (⟨(uintL v.size).toArray⟩ : ByteArray) ++ v = ⟨(textL v).toArray⟩ := bytes_eq (by simp [textL])
theorem uintB_size {n : Nat} (h : n < 18446744073709551616) : (⟨(uintL n).toArray⟩ : ByteArray).size ≤ 10 := by
  have := uintL_ten h
  have e : (⟨(uintL n).toArray⟩ : ByteArray).size = (uintL n).length := rfl
  omega
theorem text_any (v : ByteArray) (w : World) (hv : v.size ≤ 1000) :
    Calls Tryz.prog 64 #[.string v] w fun e w' => e = .returned (.string ⟨(textL v).toArray⟩) ∧ Below w.heap.size w w' := by
  have S1 := hidden (uint_any v.size w (by omega))
  have hj := text_join v
  have hz := uintB_size (n := v.size) (by omega)
  have hu : IntKind.u64.wrap (v.size : Int) = (v.size : Int) := Go.IntWalk.u64_in _ (by omega)
  obtain ⟨X, hX⟩ : ∃ X, (⟨(uintL v.size).toArray⟩ : ByteArray) = X := ⟨_, rfl⟩
  rw [hX] at S1 hj hz
  have hlim : ¬ 9223372036854775807 < X.size + v.size := by omega
  have HJ := hidden hj
  clear hj hX
  go_enter Tryz.func64, Tryz.ntmps64
  go_wp2_with fail
  refine S1.out.mono ?_
  rintro e w1 ⟨rfl, b1⟩
  go_wp2_with fail
  go_ret
  rw [HJ.out]
  exact ⟨rfl, b1⟩
theorem textR_any (v : ByteArray) (w : World) (hv : v.size ≤ 1000) :
    Calls Tryz.prog 121 #[.string v] w fun e w' => e = .returned (.string ⟨(textL v).toArray⟩) ∧ Below w.heap.size w w' := by
  have S1 := hidden (uintR_any v.size w (by omega))
  have hj := text_join v
  have hz := uintB_size (n := v.size) (by omega)
  have hu : IntKind.u64.wrap (v.size : Int) = (v.size : Int) := Go.IntWalk.u64_in _ (by omega)
  obtain ⟨X, hX⟩ : ∃ X, (⟨(uintL v.size).toArray⟩ : ByteArray) = X := ⟨_, rfl⟩
  rw [hX] at S1 hj hz
  have hlim : ¬ 9223372036854775807 < X.size + v.size := by omega
  have HJ := hidden hj
  clear hj hX
  go_enter Tryz.func121, Tryz.ntmps121
  go_wp2_with fail
  refine S1.out.mono ?_
  rintro e w1 ⟨rfl, b1⟩
  go_wp2_with fail
  go_ret
  rw [HJ.out]
  exact ⟨rfl, b1⟩

end Go.Proofs.YthncochjhbmceaaGreat

namespace Go.Proofs.YthncochjhbmceaaGreat.IdxLbl
set_option maxRecDepth 100000
open Go.RowKit

theorem hk (x : Lbl) : x.cells.length = 2 := rfl

/-- what is asked of a predicate -/
def PredOk (f : FuncId) (cb : Array Value) (p : Lbl → Bool) (l : List Lbl) (ok : World → Prop) : Prop :=
  ∀ x ∈ l, ∀ W, ok W → Calls Tryz.prog f (#[.agg #[.string x.name, .string x.value]] ++ cb) W fun e w2 => e = .returned (.bool (p x)) ∧ Below W.heap.size W w2
/-- where the first one is -/
def IdxRes (p : Lbl → Bool) (l : List Lbl) (r : Int) : Prop := (r = -1 ∧ ∀ x ∈ l, p x = false) ∨ ∃ (i : Nat) (x : Lbl), r = i ∧ l[i]? = some x ∧ p x = true ∧ ∀ y ∈ l.take i, p y = false

set_option maxHeartbeats 1600000 in
theorem index_any (A : Option Addr) (n c : Nat) (l : List Lbl) (f : FuncId) (cb : Array Value) (p : Lbl → Bool) (w : World) (eg : ∀ args w, (callFunc f args).run Tryz.prog w = .ok (.enter f args) w) (hp : PredOk f cb p l (fun W => Below w.heap.size w W)) (hr : Row w w.heap.size 2 A n (l.flatMap Lbl.cells)) (hl : l.length = n) (hn : n ≤ 4611686018427387904) :
    Calls Tryz.prog 149 #[.slice A n c, .func (.func f) #[] cb] w
      fun e w' => ∃ r : Int, e = .returned (.int .i64 r) ∧ IdxRes p l r ∧ Below w.heap.size w w' := by
  have hL := hidden hl
  have HR := hidden hr
  have HP := hidden hp
  clear hl hr hp
  go_enter Tryz.func149, Tryz.ntmps149
  go_wp2
  go_loopw [8] (fun i wr => ∃ k : Nat, k ≤ n ∧ i = .int .i64 k ∧ Hid (∀ y ∈ l.take k, p y = false) ∧ Below w.heap.size w wr) (fun i _ => n - (intOf i).toNat)
  case atStart => exact ⟨0, Nat.zero_le _, rfl, hidden (by simp), Below.refl _ _⟩
  case round =>
    obtain ⟨k, hk1, rfl, hall, hb⟩ := hrel
    by_cases hlt : k < n
    · obtain ⟨gs, o, x, rfl, hgs, hx, hcl⟩ := row_at hk (HR.out.below hb) hL.out k hlt
      have d0 : wr.cell? ⟨gs, o + k * 2, none⟩ = some (.string x.name) := hcl 0 (by omega)
      have d1 : wr.cell? ⟨gs, o + k * 2 + 1, none⟩ = some (.string x.value) := hcl 1 (by omega)
      have hcon := HP.out x (List.mem_of_getElem? hx) wr hb
      have hT := hidden (take_snoc? hx)
      have HX := hidden hx
      have HCON := hidden hcon
      have hltz : (k : Int) < (n : Int) := by omega
      have hk0 : (0 : Int) ≤ (k : Int) := by omega
      clear hx hcl hcon
      go_wp2_with fail
      refine HCON.out.mono ?_
      rintro e w1 ⟨rfl, hb1⟩
      have hB1 := hb.trans (hb1.mono hb.size)
      clear HCON hb1 d0 d1
      obtain ⟨b, hv⟩ : ∃ b, p x = b := ⟨_, rfl⟩
      rw [hv]
      have HV := hidden hv
      clear hv
      cases b with
      | false =>
        go_wp2_with fail
        go_roundw
        case rel => exact ⟨k + 1, by omega, by go_num, hidden (by
          intro y hy
          rw [hT.out] at hy
          rcases List.mem_append.1 hy with h | h
          · exact hall.out y h
          · rw [List.mem_singleton.1 h]; exact HV.out), hB1⟩
        case measure => simp [intOf]; omega
      | true =>
        go_wp2_with fail
        go_ret
        exact ⟨_, rfl, .inr ⟨k, x, rfl, HX.out, HV.out, hall.out⟩, hB1⟩
    · obtain rfl : n = k := by omega
      have hall2 := hall.out
      rw [List.take_of_length_le (by rw [hL.out]; exact Nat.le_refl _)] at hall2
      have HA := hidden hall2
      clear hall2
      go_wp2
      go_ret
      exact ⟨-1, rfl, .inl ⟨rfl, HA.out⟩, hb⟩


set_option maxHeartbeats 1600000 in
theorem contains_any (A : Option Addr) (n c : Nat) (l : List Lbl) (f : FuncId) (cb : Array Value) (p : Lbl → Bool) (w : World) (eg : ∀ args w, (callFunc f args).run Tryz.prog w = .ok (.enter f args) w) (hp : PredOk f cb p l (fun W => Below w.heap.size w W)) (hr : Row w w.heap.size 2 A n (l.flatMap Lbl.cells)) (hl : l.length = n) (hn : n ≤ 4611686018427387904) :
    Calls Tryz.prog 104 #[.slice A n c, .func (.func f) #[] cb] w
      fun e w' => e = .returned (.bool (l.any p)) ∧ Below w.heap.size w w' := by
  have S1 := hidden (index_any A n c l f cb p w eg hp hr hl hn)
  clear hp hr
  go_enter Tryz.func104, Tryz.ntmps104
  go_wp2_with fail
  refine S1.out.mono ?_
  rintro e w1 ⟨r, rfl, hres, hb⟩
  have HB := hidden hb
  have hd : l.any p = decide (0 ≤ r) := by
    rcases hres with ⟨rfl, h⟩ | ⟨i, x, rfl, hx, hpx, _⟩
    · rw [show decide ((0 : Int) ≤ -1) = false from rfl, List.any_eq_false]
      intro x hx
      rw [h x hx]; simp
    · rw [decide_eq_true (by omega), List.any_eq_true]
      exact ⟨x, List.mem_of_getElem? hx, hpx⟩
  have HD := hidden hd
  clear hb hres hd S1
  go_wp2_with fail
  go_ret
  exact ⟨ret_bool HD.out.symm, HB.out⟩
end Go.Proofs.YthncochjhbmceaaGreat.IdxLbl
