/- The reference's Unquote. Condition: the text is not too long. -/
import Derived.Test.YtdggnnjjiolldaaGreatPk00738a2a
import Derived.Test.YtdggnnjjiolldaaGreatPka150b50f
import Derived.Deep.QuietTactic
import Derived.BigQuiet
namespace Go.Proofs.YtdggnnjjiolldaaGreat
set_option maxRecDepth 100000
open Go.RowKit

/-- the value whose quotation stands at k, and the place behind it -/
def unqO (s : ByteArray) (k : Nat) : Option (List UInt8 × Nat) := if s.data.toList[k]? = some 34 then (parQ (s.data.toList.drop (k + 1))).map fun p => (p.1, k + 1 + p.2) else none
/-- what the reference answers -/
def unqR (s : ByteArray) (k : Nat) : ByteArray × Int := match unqO s k with
  | some (v, n) => (⟨v.toArray⟩, (n : Nat))
  | none => (⟨#[]⟩, -1)

theorem drop_at? {l : List UInt8} {j : Nat} {b : UInt8} (h : l[j]? = some b) : l.drop j = b :: l.drop (j + 1) := by
  obtain ⟨h1, h2⟩ := List.getElem?_eq_some_iff.1 h
  rw [List.drop_eq_getElem_cons h1, h2]
theorem parQ_mark {l : List UInt8} {j : Nat} {b : UInt8} (h : l[j]? = some b) (hb : b.toNat = 34) : parQ (l.drop j) = some ([], 1) := by
  rw [drop_at? h, parQ_cons, if_pos hb]
theorem parQ_out {l : List UInt8} {j : Nat} {b : UInt8} (h : l[j]? = some b) (hn : b.toNat ≠ 34) (hb : b.toNat < 32 ∨ 126 < b.toNat) : parQ (l.drop j) = none := by
  rw [drop_at? h, parQ_cons, if_neg hn, if_pos hb]
theorem parQ_one {l : List UInt8} {j : Nat} {b : UInt8} (h : l[j]? = some b) (hn : b.toNat ≠ 34) (hb : ¬ (b.toNat < 32 ∨ 126 < b.toNat)) (h92 : b.toNat ≠ 92) : parQ (l.drop j) = (parQ (l.drop (j + 1))).map fun p => (b :: p.1, p.2 + 1) := by
  rw [drop_at? h, parQ_cons, if_neg hn, if_neg hb, if_pos h92]
theorem parQ_esc {l : List UInt8} {j : Nat} {b c : UInt8} (h : l[j]? = some b) (h92 : b.toNat = 92) (hc : l[j + 1]? = some c) (hh : c.toNat = 34 ∨ c.toNat = 92) : parQ (l.drop j) = (parQ (l.drop (j + 2))).map fun p => (c :: p.1, p.2 + 2) := by
  rw [drop_at? h, parQ_cons, if_neg (by omega), if_neg (by omega), if_neg (by omega), drop_at? hc]
  dsimp only
  rw [if_pos hh]
theorem parQ_short0 {l : List UInt8} {j : Nat} {b : UInt8} (h : l[j]? = some b) (h92 : b.toNat = 92) (hl : l.length ≤ j + 1) : parQ (l.drop j) = none := by
  rw [drop_at? h, parQ_cons, if_neg (by omega), if_neg (by omega), if_neg (by omega), List.drop_of_length_le hl]
theorem parQ_short {l : List UInt8} {j : Nat} {b c : UInt8} (h : l[j]? = some b) (h92 : b.toNat = 92) (hc : l[j + 1]? = some c) (hh : ¬ (c.toNat = 34 ∨ c.toNat = 92)) (hl : l.length ≤ j + 3) : parQ (l.drop j) = none := by
  rw [drop_at? h, parQ_cons, if_neg (by omega), if_neg (by omega), if_neg (by omega), drop_at? hc]
  dsimp only
  rw [if_neg hh]
  have : (l.drop (j + 1 + 1)).length ≤ 1 := by rw [List.length_drop]; omega
  match hr : l.drop (j + 1 + 1), this with
  | [], _ => rfl
  | [_], _ => rfl
theorem parQ_four {l : List UInt8} {j : Nat} {b c x y : UInt8} (h : l[j]? = some b) (h92 : b.toNat = 92) (hc : l[j + 1]? = some c) (hh : ¬ (c.toNat = 34 ∨ c.toNat = 92)) (hx : l[j + 2]? = some x) (hy : l[j + 3]? = some y) :
    parQ (l.drop j) = if c.toNat ≠ 120 then none else if hexV x < 16 ∧ hexV y < 16 ∧ ¬ (32 ≤ hexV x * 16 + hexV y ∧ hexV x * 16 + hexV y ≤ 126) then (parQ (l.drop (j + 4))).map fun p => (UInt8.ofNat (hexV x * 16 + hexV y) :: p.1, p.2 + 4) else none := by
  rw [drop_at? h, parQ_cons, if_neg (by omega), if_neg (by omega), if_neg (by omega), drop_at? hc]
  dsimp only
  rw [if_neg hh, show j + 1 + 1 = j + 2 from rfl, drop_at? hx, show j + 2 + 1 = j + 3 from rfl, drop_at? hy]
/-- what is read of a quotation: the bytes acc, up to the place j -/
def RelQ (s : ByteArray) (k j : Nat) (acc : List UInt8) : Prop := parQ (s.data.toList.drop (k + 1)) = (parQ (s.data.toList.drop j)).map fun p => (acc ++ p.1, (j - (k + 1)) + p.2)
theorem relQ_start (s : ByteArray) (k : Nat) : RelQ s k (k + 1) [] := by
  unfold RelQ
  cases parQ (s.data.toList.drop (k + 1)) <;> simp
theorem relQ_none {s : ByteArray} {k j : Nat} {acc : List UInt8} (h : RelQ s k j acc) (hn : parQ (s.data.toList.drop j) = none) : parQ (s.data.toList.drop (k + 1)) = none := by rw [h, hn]; rfl
theorem relQ_step {s : ByteArray} {k j d : Nat} {acc : List UInt8} {x : UInt8} (h : RelQ s k j acc) (hj : k + 1 ≤ j) (hp : parQ (s.data.toList.drop j) = (parQ (s.data.toList.drop (j + d))).map fun p => (x :: p.1, p.2 + d)) : RelQ s k (j + d) (acc ++ [x]) := by
  unfold RelQ at h ⊢
  rw [h, hp]
  cases parQ (s.data.toList.drop (j + d)) with
  | none => rfl
  | some p => simp; omega
theorem relQ_done {s : ByteArray} {k j : Nat} {acc : List UInt8} (h : RelQ s k j acc) (hp : parQ (s.data.toList.drop j) = some ([], 1)) : parQ (s.data.toList.drop (k + 1)) = some (acc, j - (k + 1) + 1) := by
  unfold RelQ at h
  rw [h, hp]; simp
theorem unqR_no {s : ByteArray} {k : Nat} (h : unqO s k = none) : unqR s k = (⟨#[]⟩, -1) := by rw [unqR, h]
theorem unqR_none {s : ByteArray} {k j : Nat} {acc : List UInt8} (h : RelQ s k j acc) (hn : parQ (s.data.toList.drop j) = none) : unqR s k = (⟨#[]⟩, -1) := unqR_no (by
  rw [unqO, relQ_none h hn]; simp)
theorem unqR_done {s : ByteArray} {k j : Nat} {acc : List UInt8} (h : RelQ s k j acc) (hj : k + 1 ≤ j) (h34 : s.data.toList[k]? = some 34) (hp : parQ (s.data.toList.drop j) = some ([], 1)) : unqR s k = (⟨acc.toArray⟩, ((j + 1 : Nat) : Int)) := by
  have : unqO s k = some (acc, j + 1) := by rw [unqO, if_pos h34, relQ_done h hp, Option.map_some]; simp; omega
  rw [unqR, this]
theorem hexV_le (b : UInt8) : hexV b ≤ 16 := by
  unfold hexV
  split
  · omega
  · split <;> omega
theorem bytes_back0 {w : World} {v : Value} {B n : Nat} {l : List UInt8} (h : w.ownsRow B 5 1 v n (Lib.byteCells l)) (hl : l.length = n) :
    (convert 46 9 v).run Tryz.prog w = .ok (.string ⟨l.toArray⟩) w := by
  by_cases h0 : l = []
  · subst h0
    rcases h.2 with ⟨rfl, _⟩ | ⟨g, cap, cur, rfl, _⟩
    · exact run_convert_bytes_nil w 46 5 Tryz.underlying46 Tryz.underlying5 0 0 9 Tryz.underlying9
    · subst hl
      exact run_convert_bytes_back w 46 9 5 ⟨g, 0, none⟩ cap [] Tryz.underlying46 Tryz.underlying5 Tryz.underlying9 fun j hj => absurd hj (by simp)
  · exact bytes_back h hl h0

end Go.Proofs.YtdggnnjjiolldaaGreat
