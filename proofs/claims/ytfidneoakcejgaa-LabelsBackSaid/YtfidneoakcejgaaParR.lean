/- The text of a set, read, plainly. No condition. -/
import Derived.Test.YtfidneoakcejgaaLUnq
import Derived.Test.YtfidneoakcejgaaLabVal
import Derived.Lib.IndexLaws
namespace Go.Proofs.Ytfidneoakcejgaa
set_option maxRecDepth 100000
open Go.RowKit

theorem ib_no {l : List UInt8} {c : UInt8} (h : ∀ k : Nat, l[k]? ≠ some c) : Lib.indexByte l c = -1 := by
  have := Lib.indexByte_ge l c
  by_cases hi : Lib.indexByte l c = -1
  · exact hi
  · obtain ⟨o, ho⟩ : ∃ o : Nat, Lib.indexByte l c = o := ⟨(Lib.indexByte l c).toNat, by omega⟩
    exact absurd (Lib.indexByte_some ho).1 (h o)
theorem ib_at {l : List UInt8} {c : UInt8} {j : Nat} (h : l[j]? = some c) (hb : ∀ k, k < j → l[k]? ≠ some c) : Lib.indexByte l c = j := by
  have := Lib.indexByte_ge l c
  by_cases hi : Lib.indexByte l c = -1
  · exact absurd h (Lib.indexByte_none hi j)
  · obtain ⟨o, ho⟩ : ∃ o : Nat, Lib.indexByte l c = o := ⟨(Lib.indexByte l c).toNat, by omega⟩
    obtain ⟨h1, h2⟩ := Lib.indexByte_some ho
    rcases Nat.lt_trichotomy j o with hl | rfl | hl
    · exact absurd h (h2 j hl)
    · exact ho
    · exact absurd h1 (hb o hl)
theorem quoL_ge (v : List UInt8) : v.length ≤ (quoL v).length := by
  induction v with
  | nil => simp
  | cons b v ih =>
    have := (quoB_len b).1
    simp only [quoL, List.flatMap_cons, List.length_append, List.length_cons] at ih ⊢
    omega
theorem unqO_in {s : ByteArray} {k n : Nat} {v : List UInt8} (h : unqO s k = some (v, n)) : v.length ≤ s.size ∧ n ≤ s.size ∧ k < n := by
  unfold unqO at h
  split at h
  · cases hq : parQ (s.data.toList.drop (k + 1)) with
    | none => rw [hq] at h; cases h
    | some p =>
      obtain ⟨u, m⟩ := p
      rw [hq] at h
      simp only [Option.map_some, Option.some.injEq, Prod.mk.injEq] at h
      obtain ⟨rfl, rfl⟩ := h
      obtain ⟨t, h1, rfl⟩ := parQ_form _ _ _ hq
      have hl := congrArg List.length h1
      have e2 : s.data.toList.length = s.size := rfl
      have := quoL_ge u
      simp only [List.length_drop, List.length_append, List.length_cons] at hl
      omega
  · cases h
/-- labels read one behind the other from the place a on -/
def parR (s : ByteArray) : Nat → Nat → List Lbl → Option (List Lbl)
  | 0, _, _ => none
  | f + 1, a, out =>
    if Lib.indexByte (s.data.toList.drop a) 61 < 0 ∨ out.length = 8 then none
    else match unqO s (a + (Lib.indexByte (s.data.toList.drop a) 61).toNat + 1) with
      | none => none
      | some (v, n) => if n = s.size then some (out ++ [⟨s.extract a (a + (Lib.indexByte (s.data.toList.drop a) 61).toNat), ⟨v.toArray⟩⟩])
        else if s.data.toList[n]? = some 44 then parR s f (n + 1) (out ++ [⟨s.extract a (a + (Lib.indexByte (s.data.toList.drop a) 61).toNat), ⟨v.toArray⟩⟩]) else none
theorem parR_no {s : ByteArray} {f a : Nat} {out : List Lbl} (h : Lib.indexByte (s.data.toList.drop a) 61 < 0 ∨ out.length = 8) : parR s f a out = none := by
  cases f with
  | zero => rfl
  | succ f => rw [parR, if_pos h]
section
variable {s : ByteArray} {f a j : Nat} {out : List Lbl}
theorem parR_bad (h : Lib.indexByte (s.data.toList.drop a) 61 = j) (hu : unqO s (a + j + 1) = none) : parR s f a out = none := by
  cases f with
  | zero => rfl
  | succ f =>
    rw [parR]
    split
    · rfl
    · rw [h, Int.toNat_natCast, hu]
variable {v : List UInt8} {n : Nat} (h : Lib.indexByte (s.data.toList.drop a) 61 = j) (hu : unqO s (a + j + 1) = some (v, n))
include h hu
theorem parR_end (h8 : out.length ≠ 8) (hn : n = s.size) : parR s (f + 1) a out = some (out ++ [⟨s.extract a (a + j), ⟨v.toArray⟩⟩]) := by
  rw [parR, if_neg (by omega), h, Int.toNat_natCast, hu]
  simp only
  rw [if_pos hn]
theorem parR_more (h8 : out.length ≠ 8) (hn : n ≠ s.size) (hc : s.data.toList[n]? = some 44) : parR s (f + 1) a out = parR s f (n + 1) (out ++ [⟨s.extract a (a + j), ⟨v.toArray⟩⟩]) := by
  rw [parR, if_neg (by omega), h, Int.toNat_natCast, hu]
  simp only
  rw [if_neg hn, if_pos hc]
theorem parR_stop (hn : n ≠ s.size) (hc : s.data.toList[n]? ≠ some 44) : parR s f a out = none := by
  cases f with
  | zero => rfl
  | succ f =>
    rw [parR]
    split
    · rfl
    · rw [h, Int.toNat_natCast, hu]
      simp only
      rw [if_neg hn, if_neg hc]
end
/-- the set that a text shows, or the error -/
def readL (s : ByteArray) : List Lbl × Int := match parR s 9 0 [] with
  | some l => if validP l then (l, 0) else ([], 21)
  | none => ([], 21)
theorem readL_none {s : ByteArray} (h : parR s 9 0 [] = none) : readL s = ([], 21) := by rw [readL, h]
theorem readL_yes {s : ByteArray} {l : List Lbl} (h : parR s 9 0 [] = some l) (hv : decide (validP l) = true) : readL s = (l, 0) := by
  rw [readL, h]; exact if_pos (of_decide_eq_true hv)
theorem readL_bad {s : ByteArray} {l : List Lbl} (h : parR s 9 0 [] = some l) (hv : decide (validP l) = false) : readL s = ([], 21) := by
  rw [readL, h]; exact if_neg (of_decide_eq_false hv)
theorem flat_snoc (O : List Lbl) (x : Lbl) : O.flatMap Lbl.cells ++ [.string x.name, .string x.value] = (O ++ [x]).flatMap Lbl.cells := by
  rw [List.flatMap_append]; simp [Lbl.cells]
theorem ext_le (s : ByteArray) (a b : Nat) : (s.extract a b).size ≤ s.size := by
  have e := congrArg List.length (ext_list s a b)
  have e1 : (s.extract a b).data.toList.length = (s.extract a b).size := rfl
  have e2 : s.data.toList.length = s.size := rfl
  rw [List.length_take, List.length_drop] at e
  omega
end Go.Proofs.Ytfidneoakcejgaa
