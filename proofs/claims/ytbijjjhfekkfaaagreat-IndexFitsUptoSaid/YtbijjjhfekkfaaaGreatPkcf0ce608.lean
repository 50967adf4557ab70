/- The text of a set, read, plainly. No condition. Labels read from bytes, plainly. No condition. What is read of bytes and of texts is the one form of its set, plainly. No condition. A set is read back from its bytes and its text, plainly. No condition. An index as it lies, and what it tells. No program is walked here. index.New and Len, walked. Condition: the index is one. index: Find and Set, walked. Condition: the index is one; the rows are within the reach. index.Add under way, as it lies. No program is walked here. -/
import Derived.Test.YtbijjjhfekkfaaaGreatPkdcb8ec27
import Derived.Test.YtbijjjhfekkfaaaGreatPkc34a24ab
import Derived.Lib.IndexLaws
import Derived.Test.YtbijjjhfekkfaaaGreatPk6f96bf35
import Derived.Test.YtbijjjhfekkfaaaGreatPk698bdddd
namespace Go.Proofs.YtbijjjhfekkfaaaGreat
set_option maxRecDepth 100000
open Go.RowKit

theorem ib_no {l : List UInt8} {c : UInt8} (h : ∀ k : Nat, l[k]? ≠ some c) : Lib.indexByte l c = -1 := by
  have := Lib.indexByte_ge l c
  by_cases hi : Lib.indexByte l c = -1
  · exact hi
  · obtain ⟨o, ho⟩ : ∃ o : Nat, Lib.indexByte l c = o := ⟨(Lib.indexByte l c).toNat, by omega⟩
    exact absurd (Lib.indexByte_some ho).1 (h o)
theorem ib_at {l : List UInt8} {c : UInt8} {j : Nat} (h : l[j]? = some c) (hb : ∀ k, k < j → l[k]? ≠ some c) : Lib.indexByte l c = j := by
  have := Lib.indexByte_ge l c
  by_cases hi : Lib.indexByte l c = -1
  · exact absurd h (Lib.indexByte_none hi j)
  · obtain ⟨o, ho⟩ : ∃ o : Nat, Lib.indexByte l c = o := ⟨(Lib.indexByte l c).toNat, by omega⟩
    obtain ⟨h1, h2⟩ := Lib.indexByte_some ho
    rcases Nat.lt_trichotomy j o with hl | rfl | hl
    · exact absurd h (h2 j hl)
    · exact ho
    · exact absurd h1 (hb o hl)
theorem quoL_ge (v : List UInt8) : v.length ≤ (quoL v).length := by
  induction v with
  | nil => simp
  | cons b v ih =>
    have := (quoB_len b).1
    simp only [quoL, List.flatMap_cons, List.length_append, List.length_cons] at ih ⊢
    omega
theorem unqO_in {s : ByteArray} {k n : Nat} {v : List UInt8} (h : unqO s k = some (v, n)) : v.length ≤ s.size ∧ n ≤ s.size ∧ k < n := by
  unfold unqO at h
  split at h
  · cases hq : parQ (s.data.toList.drop (k + 1)) with
    | none => rw [hq] at h; cases h
    | some p =>
      obtain ⟨u, m⟩ := p
      rw [hq] at h
      simp only [Option.map_some, Option.some.injEq, Prod.mk.injEq] at h
      obtain ⟨rfl, rfl⟩ := h
      obtain ⟨t, h1, rfl⟩ := parQ_form _ _ _ hq
      have hl := congrArg List.length h1
      have e2 : s.data.toList.length = s.size := rfl
      have := quoL_ge u
      simp only [List.length_drop, List.length_append, List.length_cons] at hl
      omega
  · cases h
/-- labels read one behind the other from the place a on -/
def parR (s : ByteArray) : Nat → Nat → List Lbl → Option (List Lbl)
  | 0, _, _ => none
  | f + 1, a, out =>
    if Lib.indexByte (s.data.toList.drop a) 61 < 0 ∨ out.length = 8 then none
    else match unqO s (a + (Lib.indexByte (s.data.toList.drop a) 61).toNat + 1) with
      | none => none
      | some (v, n) => if n = s.size then some (out ++ [⟨s.extract a (a + (Lib.indexByte (s.data.toList.drop a) 61).toNat), ⟨v.toArray⟩⟩])
        else if s.data.toList[n]? = some 44 then parR s f (n + 1) (out ++ [⟨s.extract a (a + (Lib.indexByte (s.data.toList.drop a) 61).toNat), ⟨v.toArray⟩⟩]) else none
theorem parR_no {s : ByteArray} {f a : Nat} {out : List Lbl} (h : Lib.indexByte (s.data.toList.drop a) 61 < 0 ∨ out.length = 8) : parR s f a out = none := by
  cases f with
  | zero => rfl
  | succ f => rw [parR, if_pos h]
section
variable {s : ByteArray} {f a j : Nat} {out : List Lbl}
theorem parR_bad (h : Lib.indexByte (s.data.toList.drop a) 61 = j) (hu : unqO s (a + j + 1) = none) : parR s f a out = none := by
  cases f with
  | zero => rfl
  | succ f =>
    rw [parR]
    split
    · rfl
    · rw [h, Int.toNat_natCast, hu]
variable {v : List UInt8} {n : Nat} (h : Lib.indexByte (s.data.toList.drop a) 61 = j) (hu : unqO s (a + j + 1) = some (v, n))
include h hu
theorem parR_end (h8 : out.length ≠ 8) (hn : n = s.size) : parR s (f + 1) a out = some (out ++ [⟨s.extract a (a + j), ⟨v.toArray⟩⟩]) := by
  rw [parR, if_neg (by omega), h, Int.toNat_natCast, hu]
  simp only
  rw [if_pos hn]
theorem parR_more (h8 : out.length ≠ 8) (hn : n ≠ s.size) (hc : s.data.toList[n]? = some 44) : parR s (f + 1) a out = parR s f (n + 1) (out ++ [⟨s.extract a (a + j), ⟨v.toArray⟩⟩]) := by
  rw [parR, if_neg (by omega), h, Int.toNat_natCast, hu]
  simp only
  rw [if_neg hn, if_pos hc]
theorem parR_stop (hn : n ≠ s.size) (hc : s.data.toList[n]? ≠ some 44) : parR s f a out = none := by
  cases f with
  | zero => rfl
  | succ f =>
    rw [parR]
    split
    · rfl
    · rw [h, Int.toNat_natCast, hu]
      simp only
      rw [if_neg hn, if_neg hc]
end
/-- the set that a text shows, or the error -/
def readL (s : ByteArray) : List Lbl × Int := match parR s 9 0 [] with
  | some l => if validP l then (l, 0) else ([], 21)
  | none => ([], 21)
theorem readL_none {s : ByteArray} (h : parR s 9 0 [] = none) : readL s = ([], 21) := by rw [readL, h]
theorem readL_yes {s : ByteArray} {l : List Lbl} (h : parR s 9 0 [] = some l) (hv : decide (validP l) = true) : readL s = (l, 0) := by
  rw [readL, h]; exact if_pos (of_decide_eq_true hv)
theorem readL_bad {s : ByteArray} {l : List Lbl} (h : parR s 9 0 [] = some l) (hv : decide (validP l) = false) : readL s = ([], 21) := by
  rw [readL, h]; exact if_neg (of_decide_eq_false hv)
theorem flat_snoc (O : List Lbl) (x : Lbl) : O.flatMap Lbl.cells ++ [.string x.name, .string x.value] = (O ++ [x]).flatMap Lbl.cells := by
  rw [List.flatMap_append]; simp [Lbl.cells]
theorem ext_le (s : ByteArray) (a b : Nat) : (s.extract a b).size ≤ s.size := by
  have e := congrArg List.length (ext_list s a b)
  have e1 : (s.extract a b).data.toList.length = (s.extract a b).size := rfl
  have e2 : s.data.toList.length = s.size := rfl
  rw [List.length_take, List.length_drop] at e
  omega
end Go.Proofs.YtbijjjhfekkfaaaGreat

namespace Go.Proofs.YtbijjjhfekkfaaaGreat
set_option maxRecDepth 100000
open Go.RowKit

theorem readT_ok_at {s : List UInt8} {a b : Int} {v : ByteArray} (h : readT s a = (v, b, 0)) : 0 ≤ a ∧ a < b ∧ b ≤ s.length ∧ v.size ≤ s.length := by
  obtain ⟨n, m, e, h1⟩ : ∃ n b e, readU s a = (n, b, e) := ⟨_, _, _, rfl⟩
  by_cases he : e = 0
  · subst he
    obtain ⟨p1, p2, p3, p4, _⟩ := readU_ok h1
    have hp := uintL_pos n
    by_cases hl : (s.length : Int) - m < n
    · rw [readT_short h1 hl] at h
      simp at h
    · rw [readT_ok h1 hl] at h
      simp only [Prod.mk.injEq, and_true] at h
      obtain ⟨rfl, rfl⟩ := h
      have := ext_le ⟨s.toArray⟩ m.toNat (m.toNat + n)
      exact ⟨p1, by omega, by omega, this⟩
  · rw [readT_e h1 he] at h
    simp only [Prod.mk.injEq] at h
    exact absurd h.2.2 he
/-- may this label not stand behind these? -/
def badN (out : List Lbl) (x : Lbl) : Bool := match out.getLast? with
  | none => false
  | some z => !decide (ltN z x)
theorem badN_snoc (m : List Lbl) (z x : Lbl) : badN (m ++ [z]) x = !decide (ltN z x) := by simp [badN]
theorem badN_cmp (m : List Lbl) (z x : Lbl) : badN (m ++ [z]) x = !decide (cmpB z.name x.name < 0) := badN_snoc m z x
/-- the labels that are read: so many, from this place on, behind these -/
def decT (s : List UInt8) : Nat → Int → List Lbl → List Lbl × Int × Int
  | 0, a, out => (out, a, 0)
  | k + 1, a, out => if (readT s a).2.2 = 0 then
      if (readT s (readT s a).2.1).2.2 = 0 then
        if fitN (readT s a).1 = false then ([], 0, 40)
        else if fitV (readT s (readT s a).2.1).1 = false then ([], 0, 41)
        else if badN out ⟨(readT s a).1, (readT s (readT s a).2.1).1⟩ = true then ([], 0, 42)
        else decT s k (readT s (readT s a).2.1).2.1 (out ++ [⟨(readT s a).1, (readT s (readT s a).2.1).1⟩])
      else ([], 0, (readT s (readT s a).2.1).2.2)
    else ([], 0, (readT s a).2.2)
section
variable {s : List UInt8} {k : Nat} {a b c e : Int} {out : List Lbl} {u v : ByteArray}
theorem decT_e1 (h : readT s a = (u, b, e)) (he : e ≠ 0) : decT s (k + 1) a out = ([], 0, e) := by
  rw [decT, h]; exact if_neg he
theorem decT_e2 (h : readT s a = (u, b, 0)) (h2 : readT s b = (v, c, e)) (he : e ≠ 0) : decT s (k + 1) a out = ([], 0, e) := by
  rw [decT, h]; simp only [if_true]; rw [h2]; exact if_neg he
theorem decT_name (h : readT s a = (u, b, 0)) (h2 : readT s b = (v, c, 0)) (hf : fitN u = false) : decT s (k + 1) a out = ([], 0, 40) := by
  rw [decT, h]; simp only [if_true]; rw [h2]; simp only [if_true]; exact if_pos hf
theorem decT_value (h : readT s a = (u, b, 0)) (h2 : readT s b = (v, c, 0)) (hf : fitN u = true) (hg : fitV v = false) : decT s (k + 1) a out = ([], 0, 41) := by
  rw [decT, h]; simp only [if_true]; rw [h2]; simp only [if_true]; rw [if_neg (by rw [hf]; decide), if_pos hg]
theorem decT_bad (h : readT s a = (u, b, 0)) (h2 : readT s b = (v, c, 0)) (hf : fitN u = true) (hg : fitV v = true) (hb : badN out ⟨u, v⟩ = true) : decT s (k + 1) a out = ([], 0, 42) := by
  rw [decT, h]; simp only [if_true]; rw [h2]; simp only [if_true]; rw [if_neg (by rw [hf]; decide), if_neg (by rw [hg]; decide), if_pos hb]
theorem decT_go (h : readT s a = (u, b, 0)) (h2 : readT s b = (v, c, 0)) (hf : fitN u = true) (hg : fitV v = true) (hb : badN out ⟨u, v⟩ = false) : decT s (k + 1) a out = decT s k c (out ++ [⟨u, v⟩]) := by
  rw [decT, h]; simp only [if_true]; rw [h2]; simp only [if_true]; rw [if_neg (by rw [hf]; decide), if_neg (by rw [hg]; decide), if_neg (by rw [hb]; decide)]
/-- the set that is read at a place, the place behind it, the error -/
def decL (s : List UInt8) (a : Int) : List Lbl × Int × Int :=
  if (readU s a).2.2 = 0 then (if (readU s a).1 = 0 then ([], 0, 43) else if 8 < (readU s a).1 then ([], 0, 44) else decT s (readU s a).1 (readU s a).2.1 []) else ([], 0, (readU s a).2.2)
variable {n : Nat}
theorem decL_e (h : readU s a = (n, b, e)) (he : e ≠ 0) : decL s a = ([], 0, e) := by
  rw [decL, h]; exact if_neg he
theorem decL_zero (h : readU s a = (0, b, 0)) : decL s a = ([], 0, 43) := by
  rw [decL, h]; simp
theorem decL_many (h : readU s a = (n, b, 0)) (h8 : 8 < n) : decL s a = ([], 0, 44) := by
  rw [decL, h]; simp only [if_true]; rw [if_neg (by omega), if_pos h8]
theorem decL_go (h : readU s a = (n, b, 0)) (h0 : n ≠ 0) (h8 : ¬ 8 < n) : decL s a = decT s n b [] := by
  rw [decL, h]; simp only [if_true]; rw [if_neg h0, if_neg h8]
end
theorem decT_small (s : List UInt8) : ∀ (k : Nat) (a : Int) (out : List Lbl), out.length + k ≤ 8 → (∀ x ∈ out, x.name.size ≤ s.length ∧ x.value.size ≤ s.length) → (decT s k a out).1.length ≤ 8 ∧ ∀ x ∈ (decT s k a out).1, x.name.size ≤ s.length ∧ x.value.size ≤ s.length := by
  intro k
  induction k with
  | zero => intro a out h1 h2; exact ⟨by simpa [decT] using h1, h2⟩
  | succ k ih =>
    intro a out h1 h2
    obtain ⟨u, b, e, r1⟩ : ∃ u b e, readT s a = (u, b, e) := ⟨_, _, _, rfl⟩
    have nil : ∀ e : Int, (([], 0, e) : List Lbl × Int × Int).1.length ≤ 8 ∧ ∀ x ∈ (([], 0, e) : List Lbl × Int × Int).1, x.name.size ≤ s.length ∧ x.value.size ≤ s.length := fun e => ⟨by simp, fun x hx => by cases hx⟩
    by_cases he : e = 0
    · subst he
      obtain ⟨v, c, e2, r2⟩ : ∃ v c e2, readT s b = (v, c, e2) := ⟨_, _, _, rfl⟩
      by_cases he2 : e2 = 0
      · subst he2
        cases hf : fitN u with
        | false => rw [decT_name r1 r2 hf]; exact nil _
        | true =>
          cases hg : fitV v with
          | false => rw [decT_value r1 r2 hf hg]; exact nil _
          | true =>
            cases hb : badN out ⟨u, v⟩ with
            | true => rw [decT_bad r1 r2 hf hg hb]; exact nil _
            | false =>
              rw [decT_go r1 r2 hf hg hb]
              refine ih _ _ (by rw [List.length_append, List.length_singleton]; omega) fun x hx => ?_
              rcases List.mem_append.1 hx with hx | hx
              · exact h2 x hx
              · obtain rfl := List.mem_singleton.1 hx
                exact ⟨(readT_ok_at r1).2.2.2, (readT_ok_at r2).2.2.2⟩
      · rw [decT_e2 r1 r2 he2]; exact nil _
    · rw [decT_e1 r1 he]; exact nil _
theorem decL_small (s : List UInt8) (a : Int) : (decL s a).1.length ≤ 8 ∧ ∀ x ∈ (decL s a).1, x.name.size ≤ s.length ∧ x.value.size ≤ s.length := by
  have nil : ∀ e : Int, (([], 0, e) : List Lbl × Int × Int).1.length ≤ 8 ∧ ∀ x ∈ (([], 0, e) : List Lbl × Int × Int).1, x.name.size ≤ s.length ∧ x.value.size ≤ s.length := fun e => ⟨by simp, fun x hx => by cases hx⟩
  unfold decL
  split
  · split
    · exact nil _
    · split
      · exact nil _
      · exact decT_small s _ _ [] (by simp; omega) (fun x hx => by cases hx)
  · exact nil _
end Go.Proofs.YtbijjjhfekkfaaaGreat

namespace Go.Proofs.YtbijjjhfekkfaaaGreat
set_option maxRecDepth 100000
open Go.RowKit

theorem valid_of {l : List Lbl} (h0 : 0 < l.length) (h8 : l.length ≤ 8) (hf : ∀ x ∈ l, fitN x.name = true ∧ fitV x.value = true) (hu : upN l) : validP l := by
  refine ⟨?_, hu⟩
  rw [makeErr, if_neg (by omega), if_neg (by omega)]
  exact errUpto_fit hf (up_apart hu) _
theorem up_more {out : List Lbl} {x : Lbl} (h : upN out) (hb : badN out x = false) : upN (out ++ [x]) := by
  rcases List.eq_nil_or_concat out with rfl | ⟨M, z, rfl⟩
  · exact List.pairwise_singleton _ _
  · rw [List.concat_eq_append] at *
    rw [badN_snoc] at hb
    have hzx : ltN z x := by simpa using hb
    unfold upN
    rw [List.pairwise_append]
    refine ⟨h, List.pairwise_singleton _ _, fun y hy x' hx' => ?_⟩
    obtain rfl := List.mem_singleton.1 hx'
    rcases List.mem_append.1 hy with hy | hy
    · exact ltN_trans ((List.pairwise_append.1 h).2.2 y hy z (by simp)) hzx
    · rw [List.mem_singleton.1 hy]; exact hzx
theorem readT_form {s : List UInt8} {a b : Int} {v : ByteArray} (h : readT s a = (v, b, 0)) : s.drop a.toNat = textL v ++ s.drop b.toNat := by
  obtain ⟨n, m, e, h1⟩ : ∃ n b e, readU s a = (n, b, e) := ⟨_, _, _, rfl⟩
  by_cases he : e = 0
  · subst he
    obtain ⟨p1, p2, p3, p4, p5⟩ := readU_ok h1
    have hp := uintL_pos n
    by_cases hl : (s.length : Int) - m < n
    · rw [readT_short h1 hl] at h
      simp at h
    · rw [readT_ok h1 hl] at h
      simp only [Prod.mk.injEq, and_true] at h
      obtain ⟨hv, rfl⟩ := h
      have hvl : v.data.toList = (s.drop m.toNat).take n := by
        rw [← hv, ext_list]
        simp
      have hvs : v.size = n := by
        have e1 : v.data.toList.length = v.size := rfl
        rw [← e1, hvl, List.length_take, List.length_drop]; omega
      have e1 : s.drop a.toNat = uintL n ++ s.drop m.toNat := by
        have := List.take_append_drop (uintL n).length (s.drop a.toNat)
        rw [p5, List.drop_drop, show a.toNat + (uintL n).length = m.toNat by omega] at this
        exact this.symm
      have e2 : s.drop m.toNat = v.data.toList ++ s.drop (m + n).toNat := by
        have := List.take_append_drop n (s.drop m.toNat)
        rw [← hvl, List.drop_drop, show m.toNat + n = (m + n).toNat by omega] at this
        exact this.symm
      rw [e1, e2, textL, hvs, List.append_assoc]
  · rw [readT_e h1 he] at h
    simp only [Prod.mk.injEq] at h
    exact absurd h.2.2 he
theorem decT_form (s : List UInt8) : ∀ (k : Nat) (a : Int) (out L : List Lbl) (b : Int), decT s k a out = (L, b, 0) → (∀ x ∈ out, fitN x.name = true ∧ fitV x.value = true) → upN out → 0 ≤ a → a ≤ s.length →
    (∀ x ∈ L, fitN x.name = true ∧ fitV x.value = true) ∧ upN L ∧ 0 ≤ b ∧ b ≤ s.length ∧ ∃ mid, L = out ++ mid ∧ mid.length = k ∧ s.drop a.toNat = encB mid ++ s.drop b.toNat := by
  intro k
  induction k with
  | zero =>
    intro a out L b h h1 h2 h3 h4
    simp only [decT, Prod.mk.injEq, and_true] at h
    obtain ⟨rfl, rfl⟩ := h
    exact ⟨h1, h2, h3, h4, [], by simp, rfl, by simp [encB]⟩
  | succ k ih =>
    intro a out L b h h1 h2 h3 h4
    obtain ⟨u, p, e, r1⟩ : ∃ u b e, readT s a = (u, b, e) := ⟨_, _, _, rfl⟩
    by_cases he : e = 0
    · subst he
      obtain ⟨v, q, e2, r2⟩ : ∃ v c e2, readT s p = (v, c, e2) := ⟨_, _, _, rfl⟩
      by_cases he2 : e2 = 0
      · subst he2
        cases hf : fitN u with
        | false => rw [decT_name r1 r2 hf] at h; simp at h
        | true =>
          cases hg : fitV v with
          | false => rw [decT_value r1 r2 hf hg] at h; simp at h
          | true =>
            cases hb : badN out ⟨u, v⟩ with
            | true => rw [decT_bad r1 r2 hf hg hb] at h; simp at h
            | false =>
              rw [decT_go r1 r2 hf hg hb] at h
              have k1 := readT_ok_at r1
              have k2 := readT_ok_at r2
              obtain ⟨g1, g2, g3, g4, mid, g5, g6, g7⟩ := ih q (out ++ [⟨u, v⟩]) L b h (fun x hx => by
                rcases List.mem_append.1 hx with hx | hx
                · exact h1 x hx
                · obtain rfl := List.mem_singleton.1 hx
                  exact ⟨hf, hg⟩) (up_more h2 hb) (by omega) (by omega)
              refine ⟨g1, g2, g3, g4, ⟨u, v⟩ :: mid, by rw [g5]; simp, by simp [g6], ?_⟩
              rw [readT_form r1, readT_form r2, g7]
              simp [encB, labE]
      · rw [decT_e2 r1 r2 he2] at h
        simp only [Prod.mk.injEq] at h
        exact absurd h.2.2 he2
    · rw [decT_e1 r1 he] at h
      simp only [Prod.mk.injEq] at h
      exact absurd h.2.2 he
/-- what is read is the one form of its set -/
theorem decL_form {s : List UInt8} {L : List Lbl} {b : Int} (h : decL s 0 = (L, b, 0)) : encLb L = (⟨(s.take b.toNat).toArray⟩, 0) ∧ validP L ∧ 0 ≤ b ∧ b ≤ s.length := by
  obtain ⟨n, m, e, h1⟩ : ∃ n b e, readU s 0 = (n, b, e) := ⟨_, _, _, rfl⟩
  by_cases he : e = 0
  · subst he
    obtain ⟨p1, p2, p3, p4, p5⟩ := readU_ok h1
    by_cases h0 : n = 0
    · subst h0; rw [decL_zero h1] at h; simp at h
    · by_cases h8 : 8 < n
      · rw [decL_many h1 h8] at h; simp at h
      · rw [decL_go h1 h0 h8] at h
        obtain ⟨g1, g2, g3, g4, mid, g5, g6, g7⟩ := decT_form s n m [] L b h (fun x hx => by cases hx) List.Pairwise.nil (by omega) p3
        rw [List.nil_append] at g5
        subst g5
        have hv : validP L := valid_of (by omega) (by omega) g1 g2
        have e1 : s = uintL n ++ s.drop m.toNat := by
          have := List.take_append_drop (uintL n).length (s.drop (0 : Int).toNat)
          rw [p5, List.drop_drop, show (0 : Int).toNat + (uintL n).length = m.toNat by omega] at this
          simpa using this.symm
        have e2 : s = (uintL L.length ++ encB L) ++ s.drop b.toNat := by
          rw [g6, List.append_assoc, ← g7]; exact e1
        have hl := congrArg List.length e2
        rw [List.length_append, List.length_drop] at hl
        refine ⟨?_, hv, g3, g4⟩
        rw [encLb_ok hv]
        have e3 : s.take b.toNat = uintL L.length ++ encB L := by
          have hbn : b.toNat = (uintL L.length ++ encB L).length := by omega
          have h9 := congrArg (List.take (uintL L.length ++ encB L).length) e2
          rw [List.take_left] at h9
          rw [hbn]; exact h9
        rw [e3]
  · rw [decL_e h1 he] at h
    simp only [Prod.mk.injEq] at h
    exact absurd h.2.2 he

theorem unqO_form {s : ByteArray} {k n : Nat} {v : List UInt8} (h : unqO s k = some (v, n)) : s.data.toList.drop k = quoteL v ++ s.data.toList.drop n := by
  unfold unqO at h
  split at h
  · rename_i h34
    cases hq : parQ (s.data.toList.drop (k + 1)) with
    | none => rw [hq] at h; cases h
    | some p =>
      obtain ⟨u, m⟩ := p
      rw [hq] at h
      simp only [Option.map_some, Option.some.injEq, Prod.mk.injEq] at h
      obtain ⟨rfl, rfl⟩ := h
      obtain ⟨t, h1, rfl⟩ := parQ_form _ _ _ hq
      have h2 : s.data.toList.drop (k + 1 + ((quoL u).length + 1)) = t := by
        rw [← List.drop_drop, h1]
        have : quoL u ++ 34 :: t = (quoL u ++ [34]) ++ t := by simp
        rw [this, show (quoL u).length + 1 = (quoL u ++ [34]).length by simp, List.drop_left]
      rw [h2, drop_at? h34, h1]
      simp [quoteL]
  · cases h
theorem parR_form (s : ByteArray) : ∀ (f a : Nat) (out L : List Lbl), parR s f a out = some L → ∃ mid, mid ≠ [] ∧ L = out ++ mid ∧ s.data.toList.drop a = joinL (mid.map partB) := by
  intro f
  induction f with
  | zero => intro a out L h; simp [parR] at h
  | succ f ih =>
    intro a out L h
    by_cases hno : Lib.indexByte (s.data.toList.drop a) 61 < 0 ∨ out.length = 8
    · rw [parR_no hno] at h; cases h
    · obtain ⟨j, hj⟩ : ∃ j : Nat, Lib.indexByte (s.data.toList.drop a) 61 = j := ⟨(Lib.indexByte (s.data.toList.drop a) 61).toNat, by omega⟩
      obtain ⟨hj1, _⟩ := Lib.indexByte_some hj
      rw [List.getElem?_drop] at hj1
      cases hu : unqO s (a + j + 1) with
      | none => rw [parR_bad hj hu] at h; cases h
      | some p =>
        obtain ⟨v, n⟩ := p
        have hq := unqO_form hu
        have hx : s.data.toList.drop a = partL ⟨s.extract a (a + j), ⟨v.toArray⟩⟩ ++ s.data.toList.drop n := by
          have e1 := List.take_append_drop j (s.data.toList.drop a)
          rw [List.drop_drop, drop_at? hj1, hq] at e1
          rw [← e1, partL]
          simp only [ext_list, show a + j - a = j by omega]
          simp
        by_cases hn : n = s.size
        · rw [parR_end hj hu (by omega) hn] at h
          injection h with h
          refine ⟨[⟨s.extract a (a + j), ⟨v.toArray⟩⟩], by simp, h.symm, ?_⟩
          rw [hx, hn, List.drop_of_length_le (show s.data.toList.length ≤ s.size from Nat.le_refl _)]
          simp [joinL, partB]
        · by_cases hc : s.data.toList[n]? = some 44
          · rw [parR_more hj hu (by omega) hn hc] at h
            obtain ⟨mid, m1, m2, m3⟩ := ih _ _ _ h
            refine ⟨⟨s.extract a (a + j), ⟨v.toArray⟩⟩ :: mid, by simp, by rw [m2]; simp, ?_⟩
            rw [hx, drop_at? hc, m3]
            cases mid with
            | nil => exact absurd rfl m1
            | cons y r => simp [joinL, partB]
          · rw [parR_stop hj hu hn hc] at h; cases h
/-- what is read is the one form of its set -/
theorem readL_form {s : ByteArray} {L : List Lbl} (h : readL s = (L, 0)) : (⟨(showL L).toArray⟩ : ByteArray) = s := by
  unfold readL at h
  cases hp : parR s 9 0 [] with
  | none => rw [hp] at h; simp at h
  | some l =>
    rw [hp] at h
    simp only at h
    split at h
    · rename_i hv
      injection h with h _
      subst h
      obtain ⟨mid, _, m2, m3⟩ := parR_form s 9 0 [] l hp
      rw [List.nil_append] at m2
      subst m2
      rw [showL, if_pos hv, showP, ← m3]
      exact bytes_eq (by simp)
    · simp at h
theorem readL_err (s : ByteArray) : (readL s).2 = 0 ∨ readL s = ([], 21) := by
  unfold readL
  split
  · split
    · exact .inl rfl
    · exact .inr rfl
  · exact .inr rfl
end Go.Proofs.YtbijjjhfekkfaaaGreat

namespace Go.Proofs.YtbijjjhfekkfaaaGreat
set_option maxRecDepth 100000
open Go.RowKit

theorem readT_at {s : List UInt8} {a : Int} {v : ByteArray} {rest : List UInt8} (h0 : 0 ≤ a) (h : s.drop a.toNat = textL v ++ rest) (hv : v.size < 18446744073709551616) : readT s a = (v, a + (textL v).length, 0) := by
  have hu := readU_at (rest := v.data.toList ++ rest) h0 (by rw [h, textL, List.append_assoc]) hv
  have hl := congrArg List.length h
  have ev : v.data.toList.length = v.size := rfl
  rw [List.length_drop, textL, List.length_append, List.length_append] at hl
  have hp := uintL_pos v.size
  rw [readT_ok hu (by omega)]
  have e1 : (a + ((uintL v.size).length : Int)).toNat = a.toNat + (uintL v.size).length := by omega
  have e2 : s.drop (a.toNat + (uintL v.size).length) = v.data.toList ++ rest := by
    rw [← List.drop_drop, h, textL, List.append_assoc, List.drop_left]
  have e3 : (⟨s.toArray⟩ : ByteArray).extract (a + ((uintL v.size).length : Int)).toNat ((a + ((uintL v.size).length : Int)).toNat + v.size) = v := bytes_eq (by
    rw [ext_list, e1]
    simp only [Nat.add_sub_cancel_left]
    rw [e2, ← ev, List.take_left])
  rw [e3]
  simp only [Prod.mk.injEq, and_true, true_and, textL, List.length_append]
  omega
theorem badN_up {out mid : List Lbl} {x : Lbl} (h : upN (out ++ x :: mid)) : badN out x = false := by
  rcases List.eq_nil_or_concat out with rfl | ⟨M, z, rfl⟩
  · rfl
  · rw [List.concat_eq_append] at *
    rw [badN_snoc]
    have := (List.pairwise_append.1 h).2.2 z (by simp) x (by simp)
    simpa using this
theorem decT_at (s rest : List UInt8) : ∀ (mid out : List Lbl) (a : Int), 0 ≤ a → s.drop a.toNat = encB mid ++ rest → (∀ x ∈ mid, fitN x.name = true ∧ fitV x.value = true) → (∀ x ∈ mid, x.name.size ≤ 32 ∧ x.value.size ≤ 64) → upN (out ++ mid) → decT s mid.length a out = (out ++ mid, a + (encB mid).length, 0) := by
  intro mid
  induction mid with
  | nil => intro out a _ _ _ _ _; simp [decT, encB]
  | cons x mid ih =>
    intro out a h0 h hf hz hu
    obtain ⟨f1, f2⟩ := hf x (by simp)
    obtain ⟨z1, z2⟩ := hz x (by simp)
    have e0 : encB (x :: mid) = textL x.name ++ (textL x.value ++ encB mid) := by simp [encB, labE]
    rw [e0] at h
    have r1 := readT_at (v := x.name) (rest := textL x.value ++ encB mid ++ rest) h0 (by rw [h]; simp) (by omega)
    have d1 : s.drop (a + ((textL x.name).length : Int)).toNat = textL x.value ++ (encB mid ++ rest) := by
      rw [show (a + ((textL x.name).length : Int)).toNat = a.toNat + (textL x.name).length by omega, ← List.drop_drop, h, List.append_assoc, List.drop_left, List.append_assoc]
    have r2 := readT_at (v := x.value) (rest := encB mid ++ rest) (by omega) d1 (by omega)
    have d2 : s.drop (a + ((textL x.name).length : Int) + ((textL x.value).length : Int)).toNat = encB mid ++ rest := by
      rw [show (a + ((textL x.name).length : Int) + ((textL x.value).length : Int)).toNat = (a + ((textL x.name).length : Int)).toNat + (textL x.value).length by omega, ← List.drop_drop, d1, List.drop_left]
    rw [List.length_cons, decT_go r1 r2 f1 f2 (badN_up hu), ih _ _ (by omega) d2 (fun y hy => hf y (by simp [hy])) (fun y hy => hz y (by simp [hy])) (by simpa using hu)]
    simp only [Prod.mk.injEq, and_true, e0, List.length_append, List.append_assoc, List.singleton_append, true_and]
    omega
/-- a set's bytes are read as the set -/
theorem decL_at {s rest : List UInt8} {L : List Lbl} {a : Int} (hv : validP L) (h0 : 0 ≤ a) (h : s.drop a.toNat = (uintL L.length ++ encB L) ++ rest) : decL s a = (L, a + (uintL L.length ++ encB L).length, 0) := by
  obtain ⟨h1, h2, h3⟩ := makeErr_ok hv.1
  have hz := (valid_small hv).2
  have hu := readU_at (rest := encB L ++ rest) h0 (by rw [h, List.append_assoc]) (by omega)
  rw [decL_go hu (by omega) (by omega), decT_at s rest L [] _ (by omega) (by
    rw [show (a + ((uintL L.length).length : Int)).toNat = a.toNat + (uintL L.length).length by omega, ← List.drop_drop, h, List.append_assoc, List.drop_left]) (make_fits h3) hz hv.2]
  simp only [List.nil_append, Prod.mk.injEq, and_true, true_and, List.length_append]
  omega

theorem name_no {nm : ByteArray} (h : fitN nm = true) (k : Nat) : nm.data.toList[k]? ≠ some 61 := by
  intro hk
  unfold fitN at h
  rw [Bool.and_eq_true] at h
  have := (nameAll_iff _).1 h.1 k 61 (List.getElem?_eq_some_iff.1 hk).1 hk
  simp [nameB, letterB, digitB] at this
theorem unqO_at {s : ByteArray} {k : Nat} {v t : List UInt8} (h : s.data.toList.drop k = quoteL v ++ t) : unqO s k = some (v, k + (quoteL v).length) := by
  have h34 : s.data.toList[k]? = some 34 := by
    have : (s.data.toList.drop k)[0]? = some 34 := by rw [h]; simp [quoteL]
    rwa [List.getElem?_drop, Nat.add_zero] at this
  have h2 : s.data.toList.drop (k + 1) = quoL v ++ 34 :: t := by
    rw [← List.drop_drop, h]; simp [quoteL]
  rw [unqO, if_pos h34, h2, parQ_quo]
  simp [quoteL]; omega
theorem join_cons (x : Lbl) (r : List Lbl) : joinL ((x :: r).map partB) = partL x ++ (r.map partB).flatMap (fun y => 44 :: y.data.toList) := by simp [joinL, partB]
theorem parR_at (s : ByteArray) : ∀ (mid : List Lbl) (f a : Nat) (out : List Lbl), mid ≠ [] → mid.length ≤ f → out.length + mid.length ≤ 8 → (∀ x ∈ mid, fitN x.name = true) → s.data.toList.drop a = joinL (mid.map partB) → parR s f a out = some (out ++ mid) := by
  intro mid
  induction mid with
  | nil => intro f a out h; exact absurd rfl h
  | cons x r ih =>
    intro f a out _ hf h8 hx h
    obtain ⟨f, rfl⟩ : ∃ g, f = g + 1 := ⟨f - 1, by simp at hf; omega⟩
    rw [join_cons] at h
    obtain ⟨T, hT⟩ : ∃ T, (r.map partB).flatMap (fun y => 44 :: y.data.toList) = T := ⟨_, rfl⟩
    rw [hT] at h
    simp only [List.length_cons] at hf h8
    have h' : s.data.toList.drop a = x.name.data.toList ++ (61 :: (quoteL x.value.data.toList ++ T)) := by rw [h, partL]; simp
    have en : x.name.data.toList.length = x.name.size := rfl
    have hj : Lib.indexByte (s.data.toList.drop a) 61 = (x.name.size : Nat) := ib_at (by rw [h', List.getElem?_append_right (by omega), en, Nat.sub_self]; rfl) (fun k hk => by
      rw [h', List.getElem?_append_left (by omega)]
      exact name_no (hx x (by simp)) k)
    have hd : s.data.toList.drop (a + x.name.size + 1) = quoteL x.value.data.toList ++ T := by
      rw [show a + x.name.size + 1 = a + (x.name.size + 1) by omega, ← List.drop_drop, h', ← List.drop_drop, ← en, List.drop_left]; rfl
    have hu := unqO_at hd
    have hE : s.extract a (a + x.name.size) = x.name := bytes_eq (by rw [ext_list, h', Nat.add_sub_cancel_left, ← en, List.take_left])
    have hn := (unqO_in hu).2.1
    have hdn : s.data.toList.drop (a + x.name.size + 1 + (quoteL x.value.data.toList).length) = T := by rw [← List.drop_drop, hd, List.drop_left]
    have hxe : (⟨s.extract a (a + x.name.size), ⟨x.value.data.toList.toArray⟩⟩ : Lbl) = x := by rw [hE]
    cases r with
    | nil =>
      have hT0 : T = [] := by rw [← hT]; rfl
      rw [hT0] at hdn
      have hlen := List.drop_eq_nil_iff.1 hdn
      have e2 : s.data.toList.length = s.size := rfl
      rw [parR_end hj hu (by omega) (by omega), hxe]
    | cons y r =>
      have hT1 : T = 44 :: joinL ((y :: r).map partB) := by rw [← hT]; simp [joinL, partB]
      rw [hT1] at hdn
      have h44 : s.data.toList[a + x.name.size + 1 + (quoteL x.value.data.toList).length]? = some 44 := by
        have : (s.data.toList.drop (a + x.name.size + 1 + (quoteL x.value.data.toList).length))[0]? = some 44 := by rw [hdn]; rfl
        rwa [List.getElem?_drop, Nat.add_zero] at this
      have hlt := (List.getElem?_eq_some_iff.1 h44).1
      have e2 : s.data.toList.length = s.size := rfl
      rw [parR_more hj hu (by omega) (by omega) h44, hxe, ih f _ _ (by simp) (by omega) (by rw [List.length_append, List.length_singleton]; omega) (fun z hz => hx z (by simp [hz])) (by rw [← List.drop_drop, hdn]; rfl)]
      simp
/-- a set's text is read as the set -/
theorem readL_at {L : List Lbl} (hv : validP L) : readL ⟨(showL L).toArray⟩ = (L, 0) := by
  obtain ⟨h1, h2, h3⟩ := makeErr_ok hv.1
  have hp := parR_at ⟨(showL L).toArray⟩ L 9 0 [] (fun e => by rw [e] at h1; simp at h1) (by omega) (by simp; omega) (fun x hx => (make_fits h3 x hx).1) (by simp [showL, hv, showP])
  rw [List.nil_append] at hp
  exact readL_yes hp (decide_eq_true hv)
end Go.Proofs.YtbijjjhfekkfaaaGreat

namespace Go.Proofs.YtbijjjhfekkfaaaGreat
set_option maxRecDepth 100000
open Go.RowKit

/-! plain -/
theorem enc_inj {l k : List Lbl} (hl : validP l) (hk : validP k) (h : (encLb l).1 = (encLb k).1) : l = k := by
  rw [encLb_ok hl, encLb_ok hk] at h
  have e : uintL l.length ++ encB l = uintL k.length ++ encB k := by simpa using h
  have a := decL_at (s := uintL l.length ++ encB l) (rest := []) (a := 0) hl (by omega) (by simp)
  have b := decL_at (s := uintL l.length ++ encB l) (rest := []) (a := 0) hk (by omega) (by simp [e])
  rw [a] at b
  exact congrArg Prod.fst b
theorem enc_fit {l : List Lbl} : (encLb l).2 = 0 ↔ validP l := by
  constructor
  · intro h
    by_cases h1 : makeErr l = 0
    · by_cases h2 : validP l
      · exact h2
      · rw [encLb_bad h1 h2] at h; cases h
    · rw [encLb_err h1] at h
      simp only at h
      omega
  · intro h
    rw [encLb_ok h]
open Classical in
/-- the number of a set -/
noncomputable def atE (E : List (List Lbl)) (l : List Lbl) : Option Nat := E.findIdx? fun x => decide (x = l)
theorem atE_none {E : List (List Lbl)} {l : List Lbl} : atE E l = none ↔ l ∉ E := by
  simp only [atE, List.findIdx?_eq_none_iff, decide_eq_false_iff_not]
  exact ⟨fun h hm => h l hm rfl, fun h x hx e => h (e ▸ hx)⟩
theorem atE_some {E : List (List Lbl)} {l : List Lbl} {i : Nat} (h : atE E l = some i) : E[i]? = some l := by
  obtain ⟨hi, h1, _⟩ := List.findIdx?_eq_some_iff_getElem.1 h
  rw [List.getElem?_eq_getElem hi]
  simpa using h1
theorem atE_at {E : List (List Lbl)} (hn : E.Nodup) {l : List Lbl} {i : Nat} (h : E[i]? = some l) : atE E l = some i := by
  obtain ⟨hi, e⟩ := List.getElem?_eq_some_iff.1 h
  refine List.findIdx?_eq_some_iff_getElem.2 ⟨hi, by simpa using e, fun j hj => ?_⟩
  have := List.pairwise_iff_getElem.1 hn j i (by omega) hi hj
  rw [e] at this
  simpa using this
open Classical in
theorem atE_enc {E : List (List Lbl)} (hE : ∀ x ∈ E, validP x) {l : List Lbl} (hl : validP l) : E.findIdx? (fun x => decide ((encLb x).1 = (encLb l).1)) = atE E l := by
  have : ∀ x ∈ E, decide ((encLb x).1 = (encLb l).1) = decide (x = l) := fun x hx => decide_eq_decide.2 ⟨fun h => enc_inj (hE x hx) hl h, fun h => by rw [h]⟩
  induction E with
  | nil => rfl
  | cons x E ih =>
    simp only [atE, List.findIdx?_cons]
    rw [this x (by simp), ih (fun y hy => hE y (by simp [hy])) fun y hy => this y (by simp [hy])]
    rfl
/-- what an index's Add answers, and what it is then -/
noncomputable def addE (E : List (List Lbl)) (l : List Lbl) : (Int × Bool × Int) × List (List Lbl) :=
  if (encLb l).2 ≠ 0 then ((0, false, (encLb l).2), E) else
  match atE E l with
  | some i => (((i : Nat), false, 0), E)
  | none => ((E.length, true, 0), E ++ [l])
/-- all labels, each with its set's number -/
def flatE (E : List (List Lbl)) : List (Int × Lbl) := E.zipIdx.flatMap fun p => p.1.map fun x => (((p.2 : Nat) : Int), x)
theorem flatE_snoc (E : List (List Lbl)) (l : List Lbl) : flatE (E ++ [l]) = flatE E ++ l.map fun x => (((E.length : Nat) : Int), x) := by simp [flatE, List.zipIdx_append]
theorem flatE_len (E : List (List Lbl)) (h : ∀ l ∈ E, l.length ≤ 8) : (flatE E).length ≤ 8 * E.length := by
  unfold flatE
  generalize 0 = k
  induction E generalizing k with
  | nil => simp
  | cons l E ih =>
    have h1 := ih (fun x hx => h x (by simp [hx])) (k + 1)
    have h2 := h l (by simp)
    simp only [List.zipIdx_cons, List.flatMap_cons, List.length_append, List.length_map, List.length_cons]
    omega

/-! how it lies -/
/-- a set in a block of its own -/
structure SetR where
  v : Value
  l : List Lbl
/-- all but the lists -/
structure IdxB (w : World) (base p : Nat) (sv : Value) (L : List SetR) (bn bl : Nat) (mn : List (Value × Value)) : Prop where
  blk : Whole1 w p 192 #[sv, .map (some bn), .map (some bl)]
  pb : base ≤ p
  sets : w.ownsRow base 53 1 sv L.length (L.map SetR.v)
  lab : ∀ s ∈ L, w.ownsRow base 114 2 s.v s.l.length (s.l.flatMap Lbl.cells)
  num : MapV IsStr w bn mn
  nb : base ≤ bn
  ne : bn ≠ bl
open Classical in
structure IdxG (w : World) (base p : Nat) (sv : Value) (L : List SetR) (bn bl : Nat) (mn ml : List (Value × Value)) (oM : Nat → Option ByteArray) (oI : Nat → Option Lbl) : Prop where
  b : IdxB w base p sv L bn bl mn
  val : ∀ s ∈ L, validP s.l
  dist : (L.map SetR.l).Nodup
  find : ∀ s : ByteArray, atV mn (.string s) = ((L.map SetR.l).findIdx? fun x => decide ((encLb x).1 = s)).map fun i => .int .i64 (i : Nat)
  lists : ListsG w base bl ml oM oI (fun nm => ∃ y ∈ flatE (L.map SetR.l), y.2.name = nm) (flatE (L.map SetR.l))
  noM : oM bn = none
/-- AN INDEX OF THESE SETS -/
def Idx (w : World) (base p : Nat) (E : List (List Lbl)) : Prop := ∃ sv L bn bl mn ml oM oI, IdxG w base p sv L bn bl mn ml oM oI ∧ L.map SetR.l = E
section
variable {w w' : World} {base b p bn bl : Nat} {sv : Value} {L : List SetR} {mn ml : List (Value × Value)} {oM : Nat → Option ByteArray} {oI : Nat → Option Lbl} {ts : List TypeId} {mp : Bool}
theorem IdxB.turn (h : IdxB w base p sv L bn bl mn) (k : Turn b ts false w w') (h1 : 192 ∉ ts) (h2 : 53 ∉ ts) (h3 : 114 ∉ ts) : IdxB w' base p sv L bn bl mn :=
  ⟨k.whole h.blk (.inr h1), h.pb, k.own h.sets (.inl h2), fun s hs => k.own (h.lab s hs) (.inl h3), k.mapV h.num (.inr rfl), h.nb, h.ne⟩
theorem IdxB.store {g : Nat} {m : List (Value × Value)} (h : IdxB w base p sv L bn bl mn) (hm : MapV IsStr w g m) (hg : w.grownBy w' (some g)) (hne : g ≠ bn) : IdxB w' base p sv L bn bl mn := by
  have k : Turn 0 [] true w w' := Turn.of_map hm (Nat.zero_le _) hg
  exact ⟨k.whole h.blk (.inr (by simp)), h.pb, k.own h.sets (.inl (by simp)), fun s hs => k.own (h.lab s hs) (.inl (by simp)), h.num.kept (hg.block bn h.num.lt (by simpa using Ne.symm hne)), h.nb, h.ne⟩
theorem IdxG.turn (h : IdxG w base p sv L bn bl mn ml oM oI) (k : Turn b ts false w w') (h1 : 192 ∉ ts) (h2 : 53 ∉ ts) (h3 : 114 ∉ ts) (h4 : 3 ∉ ts) : IdxG w' base p sv L bn bl mn ml oM oI :=
  ⟨h.b.turn k h1 h2 h3, h.val, h.dist, h.find, h.lists.turn k h4, h.noM⟩
theorem Idx.turn {E : List (List Lbl)} (h : Idx w base p E) (k : Turn b ts false w w') (h1 : 192 ∉ ts) (h2 : 53 ∉ ts) (h3 : 114 ∉ ts) (h4 : 3 ∉ ts) : Idx w' base p E := by
  obtain ⟨sv, L, bn, bl, mn, ml, oM, oI, h, e⟩ := h
  exact ⟨sv, L, bn, bl, mn, ml, oM, oI, h.turn k h1 h2 h3 h4, e⟩
theorem Idx.below {E : List (List Lbl)} (h : Idx w base p E) (k : Below w.heap.size w w') : Idx w' base p E :=
  h.turn (Turn.of_below k w.heap.size [] false) (by simp) (by simp) (by simp) (by simp)
theorem Idx.valid {E : List (List Lbl)} (h : Idx w base p E) : (∀ l ∈ E, validP l) ∧ E.Nodup := by
  obtain ⟨sv, L, bn, bl, mn, ml, oM, oI, h, rfl⟩ := h
  exact ⟨fun l hl => by obtain ⟨s, hs, rfl⟩ := List.mem_map.1 hl; exact h.val s hs, h.dist⟩
/-- the number that is kept at a set's bytes -/
theorem IdxG.at_ (h : IdxG w base p sv L bn bl mn ml oM oI) {l : List Lbl} (hl : validP l) : atV mn (.string (encLb l).1) = (atE (L.map SetR.l) l).map fun i => .int .i64 (i : Nat) := by
  rw [h.find, atE_enc (fun x hx => by obtain ⟨s, hs, rfl⟩ := List.mem_map.1 hx; exact h.val s hs) hl]
open Classical in
/-- one set more: all of it -/
theorem IdxG.added {w5 : World} {x : SetR} {mn' ml' : List (Value × Value)} {sv' : Value} {oM' : Nat → Option ByteArray} {oI' : Nat → Option Lbl} (h : IdxG w base p sv L bn bl mn ml oM oI) (hx : validP x.l) (h0 : atE (L.map SetR.l) x.l = none)
    (hmn : mn' = putV mn (.string (encLb x.l).1) (.int .i64 (L.length : Nat))) (hb : IdxB w5 base p sv' (L ++ [x]) bn bl mn')
    (hl : ListsG w5 base bl ml' oM' oI' (fun nm => ∃ y ∈ flatE (L.map SetR.l) ++ x.l.map (fun z => (((L.length : Nat) : Int), z)), y.2.name = nm) (flatE (L.map SetR.l) ++ x.l.map fun z => (((L.length : Nat) : Int), z))) (ho : oM' bn = none) :
    IdxG w5 base p sv' (L ++ [x]) bn bl mn' ml' oM' oI' := by
  have hE : ∀ y ∈ L.map SetR.l, validP y := fun y hy => by obtain ⟨s, hs, rfl⟩ := List.mem_map.1 hy; exact h.val s hs
  have hf : flatE ((L ++ [x]).map SetR.l) = flatE (L.map SetR.l) ++ x.l.map fun z => (((L.length : Nat) : Int), z) := by
    rw [List.map_append, List.map_singleton, flatE_snoc, List.length_map]
  refine ⟨hb, fun s hs => ?_, ?_, fun s => ?_, by rw [hf]; exact hl, ho⟩
  · rcases List.mem_append.1 hs with hs | hs
    · exact h.val s hs
    · simp at hs; rw [hs]; exact hx
  · rw [List.map_append, List.map_singleton, List.nodup_append]
    refine ⟨h.dist, by simp, fun a ha c hc e => ?_⟩
    simp at hc
    rw [hc] at e
    rw [e] at ha
    exact atE_none.1 h0 ha
  · rw [hmn]
    by_cases e : s = (encLb x.l).1
    · subst e
      rw [atV_put_same, List.map_append, List.map_singleton, List.findIdx?_append, atE_enc hE hx, h0]
      simp
    · rw [atV_put_other _ _ _ (by simpa using e), h.find, List.map_append, List.map_singleton, List.findIdx?_append]
      have : List.findIdx? (fun y => decide ((encLb y).1 = s)) [x.l] = none := by simp [Ne.symm e]
      rw [this]
      simp
end
end Go.Proofs.YtbijjjhfekkfaaaGreat

namespace Go.Proofs.YtbijjjhfekkfaaaGreat
set_option maxRecDepth 100000
open Go.RowKit

theorem mk81 (w : World) : (Instr.makeMap 189 none).run Tryz.prog w = .ok (.map (some w.heap.size)) (w.alloc (.map #[] 0)) := by simp [Instr.makeMap, Result.andThen]
theorem mk82 (w : World) : (Instr.makeMap 190 none).run Tryz.prog w = .ok (.map (some w.heap.size)) (w.alloc (.map #[] 0)) := by simp [Instr.makeMap, Result.andThen]
theorem idx_made {w w' : World} {base : Nat} (hb : base ≤ w.heap.size) (hw : ((w.alloc (.map #[] 0)).alloc (.map #[] 0)).alloc (.cells #[.slice none 0 0, .map (some w.heap.size), .map (some (w.heap.size + 1))] 192) = w') : Idx w' base (w.heap.size + 2) [] ∧ Below w.heap.size w w' := by
  subst hw
  have hblk := Whole1.new ((w.alloc (.map #[] 0)).alloc (.map #[] 0)) 192 #[.slice none 0 0, .map (some w.heap.size), .map (some (w.heap.size + 1))]
  have hm1 := mapV_made IsStr w
  have hm2 := mapV_made IsStr (w.alloc (.map #[] 0))
  have b1 : Below (w.alloc (.map #[] 0)).heap.size (w.alloc (.map #[] 0)) (((w.alloc (.map #[] 0)).alloc (.map #[] 0)).alloc (.cells #[.slice none 0 0, .map (some w.heap.size), .map (some (w.heap.size + 1))] 192)) := ((Below.refl _ _).alloc (Nat.le_refl _) _).alloc (by simp) _
  have b2 : Below ((w.alloc (.map #[] 0)).alloc (.map #[] 0)).heap.size ((w.alloc (.map #[] 0)).alloc (.map #[] 0)) (((w.alloc (.map #[] 0)).alloc (.map #[] 0)).alloc (.cells #[.slice none 0 0, .map (some w.heap.size), .map (some (w.heap.size + 1))] 192)) := (Below.refl _ _).alloc (Nat.le_refl _) _
  have h1 := hm1.kept (b1.block _ hm1.lt)
  have h2 := hm2.kept (b2.block _ hm2.lt)
  simp only [World.size_alloc] at hblk h2
  refine ⟨⟨.slice none 0 0, [], w.heap.size, w.heap.size + 1, [], [], fun _ => none, fun _ => none, ⟨⟨hblk, by omega, World.ownsRow_nil _ _ _ _, by simp, h1, by omega, by omega⟩, by simp, by simp, fun s => by simp [atV], ?_, rfl⟩, rfl⟩, ?_⟩
  · have := listsG_new h2 (base := base) (by omega)
    simpa [flatE] using this
  · exact ((((Below.refl w.heap.size w).alloc (Nat.le_refl _) _).alloc (by simp) _).alloc (by simp; omega) _)
theorem idx_new (w : World) {base : Nat} (hb : base ≤ w.heap.size) :
    Calls Tryz.prog 78 #[] w fun e w' => ∃ p, e = .returned (.pointer (some ⟨p, 0, none⟩)) ∧ Idx w' base p [] ∧ Below w.heap.size w w' := by
  have M1 := mk81
  have M2 := mk82
  have HI := hidden (idx_made hb rfl)
  go_enter Tryz.func78, Tryz.ntmps78
  go_wp2_with fail
  go_ret
  exact ⟨_, rfl, HI.out⟩
theorem idx_len (w : World) {base p : Nat} {E : List (List Lbl)} (h : Idx w base p E) :
    Calls Tryz.prog 27 #[.pointer (some ⟨p, 0, none⟩)] w fun e w' => e = .returned (.int .i64 (E.length : Int)) ∧ w' = w := by
  obtain ⟨sv, L, bn, bl, mn, ml, oM, oI, h, rfl⟩ := h
  obtain ⟨A, c, rfl, _, _⟩ := own_shape h.b.sets
  have c0 := h.b.blk.cell 0
  rw [List.length_map]
  clear h
  go_enter Tryz.func27, Tryz.ntmps27
  go_wp2_with fail
  go_ret
  exact ⟨rfl, rfl⟩
end Go.Proofs.YtbijjjhfekkfaaaGreat

namespace Go.Proofs.YtbijjjhfekkfaaaGreat
set_option maxRecDepth 100000
open Go.RowKit

theorem zero_i (w : World) : (zeroValue 3).run Tryz.prog w = .ok (.int .i64 0) w := by
  have h : (Tryz.prog.info? 3).map (fun i => i.zero) = some (some (.int .i64 0)) := by kernel_rfl
  obtain ⟨i, h1, h2⟩ := Option.map_eq_some_iff.1 h
  simp [zeroValue, typeInfo, h1, h2]
theorem keyStr : KeyEq Tryz.prog 9 (fun _ => IsStr) := keyEq_string Tryz.underlying9
theorem MapV.strs {w : World} {b : Nat} {m : List (Value × Value)} (h : MapV IsStr w b m) : ∀ p ∈ m, IsStr p.1 := h.2

theorem valid_pos {l : List Lbl} (h : validP l) : 0 < l.length := by
  rcases Nat.eq_zero_or_pos l.length with h0 | h0
  · have := h.1
    rw [makeErr, if_pos h0] at this
    cases this
  · exact h0
set_option maxHeartbeats 1600000 in
theorem idx_find (A : Option Addr) (n c : Nat) (l : List Lbl) (w : World) {base p : Nat} {E : List (List Lbl)} (h : Idx w base p E) (hl : LbF w A n l) (hnc : n ≤ c) :
    Calls Tryz.prog 91 #[.pointer (some ⟨p, 0, none⟩), .slice A n c] w fun e w' => e = .returned (.tuple #[.int .i64 (((atE E l).getD 0 : Nat) : Int), .bool (atE E l).isSome]) ∧ Below w.heap.size w w' := by
  have S1 := hidden (lenc_any A n c l w hl hnc)
  have hval := h.valid
  have H := hidden h
  obtain ⟨r, hr⟩ : ∃ r, atE E l = r := ⟨_, rfl⟩
  rw [hr]
  have HR := hidden hr
  clear h hl hr
  go_enter Tryz.func91, Tryz.ntmps91
  go_wp2_with fail
  refine S1.out.mono ?_
  rintro e w1 ⟨rfl, b1⟩
  have h1 := H.out.below b1
  by_cases hv : validP l
  · have e2 : (encLb l).2 = 0 := enc_fit.2 hv
    obtain ⟨sv, L, bn, bl, mn, ml, oM, oI, h1, rfl⟩ := h1
    have c1 := h1.b.blk.cell 1
    have hat := h1.at_ hv
    have hL := h1.b.num.look keyStr h1.b.num.strs Tryz.underlying189 (zero_i w1) (key := .string (encLb l).1) ⟨_, rfl⟩ true
    simp only [if_true] at hL
    rw [hat] at hL
    rw [HR.out] at hL
    have hL2 : (Instr.lookup 189 (.map (some bn)) (.string (encLb l).1) true).run Tryz.prog w1 = .ok (.tuple #[.int .i64 ((r.getD 0 : Nat) : Int), .bool r.isSome]) w1 := by
      rw [hL]
      cases r <;> rfl
    rw [e2]
    generalize (encLb l).1 = key at *
    clear hL hat h1 S1
    go_wp2_with fail
    go_ret2
    exact ⟨rfl, b1⟩
  · have e2 : ¬ (encLb l).2 = 0 := fun h => hv (enc_fit.1 h)
    have hne : ((encLb l).2 != 0) = true := by simpa using e2
    have hno : atE E l = none := atE_none.2 fun hm => hv (hval.1 l hm)
    obtain rfl : r = none := by rw [← HR.out]; exact hno
    generalize (encLb l).2 = er at *
    clear h1 S1
    go_wp2_with fail
    go_ret2
    exact ⟨rfl, b1⟩

set_option maxHeartbeats 1600000 in
theorem idx_set (i : Nat) (w : World) {base p : Nat} {E : List (List Lbl)} {l : List Lbl} (h : Idx w base p E) (hi : E[i]? = some l) (hE : E.length ≤ 4611686018427387904) :
    Calls Tryz.prog 28 #[.pointer (some ⟨p, 0, none⟩), .int .i64 (i : Int)] w fun e w' => ∃ v, e = .returned (.tuple #[v, .bool true]) ∧ w'.ownsRow w.heap.size 114 2 v l.length (l.flatMap Lbl.cells) ∧ Below w.heap.size w w' := by
  have S1 := hidden (idx_len w h)
  have hval := h.valid
  have hil := (List.getElem?_eq_some_iff.1 hi).1
  obtain ⟨sv, L, bn, bl, mn, ml, oM, oI, h, rfl⟩ := h
  obtain ⟨s, hs, rfl⟩ : ∃ s, L[i]? = some s ∧ s.l = l := by
    rw [List.getElem?_map] at hi
    obtain ⟨s, h1, h2⟩ := Option.map_eq_some_iff.1 hi
    exact ⟨s, h1, h2⟩
  obtain ⟨A, c, rfl, _, hr⟩ := own_shape h.b.sets
  have c0 := h.b.blk.cell 0
  rw [List.length_map] at hil
  obtain ⟨g, o, rfl, hg, hc⟩ := hr.at_ (by omega)
  have cs : w.cell? ⟨g, o + i, none⟩ = some s.v := by
    rw [hc i (by simpa using hil), List.getElem?_map, hs]; rfl
  obtain ⟨A2, c2, hv2, _, hr2⟩ := own_shape (h.b.lab s (List.mem_of_getElem? hs))
  rw [hv2] at cs
  have hsv := valid_small (hval.1 s.l (List.mem_map.2 ⟨s, List.mem_of_getElem? hs, rfl⟩))
  have S2 := hidden (ClnLbl.cloneO_any A2 s.l.length c2 s.l w hr2 rfl (by omega))
  have hpos := valid_pos (hval.1 s.l (List.mem_map.2 ⟨s, List.mem_of_getElem? hs, rfl⟩))
  have i0 : ¬ (i : Int) < 0 := by omega
  have i1 : ¬ ((L.map SetR.l).length : Int) ≤ (i : Int) := by rw [List.length_map]; omega
  have i2 : (i : Int) < (L.length : Int) := by omega
  have i3 : (0 : Int) ≤ (i : Int) := by omega
  rw [List.length_map] at S1 i1
  clear h hr hc hr2 hv2 hi hs hval hE
  go_enter Tryz.func28, Tryz.ntmps28
  go_wp2_with fail
  refine S1.out.mono ?_
  rintro e w1 ⟨rfl, rfl⟩
  go_wp2_with fail
  refine S2.out.mono ?_
  rintro e w2 ⟨v, rfl, _, _, _, _, b2, ho⟩
  have HO := hidden (ho hpos)
  go_wp2_with fail
  go_ret2
  exact ⟨v.val, rfl, HO.out, b2⟩
theorem idx_set_out (i : Int) (w : World) {base p : Nat} {E : List (List Lbl)} (h : Idx w base p E) (hi : i < 0 ∨ (E.length : Int) ≤ i) :
    Calls Tryz.prog 28 #[.pointer (some ⟨p, 0, none⟩), .int .i64 i] w fun e w' => e = .returned (.tuple #[.slice none 0 0, .bool false]) ∧ w' = w := by
  have S1 := hidden (idx_len w h)
  clear h
  go_enter Tryz.func28, Tryz.ntmps28
  by_cases hn : i < 0
  · go_wp2_with fail
    go_ret2
    exact ⟨rfl, rfl⟩
  · have hl : (E.length : Int) ≤ i := by omega
    go_wp2_with fail
    refine S1.out.mono ?_
    rintro e w1 ⟨rfl, rfl⟩
    go_wp2_with fail
    go_ret2
    exact ⟨rfl, rfl⟩
end Go.Proofs.YtbijjjhfekkfaaaGreat

namespace Go.Proofs.YtbijjjhfekkfaaaGreat
set_option maxRecDepth 100000
open Go.RowKit

theorem ListsG.iff {w : World} {base bl : Nat} {ml : List (Value × Value)} {oM : Nat → Option ByteArray} {oI : Nat → Option Lbl} {N N' : ByteArray → Prop} {G : List (Int × Lbl)} (h : ListsG w base bl ml oM oI N G) (k : ∀ x, N x ↔ N' x) : ListsG w base bl ml oM oI N' G :=
  ⟨h.map, h.old, fun nm hn hN => h.miss nm hn ((k nm).2 hN), fun nm v hv => by
    obtain ⟨h1, h2⟩ := h.hit nm v hv
    exact ⟨(k nm).1 h1, h2⟩, fun y hy => (k _).1 (h.all y hy)⟩
theorem Inner.row {w : World} {base : Nat} {oI : Nat → Option Lbl} {mi : List (Value × Value)} {G : List (Int × Lbl)} {nm : ByteArray} (h : Inner w base oI mi G nm) (vl : ByteArray) : w.ownsRow base 3 1 ((atV mi (.string vl)).getD (.slice none 0 0)) (ixs G ⟨nm, vl⟩).length ((ixs G ⟨nm, vl⟩).map (Value.int .i64)) := by
  cases h0 : atV mi (.string vl) with
  | none => rw [ixs_none (h.miss vl h0)]; exact World.ownsRow_nil _ _ _ _
  | some u => exact (h.hit vl u h0).2.1
/-- the names of what was laid -/
def nameIn (G : List (Int × Lbl)) (nm : ByteArray) : Prop := ∃ y ∈ G, y.2.name = nm
/-- an index while a set is added: its numbers so far -/
structure AddI (w0 w : World) (base p : Nat) (sv : Value) (L : List SetR) (bn bl : Nat) (mn : List (Value × Value)) (G : List (Int × Lbl)) : Prop where
  b : IdxB w base p sv L bn bl mn
  lists : ∃ ml oM oI, ListsG w base bl ml oM oI (nameIn G) G ∧ oM bn = none
  turn : Turn base [192, 53, 3] true w0 w
theorem AddI.below {w0 w w' : World} {base p bn bl : Nat} {sv : Value} {L : List SetR} {mn : List (Value × Value)} {G : List (Int × Lbl)} (h : AddI w0 w base p sv L bn bl mn G) (hb : Below w.heap.size w w') : AddI w0 w' base p sv L bn bl mn G := by
  obtain ⟨ml, oM, oI, h1, h2⟩ := h.lists
  exact ⟨h.b.turn (Turn.of_below hb base [] false) (by simp) (by simp) (by simp), ⟨ml, oM, oI, h1.below hb, h2⟩, h.turn.trans (Turn.of_below hb _ _ _)⟩
theorem own_downA {w : World} {B B' n sz : Nat} {e : TypeId} {v : Value} {xs : List Value} (h : w.ownsRow B e sz v n xs) (hB : B' ≤ B) : w.ownsRow B' e sz v n xs :=
  ⟨h.1, h.2.imp id fun ⟨g, cap, cur, h1, h2, r⟩ => ⟨g, cap, cur, h1, Nat.le_trans hB h2, r⟩⟩
/-- labels in a block of labels -/
structure LbT (w : World) (A : Option Addr) (n : Nat) (l : List Lbl) : Prop where
  f : LbF w A n l
  t : 0 < n → ∀ g o, A = some ⟨g, o, none⟩ → ∃ cs, Whole1 w g 114 cs
theorem LbT.turn {w w' : World} {A : Option Addr} {n : Nat} {l : List Lbl} {base : Nat} {ts : List TypeId} {mp : Bool} (h : LbT w A n l) (k : Turn base ts mp w w') (hn : 114 ∉ ts) : LbT w' A n l := by
  have hk : 0 < n → ∀ g o, A = some ⟨g, o, none⟩ → w'.heap[g]? = w.heap[g]? := fun h0 g o e => by
    obtain ⟨cs, hw⟩ := h.t h0 g o e
    exact (show w'.heap[g]? = some (.cells cs 114 (0, 0)) from k.whole hw (.inr hn)).trans (show w.heap[g]? = some (.cells cs 114 (0, 0)) from hw).symm
  refine ⟨⟨⟨h.f.row.len, fun h0 => ?_⟩, h.f.len, h.f.fit, h.f.sz⟩, fun h0 g o e => ?_⟩
  · obtain ⟨g, o, e, hb, hc⟩ := h.f.row.at_ h0
    exact ⟨g, o, e, Nat.lt_of_lt_of_le hb k.size, fun j hj => (World.cell?_of_block (w := w) (a := ⟨g, o + j, none⟩) (hk h0 g o e)).trans (hc j hj)⟩
  · obtain ⟨cs, hw⟩ := h.t h0 g o e
    exact ⟨cs, k.whole hw (.inr hn)⟩
theorem LbT.below {w w' : World} {A : Option Addr} {n : Nat} {l : List Lbl} (h : LbT w A n l) (hb : Below w.heap.size w w') : LbT w' A n l := h.turn (Turn.of_below hb 0 [] false) (by simp)
theorem lbT_own {w : World} {B n : Nat} {l : List Lbl} {A : Option Addr} {c : Nat} (h : w.ownsRow B 114 2 (.slice A n c) n (l.flatMap Lbl.cells)) (hl : LbF w A n l) : LbT w A n l :=
  ⟨hl, fun h0 g o e => by
    rcases h.2 with ⟨_, h1⟩ | ⟨g', cap, cur, h1, _, h3, _⟩
    · omega
    · simp only [Value.slice.injEq] at h1
      rw [h1.1] at e
      simp only [Option.some.injEq, Addr.mk.injEq] at e
      rw [← e.1]
      exact ⟨cur, h3⟩⟩
/-- the sets' row has grown, and was laid -/
theorem IdxB.grown {w w3 w10 : World} {base p bn bl : Nat} {sv v10 nv : Value} {L : List SetR} {mn : List (Value × Value)} {l : List Lbl} (h : IdxB w base p sv L bn bl mn) (hb : base ≤ w.heap.size) (b3 : Below w.heap.size w w3) (ho3 : w3.ownsRow w.heap.size 114 2 nv l.length (l.flatMap Lbl.cells))
    (hown : w10.ownsRow base 53 1 v10 (L.length + 1) (L.map SetR.v ++ [nv])) (hg : w3.grownBy w10 sv.ownBlock) :
    Whole1 w10 p 192 #[sv, .map (some bn), .map (some bl)] ∧ IdxB (w10.setCell ⟨p, 0, none⟩ v10) base p v10 (L ++ [⟨nv, l⟩]) bn bl mn ∧ Turn base [192, 53] false w (w10.setCell ⟨p, 0, none⟩ v10) := by
  have t3 := Turn.of_below b3 base [192, 53] false
  have h3 := h.turn (Turn.of_below b3 base [] false) (by simp) (by simp) (by simp)
  have t10 : Turn base [53] false w3 w10 := Turn.of_own h3.sets (Nat.le_refl _) (by simp) hg
  have hp10 : Whole1 w10 p 192 #[sv, .map (some bn), .map (some bl)] := t10.whole h3.blk (.inr (by decide))
  have t11 : Turn base [192] false w10 (w10.setCell ⟨p, 0, none⟩ v10) := Turn.put hp10 h.pb (by simp) 0 v10
  refine ⟨hp10, ⟨hp10.put 0 v10, h.pb, ?_, fun s hs => ?_, t11.mapV (t10.mapV h3.num (.inr rfl)) (.inr rfl), h.nb, h.ne⟩, ?_⟩
  · have := t11.own hown (.inl (by decide))
    simpa using this
  · rcases List.mem_append.1 hs with hs | hs
    · exact t11.own (t10.own (h3.lab s hs) (.inl (by decide))) (.inl (by decide))
    · rw [List.mem_singleton.1 hs]
      exact own_downA (t11.own (t10.own ho3 (.inl (by decide))) (.inl (by decide))) hb
  · exact t3.trans ((t10.wider (Nat.le_refl _) (by simp) (by simp)).trans (t11.wider (Nat.le_refl _) (by simp) (by simp)))
/-- one label more was laid -/
theorem AddI.step {w0 w W1 w10 w11 : World} {base p bn bl bi k : Nat} {sv : Value} {L : List SetR} {mn ml mi : List (Value × Value)} {oM : Nat → Option ByteArray} {oI : Nat → Option Lbl} {N : ByteArray → Prop} {G : List (Int × Lbl)} {x : Lbl} {n : Int} {u v' : Value} {xs : List Value} {j : Nat}
    (hB : IdxB w base p sv L bn bl mn) (hL : ListsG w base bl ml oM oI N G) (hN : ∀ nm, N nm ↔ (nameIn G nm ∨ nm = x.name)) (hoM : oM bn = none) (ho : atV ml (.string x.name) = some (.map (some bi))) (hT : Turn base [192, 53, 3] true w0 w)
    (hmi : MapV IsStr w bi mi) (hbi : base ≤ bi) (hoi : oM bi = some x.name) (hu : (atV mi (.string x.value)).getD (.slice none 0 0) = u) (hb1 : Below w.heap.size w W1) (hua : W1.ownsRow base 3 1 u j xs) (hown : w10.ownsRow base 3 1 v' k ((ixs G x).map (Value.int .i64) ++ [.int .i64 n])) (hg2 : W1.grownBy w10 u.ownBlock)
    (hv : v'.ownBlock = u.ownBlock ∨ v'.ownBlock = some W1.heap.size) (hst : MapV IsStr w11 bi (putV mi (.string x.value) v')) (hg3 : w10.grownBy w11 (some bi)) :
    AddI w0 w11 base p sv L bn bl mn (G ++ [(n, x)]) ∧ ∀ A k l, LbT w A k l → LbT w11 A k l := by
  have hLn := hL.added ho hmi hu hb1 (by rw [List.map_append]; exact hown) hg2 hv hst hg3
  have t1 : Turn base [] false w W1 := Turn.of_below hb1 _ _ _
  have t2 : Turn base [3] false W1 w10 := Turn.of_own hua (Nat.le_refl _) (by simp) hg2
  have m10 := t2.mapV (t1.mapV hmi (.inr rfl)) (.inr rfl)
  have t3 : Turn base [] true w10 w11 := Turn.of_map m10 hbi hg3
  have hne : bi ≠ bn := fun e => by rw [e, hoM] at hoi; cases hoi
  have hB' := ((hB.turn t1 (by simp) (by simp) (by simp)).turn t2 (by decide) (by decide) (by decide)).store m10 hg3 hne
  refine ⟨⟨hB', ⟨_, _, _, hLn.iff fun nm => ?_, ?_⟩, ?_⟩, fun A k l h => ((h.turn t1 (by simp)).turn t2 (by decide)).turn t3 (by simp)⟩
  · rw [hN]
    constructor
    · rintro (⟨y, hy, e⟩ | e)
      · exact ⟨y, List.mem_append_left _ hy, e⟩
      · exact ⟨(n, x), by simp, e.symm⟩
    · rintro ⟨y, hy, e⟩
      rcases List.mem_append.1 hy with hy | hy
      · exact .inl ⟨y, hy, e⟩
      · rw [List.mem_singleton.1 hy] at e
        exact .inr e.symm
  · exact hoM
  · exact hT.trans ((t1.wider (Nat.le_refl _) (by simp) (by simp)).trans ((t2.wider (Nat.le_refl _) (by simp) (by simp)).trans (t3.wider (Nat.le_refl _) (by simp) id)))
end Go.Proofs.YtbijjjhfekkfaaaGreat
