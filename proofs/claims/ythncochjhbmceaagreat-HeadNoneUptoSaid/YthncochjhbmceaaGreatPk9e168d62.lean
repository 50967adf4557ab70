/- labels.Unquote, walked: the value of a quotation and the place behind it. Condition: the text is not too long. The text of a set, read, plainly. No condition. Labels read from bytes, plainly. No condition. What is read of bytes and of texts is the one form of its set, plainly. No condition. -/
import Derived.Test.YthncochjhbmceaaGreatPkf70546c0
import Derived.Test.YthncochjhbmceaaGreatPk5edf48dd
import Derived.Lib.IndexLaws
namespace Go.Proofs.YthncochjhbmceaaGreat
set_option maxRecDepth 100000
open Go.RowKit

theorem parQ_what {s : ByteArray} {k : Nat} {u : List UInt8} {n : Nat} (h : parQ (s.data.toList.drop (k + 1)) = some (u, n)) : ∃ t, s.data.toList.drop (k + 1) = quoL u ++ 34 :: t ∧ n = (quoL u).length + 1 := parQ_form _ _ _ h
/-- what labels.Unquote answers -/
def unqP (s : ByteArray) (a : Int) : ByteArray × Int × Int := if 0 ≤ a then (match unqO s a.toNat with
  | some (v, n) => (⟨v.toArray⟩, (n : Nat), 0)
  | none => (⟨#[]⟩, 0, 21)) else (⟨#[]⟩, 0, 21)
theorem unqP_no {s : ByteArray} {k : Nat} (h : unqO s k = none) : unqP s (k : Int) = (⟨#[]⟩, 0, 21) := by
  rw [unqP, if_pos (by omega), Int.toNat_natCast, h]
theorem unqP_yes {s : ByteArray} {k n : Nat} {v : List UInt8} (h : unqO s k = some (v, n)) : unqP s (k : Int) = (⟨v.toArray⟩, ((n : Nat) : Int), 0) := by
  rw [unqP, if_pos (by omega), Int.toNat_natCast, h]
theorem unqR_yes {s : ByteArray} {k n : Nat} {v : List UInt8} (h : unqO s k = some (v, n)) : unqR s k = (⟨v.toArray⟩, ((n : Nat) : Int)) := by rw [unqR, h]
theorem unqP_neg {s : ByteArray} {a : Int} (h : a < 0) : unqP s a = (⟨#[]⟩, 0, 21) := by rw [unqP, if_neg (by omega)]

def strLen : Value → Nat
  | .string s => s.size
  | _ => 0
theorem list_at0 {l : List UInt8} {c : UInt8} (h : l[0]? = some c) : l = c :: l.drop 1 := by
  cases l with
  | nil => cases h
  | cons x r => injection h with h; subst h; rfl
theorem looStep_1 {l : List UInt8} {c : UInt8} (h : l[0]? = some c) (hc : c.toNat ≠ 92 ∨ l.length ≤ 1) : looStep l = (c, l.drop 1) := by
  rw [list_at0 h]
  match hr : l.drop 1 with
  | [] => rfl
  | d :: r =>
    have hn : ¬ c.toNat = 92 := by
      rcases hc with h | h
      · exact h
      · have := congrArg List.length hr
        simp at this; omega
    simp [looStep, hn]
theorem looStep_2 {l : List UInt8} {c d : UInt8} (h : l[0]? = some c) (hc : c.toNat = 92) (h2 : l[1]? = some d) (hd : d.toNat ≠ 120 ∨ l.length ≤ 3) : looStep l = (d, l.drop 2) := by
  match l, h, h2, hd with
  | x :: y :: r, h, h2, hd =>
    injection h with h; injection h2 with h2
    subst h; subst h2
    by_cases hy : y.toNat = 120
    · have hl : r.length ≤ 1 := by
        rcases hd with h | h
        · exact absurd hy h
        · simp at h; omega
      match r, hl with
      | [], _ => simp [looStep, hc, hy]
      | [_], _ => simp [looStep, hc, hy]
    · simp [looStep, hc, hy]
theorem looStep_4 {l : List UInt8} {c d x y : UInt8} (h : l[0]? = some c) (hc : c.toNat = 92) (h2 : l[1]? = some d) (hd : d.toNat = 120) (h3 : l[2]? = some x) (h4 : l[3]? = some y) : looStep l = (hexB x y, l.drop 4) := by
  match l, h, h2, h3, h4 with
  | a :: b :: e :: f :: r, h, h2, h3, h4 =>
    injection h with h; injection h2 with h2; injection h3 with h3; injection h4 with h4
    subst h; subst h2; subst h3; subst h4
    simp [looStep, hc, hd]

theorem ext_drop (R : ByteArray) (n : Nat) : (R.extract n R.size).data.toList = R.data.toList.drop n := by
  rw [ByteArray.data_extract, Array.toList_extract]
  simp only [List.extract]
  exact List.take_of_length_le (by rw [List.length_drop]; exact Nat.le_refl _)
theorem ext_size {R : ByteArray} {n : Nat} (h : n ≤ R.size) : (R.extract n R.size).size + n = R.size := by
  have e := congrArg List.length (ext_drop R n)
  rw [List.length_drop] at e
  have e1 : (R.extract n R.size).data.toList.length = (R.extract n R.size).size := rfl
  have e2 : R.data.toList.length = R.size := rfl
  omega
/-- one round of the loose reading, over the rest that is cut -/
theorem loo_next {l acc : List UInt8} {R : ByteArray} {c b : UInt8} {n : Nat} (hL : Loo l acc R.data.toList) (hc : R.data.toList[0]? = some c) (h1 : c.toNat ≠ 34) (hs : looStep R.data.toList = (b, R.data.toList.drop n)) : Loo l (acc ++ [b]) (R.extract n R.size).data.toList := by
  have hne : R.data.toList ≠ [] := fun e => by rw [e] at hc; cases hc
  have h := hL.more hne (by
    rw [List.head?_eq_getElem?, hc]
    intro e
    injection e with e
    exact h1 (by rw [e]; rfl))
  rw [hs] at h
  rw [ext_drop]; exact h

theorem ix_tab : ∀ H L : Fin 17, bits .or .i64 (wrap64 ((if H.val < 16 then (H.val : Int) else -1) * 16)) (if L.val < 16 then (L.val : Int) else -1) % 256 = ((UInt8.ofNat (((if H.val < 16 then H.val else 255) * 16 % 256) ||| (if L.val < 16 then L.val else 255))).toNat : Int) := by decide +kernel
theorem ix_or (x y : UInt8) : bits .or .i64 (wrap64 (Lib.indexByte [48, 49, 50, 51, 52, 53, 54, 55, 56, 57, 97, 98, 99, 100, 101, 102] x * 16)) (Lib.indexByte [48, 49, 50, 51, 52, 53, 54, 55, 56, 57, 97, 98, 99, 100, 101, 102] y) % 256 = ((hexB x y).toNat : Int) := by
  have h1 := digits_ix x
  have h2 := digits_ix y
  rw [show digits16.data.toList = [48, 49, 50, 51, 52, 53, 54, 55, 56, 57, 97, 98, 99, 100, 101, 102] from rfl] at h1 h2
  rw [h1, h2]
  exact ix_tab ⟨hexV x, by have := hexV_le x; omega⟩ ⟨hexV y, by have := hexV_le y; omega⟩
/-- where the loose reading ends otherwise than a right quotation, there is none -/
theorem loo_no {s : ByteArray} {k : Nat} {acc r : List UInt8} (hL : Loo (s.data.toList.drop (k + 1)) acc r) (he : r = [] ∨ r.head? = some 34) (hn : ∀ t, r ≠ 34 :: t) : unqO s k = none := by
  unfold unqO
  split
  · cases hp : parQ (s.data.toList.drop (k + 1)) with
    | none => rfl
    | some p =>
      obtain ⟨u, n⟩ := p
      obtain ⟨t, h1, _⟩ := parQ_form _ _ _ hp
      rw [h1] at hL
      exact absurd (loo_end hL he).2 (hn t)
  · rfl

theorem ext_list (s : ByteArray) (k e : Nat) : (s.extract k e).data.toList = (s.data.toList.drop k).take (e - k) := by
  rw [ByteArray.data_extract, Array.toList_extract]
/-- no quotation stands there: what is cut out is none -/
theorem unq_ne {s : ByteArray} {k : Nat} (hp : unqO s k = none) (h34 : s.data.toList[k]? = some 34) (e : Nat) (acc : List UInt8) : s.extract k e ≠ ⟨(quoteL acc).toArray⟩ := by
  intro h
  have h2 := congrArg (fun b => b.data.toList) h
  simp only at h2
  rw [ext_list, drop_at? h34] at h2
  obtain ⟨m, hm⟩ : ∃ m, e - k = m := ⟨_, rfl⟩
  rw [hm] at h2
  cases m with
  | zero => simp [quoteL] at h2
  | succ m =>
    rw [List.take_succ_cons, quoteL, List.cons.injEq] at h2
    have h3 := List.take_append_drop m (s.data.toList.drop (k + 1))
    rw [h2.2, List.append_assoc] at h3
    unfold unqO at hp
    rw [if_pos h34, ← h3, List.singleton_append, parQ_quo] at hp
    cases hp
/-- a quotation stands there: it is what the loose reading has read -/
theorem unq_eq {s R : ByteArray} {k n : Nat} {acc v : List UInt8} (hp : unqO s k = some (v, n)) (hL : Loo (s.data.toList.drop (k + 1)) acc R.data.toList) (hh : R.data.toList.head? = some 34) : acc = v ∧ n + R.size = s.size + 1 ∧ s.extract k n = ⟨(quoteL acc).toArray⟩ := by
  unfold unqO at hp
  split at hp
  · rename_i h34
    cases hq : parQ (s.data.toList.drop (k + 1)) with
    | none => rw [hq] at hp; cases hp
    | some p =>
      obtain ⟨u, m⟩ := p
      rw [hq] at hp
      simp only [Option.map_some, Option.some.injEq, Prod.mk.injEq] at hp
      obtain ⟨rfl, rfl⟩ := hp
      obtain ⟨t, h1, rfl⟩ := parQ_form _ _ _ hq
      have hk := (List.getElem?_eq_some_iff.1 h34).1
      rw [h1] at hL
      obtain ⟨rfl, h2⟩ := loo_end hL (.inr hh)
      have hl := congrArg List.length h1
      have hl2 := congrArg List.length h2
      have e1 : R.data.toList.length = R.size := rfl
      have e2 : s.data.toList.length = s.size := rfl
      simp only [List.length_drop, List.length_append, List.length_cons] at hl hl2
      refine ⟨rfl, by omega, bytes_eq ?_⟩
      rw [ext_list, drop_at? h34, h1, show k + 1 + ((quoL acc).length + 1) - k = (quoL acc).length + 2 by omega]
      have e3 : (34 : UInt8) :: (quoL acc ++ 34 :: t) = quoteL acc ++ t := by simp [quoteL]
      rw [e3, show (quoL acc).length + 2 = (quoteL acc).length by simp [quoteL], List.take_left]
  · cases hp

end Go.Proofs.YthncochjhbmceaaGreat

namespace Go.Proofs.YthncochjhbmceaaGreat
set_option maxRecDepth 100000
open Go.RowKit

theorem ib_no {l : List UInt8} {c : UInt8} (h : ∀ k : Nat, l[k]? ≠ some c) : Lib.indexByte l c = -1 := by
  have := Lib.indexByte_ge l c
  by_cases hi : Lib.indexByte l c = -1
  · exact hi
  · obtain ⟨o, ho⟩ : ∃ o : Nat, Lib.indexByte l c = o := ⟨(Lib.indexByte l c).toNat, by omega⟩
    exact absurd (Lib.indexByte_some ho).1 (h o)
theorem ib_at {l : List UInt8} {c : UInt8} {j : Nat} (h : l[j]? = some c) (hb : ∀ k, k < j → l[k]? ≠ some c) : Lib.indexByte l c = j := by
  have := Lib.indexByte_ge l c
  by_cases hi : Lib.indexByte l c = -1
  · exact absurd h (Lib.indexByte_none hi j)
  · obtain ⟨o, ho⟩ : ∃ o : Nat, Lib.indexByte l c = o := ⟨(Lib.indexByte l c).toNat, by omega⟩
    obtain ⟨h1, h2⟩ := Lib.indexByte_some ho
    rcases Nat.lt_trichotomy j o with hl | rfl | hl
    · exact absurd h (h2 j hl)
    · exact ho
    · exact absurd h1 (hb o hl)
theorem quoL_ge (v : List UInt8) : v.length ≤ (quoL v).length := by
  induction v with
  | nil => simp
  | cons b v ih =>
    have := (quoB_len b).1
    simp only [quoL, List.flatMap_cons, List.length_append, List.length_cons] at ih ⊢
    omega
theorem unqO_in {s : ByteArray} {k n : Nat} {v : List UInt8} (h : unqO s k = some (v, n)) : v.length ≤ s.size ∧ n ≤ s.size ∧ k < n := by
  unfold unqO at h
  split at h
  · cases hq : parQ (s.data.toList.drop (k + 1)) with
    | none => rw [hq] at h; cases h
    | some p =>
      obtain ⟨u, m⟩ := p
      rw [hq] at h
      simp only [Option.map_some, Option.some.injEq, Prod.mk.injEq] at h
      obtain ⟨rfl, rfl⟩ := h
      obtain ⟨t, h1, rfl⟩ := parQ_form _ _ _ hq
      have hl := congrArg List.length h1
      have e2 : s.data.toList.length = s.size := rfl
      have := quoL_ge u
      simp only [List.length_drop, List.length_append, List.length_cons] at hl
      omega
  · cases h
/-- labels read one behind the other from the place a on -/
def parR (s : ByteArray) : Nat → Nat → List Lbl → Option (List Lbl)
  | 0, _, _ => none
  | f + 1, a, out =>
    if Lib.indexByte (s.data.toList.drop a) 61 < 0 ∨ out.length = 8 then none
    else match unqO s (a + (Lib.indexByte (s.data.toList.drop a) 61).toNat + 1) with
      | none => none
      | some (v, n) => if n = s.size then some (out ++ [⟨s.extract a (a + (Lib.indexByte (s.data.toList.drop a) 61).toNat), ⟨v.toArray⟩⟩])
        else if s.data.toList[n]? = some 44 then parR s f (n + 1) (out ++ [⟨s.extract a (a + (Lib.indexByte (s.data.toList.drop a) 61).toNat), ⟨v.toArray⟩⟩]) else none
theorem parR_no {s : ByteArray} {f a : Nat} {out : List Lbl} (h : Lib.indexByte (s.data.toList.drop a) 61 < 0 ∨ out.length = 8) : parR s f a out = none := by
  cases f with
  | zero => rfl
  | succ f => rw [parR, if_pos h]
section
variable {s : ByteArray} {f a j : Nat} {out : List Lbl}
theorem parR_bad (h : Lib.indexByte (s.data.toList.drop a) 61 = j) (hu : unqO s (a + j + 1) = none) : parR s f a out = none := by
  cases f with
  | zero => rfl
  | succ f =>
    rw [parR]
    split
    · rfl
    · rw [h, Int.toNat_natCast, hu]
variable {v : List UInt8} {n : Nat} (h : Lib.indexByte (s.data.toList.drop a) 61 = j) (hu : unqO s (a + j + 1) = some (v, n))
include h hu
theorem parR_end (h8 : out.length ≠ 8) (hn : n = s.size) : parR s (f + 1) a out = some (out ++ [⟨s.extract a (a + j), ⟨v.toArray⟩⟩]) := by
  rw [parR, if_neg (by omega), h, Int.toNat_natCast, hu]
  simp only
  rw [if_pos hn]
theorem parR_more (h8 : out.length ≠ 8) (hn : n ≠ s.size) (hc : s.data.toList[n]? = some 44) : parR s (f + 1) a out = parR s f (n + 1) (out ++ [⟨s.extract a (a + j), ⟨v.toArray⟩⟩]) := by
  rw [parR, if_neg (by omega), h, Int.toNat_natCast, hu]
  simp only
  rw [if_neg hn, if_pos hc]
theorem parR_stop (hn : n ≠ s.size) (hc : s.data.toList[n]? ≠ some 44) : parR s f a out = none := by
  cases f with
  | zero => rfl
  | succ f =>
    rw [parR]
    split
    · rfl
    · rw [h, Int.toNat_natCast, hu]
      simp only
      rw [if_neg hn, if_neg hc]
end
/-- the set that a text shows, or the error -/
def readL (s : ByteArray) : List Lbl × Int := match parR s 9 0 [] with
  | some l => if validP l then (l, 0) else ([], 21)
  | none => ([], 21)
theorem readL_none {s : ByteArray} (h : parR s 9 0 [] = none) : readL s = ([], 21) := by rw [readL, h]
theorem readL_yes {s : ByteArray} {l : List Lbl} (h : parR s 9 0 [] = some l) (hv : decide (validP l) = true) : readL s = (l, 0) := by
  rw [readL, h]; exact if_pos (of_decide_eq_true hv)
theorem readL_bad {s : ByteArray} {l : List Lbl} (h : parR s 9 0 [] = some l) (hv : decide (validP l) = false) : readL s = ([], 21) := by
  rw [readL, h]; exact if_neg (of_decide_eq_false hv)
theorem flat_snoc (O : List Lbl) (x : Lbl) : O.flatMap Lbl.cells ++ [.string x.name, .string x.value] = (O ++ [x]).flatMap Lbl.cells := by
  rw [List.flatMap_append]; simp [Lbl.cells]
theorem ext_le (s : ByteArray) (a b : Nat) : (s.extract a b).size ≤ s.size := by
  have e := congrArg List.length (ext_list s a b)
  have e1 : (s.extract a b).data.toList.length = (s.extract a b).size := rfl
  have e2 : s.data.toList.length = s.size := rfl
  rw [List.length_take, List.length_drop] at e
  omega
end Go.Proofs.YthncochjhbmceaaGreat

namespace Go.Proofs.YthncochjhbmceaaGreat
set_option maxRecDepth 100000
open Go.RowKit

theorem readT_ok_at {s : List UInt8} {a b : Int} {v : ByteArray} (h : readT s a = (v, b, 0)) : 0 ≤ a ∧ a < b ∧ b ≤ s.length ∧ v.size ≤ s.length := by
  obtain ⟨n, m, e, h1⟩ : ∃ n b e, readU s a = (n, b, e) := ⟨_, _, _, rfl⟩
  by_cases he : e = 0
  · subst he
    obtain ⟨p1, p2, p3, p4, _⟩ := readU_ok h1
    have hp := uintL_pos n
    by_cases hl : (s.length : Int) - m < n
    · rw [readT_short h1 hl] at h
      simp at h
    · rw [readT_ok h1 hl] at h
      simp only [Prod.mk.injEq, and_true] at h
      obtain ⟨rfl, rfl⟩ := h
      have := ext_le ⟨s.toArray⟩ m.toNat (m.toNat + n)
      exact ⟨p1, by omega, by omega, this⟩
  · rw [readT_e h1 he] at h
    simp only [Prod.mk.injEq] at h
    exact absurd h.2.2 he
/-- may this label not stand behind these? -/
def badN (out : List Lbl) (x : Lbl) : Bool := match out.getLast? with
  | none => false
  | some z => !decide (ltN z x)
theorem badN_snoc (m : List Lbl) (z x : Lbl) : badN (m ++ [z]) x = !decide (ltN z x) := by simp [badN]
theorem badN_cmp (m : List Lbl) (z x : Lbl) : badN (m ++ [z]) x = !decide (cmpB z.name x.name < 0) := badN_snoc m z x
/-- the labels that are read: so many, from this place on, behind these -/
def decT (s : List UInt8) : Nat → Int → List Lbl → List Lbl × Int × Int
  | 0, a, out => (out, a, 0)
  | k + 1, a, out => if (readT s a).2.2 = 0 then
      if (readT s (readT s a).2.1).2.2 = 0 then
        if fitN (readT s a).1 = false then ([], 0, 40)
        else if fitV (readT s (readT s a).2.1).1 = false then ([], 0, 41)
        else if badN out ⟨(readT s a).1, (readT s (readT s a).2.1).1⟩ = true then ([], 0, 42)
        else decT s k (readT s (readT s a).2.1).2.1 (out ++ [⟨(readT s a).1, (readT s (readT s a).2.1).1⟩])
      else ([], 0, (readT s (readT s a).2.1).2.2)
    else ([], 0, (readT s a).2.2)
section
variable {s : List UInt8} {k : Nat} {a b c e : Int} {out : List Lbl} {u v : ByteArray}
theorem decT_e1 (h : readT s a = (u, b, e)) (he : e ≠ 0) : decT s (k + 1) a out = ([], 0, e) := by
  rw [decT, h]; exact if_neg he
theorem decT_e2 (h : readT s a = (u, b, 0)) (h2 : readT s b = (v, c, e)) (he : e ≠ 0) : decT s (k + 1) a out = ([], 0, e) := by
  rw [decT, h]; simp only [if_true]; rw [h2]; exact if_neg he
theorem decT_name (h : readT s a = (u, b, 0)) (h2 : readT s b = (v, c, 0)) (hf : fitN u = false) : decT s (k + 1) a out = ([], 0, 40) := by
  rw [decT, h]; simp only [if_true]; rw [h2]; simp only [if_true]; exact if_pos hf
theorem decT_value (h : readT s a = (u, b, 0)) (h2 : readT s b = (v, c, 0)) (hf : fitN u = true) (hg : fitV v = false) : decT s (k + 1) a out = ([], 0, 41) := by
  rw [decT, h]; simp only [if_true]; rw [h2]; simp only [if_true]; rw [if_neg (by rw [hf]; decide), if_pos hg]
theorem decT_bad (h : readT s a = (u, b, 0)) (h2 : readT s b = (v, c, 0)) (hf : fitN u = true) (hg : fitV v = true) (hb : badN out ⟨u, v⟩ = true) : decT s (k + 1) a out = ([], 0, 42) := by
  rw [decT, h]; simp only [if_true]; rw [h2]; simp only [if_true]; rw [if_neg (by rw [hf]; decide), if_neg (by rw [hg]; decide), if_pos hb]
theorem decT_go (h : readT s a = (u, b, 0)) (h2 : readT s b = (v, c, 0)) (hf : fitN u = true) (hg : fitV v = true) (hb : badN out ⟨u, v⟩ = false) : decT s (k + 1) a out = decT s k c (out ++ [⟨u, v⟩]) := by
  rw [decT, h]; simp only [if_true]; rw [h2]; simp only [if_true]; rw [if_neg (by rw [hf]; decide), if_neg (by rw [hg]; decide), if_neg (by rw [hb]; decide)]
/-- the set that is read at a place, the place behind it, the error -/
def decL (s : List UInt8) (a : Int) : List Lbl × Int × Int :=
  if (readU s a).2.2 = 0 then (if (readU s a).1 = 0 then ([], 0, 43) else if 8 < (readU s a).1 then ([], 0, 44) else decT s (readU s a).1 (readU s a).2.1 []) else ([], 0, (readU s a).2.2)
variable {n : Nat}
theorem decL_e (h : readU s a = (n, b, e)) (he : e ≠ 0) : decL s a = ([], 0, e) := by
  rw [decL, h]; exact if_neg he
theorem decL_zero (h : readU s a = (0, b, 0)) : decL s a = ([], 0, 43) := by
  rw [decL, h]; simp
theorem decL_many (h : readU s a = (n, b, 0)) (h8 : 8 < n) : decL s a = ([], 0, 44) := by
  rw [decL, h]; simp only [if_true]; rw [if_neg (by omega), if_pos h8]
theorem decL_go (h : readU s a = (n, b, 0)) (h0 : n ≠ 0) (h8 : ¬ 8 < n) : decL s a = decT s n b [] := by
  rw [decL, h]; simp only [if_true]; rw [if_neg h0, if_neg h8]
end
theorem decT_small (s : List UInt8) : ∀ (k : Nat) (a : Int) (out : List Lbl), out.length + k ≤ 8 → (∀ x ∈ out, x.name.size ≤ s.length ∧ x.value.size ≤ s.length) → (decT s k a out).1.length ≤ 8 ∧ ∀ x ∈ (decT s k a out).1, x.name.size ≤ s.length ∧ x.value.size ≤ s.length := by
  intro k
  induction k with
  | zero => intro a out h1 h2; exact ⟨by simpa [decT] using h1, h2⟩
  | succ k ih =>
    intro a out h1 h2
    obtain ⟨u, b, e, r1⟩ : ∃ u b e, readT s a = (u, b, e) := ⟨_, _, _, rfl⟩
    have nil : ∀ e : Int, (([], 0, e) : List Lbl × Int × Int).1.length ≤ 8 ∧ ∀ x ∈ (([], 0, e) : List Lbl × Int × Int).1, x.name.size ≤ s.length ∧ x.value.size ≤ s.length := fun e => ⟨by simp, fun x hx => by cases hx⟩
    by_cases he : e = 0
    · subst he
      obtain ⟨v, c, e2, r2⟩ : ∃ v c e2, readT s b = (v, c, e2) := ⟨_, _, _, rfl⟩
      by_cases he2 : e2 = 0
      · subst he2
        cases hf : fitN u with
        | false => rw [decT_name r1 r2 hf]; exact nil _
        | true =>
          cases hg : fitV v with
          | false => rw [decT_value r1 r2 hf hg]; exact nil _
          | true =>
            cases hb : badN out ⟨u, v⟩ with
            | true => rw [decT_bad r1 r2 hf hg hb]; exact nil _
            | false =>
              rw [decT_go r1 r2 hf hg hb]
              refine ih _ _ (by rw [List.length_append, List.length_singleton]; omega) fun x hx => ?_
              rcases List.mem_append.1 hx with hx | hx
              · exact h2 x hx
              · obtain rfl := List.mem_singleton.1 hx
                exact ⟨(readT_ok_at r1).2.2.2, (readT_ok_at r2).2.2.2⟩
      · rw [decT_e2 r1 r2 he2]; exact nil _
    · rw [decT_e1 r1 he]; exact nil _
theorem decL_small (s : List UInt8) (a : Int) : (decL s a).1.length ≤ 8 ∧ ∀ x ∈ (decL s a).1, x.name.size ≤ s.length ∧ x.value.size ≤ s.length := by
  have nil : ∀ e : Int, (([], 0, e) : List Lbl × Int × Int).1.length ≤ 8 ∧ ∀ x ∈ (([], 0, e) : List Lbl × Int × Int).1, x.name.size ≤ s.length ∧ x.value.size ≤ s.length := fun e => ⟨by simp, fun x hx => by cases hx⟩
  unfold decL
  split
  · split
    · exact nil _
    · split
      · exact nil _
      · exact decT_small s _ _ [] (by simp; omega) (fun x hx => by cases hx)
  · exact nil _
end Go.Proofs.YthncochjhbmceaaGreat

namespace Go.Proofs.YthncochjhbmceaaGreat
set_option maxRecDepth 100000
open Go.RowKit

theorem valid_of {l : List Lbl} (h0 : 0 < l.length) (h8 : l.length ≤ 8) (hf : ∀ x ∈ l, fitN x.name = true ∧ fitV x.value = true) (hu : upN l) : validP l := by
  refine ⟨?_, hu⟩
  rw [makeErr, if_neg (by omega), if_neg (by omega)]
  exact errUpto_fit hf (up_apart hu) _
theorem up_more {out : List Lbl} {x : Lbl} (h : upN out) (hb : badN out x = false) : upN (out ++ [x]) := by
  rcases List.eq_nil_or_concat out with rfl | ⟨M, z, rfl⟩
  · exact List.pairwise_singleton _ _
  · rw [List.concat_eq_append] at *
    rw [badN_snoc] at hb
    have hzx : ltN z x := by simpa using hb
    unfold upN
    rw [List.pairwise_append]
    refine ⟨h, List.pairwise_singleton _ _, fun y hy x' hx' => ?_⟩
    obtain rfl := List.mem_singleton.1 hx'
    rcases List.mem_append.1 hy with hy | hy
    · exact ltN_trans ((List.pairwise_append.1 h).2.2 y hy z (by simp)) hzx
    · rw [List.mem_singleton.1 hy]; exact hzx
theorem readT_form {s : List UInt8} {a b : Int} {v : ByteArray} (h : readT s a = (v, b, 0)) : s.drop a.toNat = textL v ++ s.drop b.toNat := by
  obtain ⟨n, m, e, h1⟩ : ∃ n b e, readU s a = (n, b, e) := ⟨_, _, _, rfl⟩
  by_cases he : e = 0
  · subst he
    obtain ⟨p1, p2, p3, p4, p5⟩ := readU_ok h1
    have hp := uintL_pos n
    by_cases hl : (s.length : Int) - m < n
    · rw [readT_short h1 hl] at h
      simp at h
    · rw [readT_ok h1 hl] at h
      simp only [Prod.mk.injEq, and_true] at h
      obtain ⟨hv, rfl⟩ := h
      have hvl : v.data.toList = (s.drop m.toNat).take n := by
        rw [← hv, ext_list]
        simp
      have hvs : v.size = n := by
        have e1 : v.data.toList.length = v.size := rfl
        rw [← e1, hvl, List.length_take, List.length_drop]; omega
      have e1 : s.drop a.toNat = uintL n ++ s.drop m.toNat := by
        have := List.take_append_drop (uintL n).length (s.drop a.toNat)
        rw [p5, List.drop_drop, show a.toNat + (uintL n).length = m.toNat by omega] at this
        exact this.symm
      have e2 : s.drop m.toNat = v.data.toList ++ s.drop (m + n).toNat := by
        have := List.take_append_drop n (s.drop m.toNat)
        rw [← hvl, List.drop_drop, show m.toNat + n = (m + n).toNat by omega] at this
        exact this.symm
      rw [e1, e2, textL, hvs, List.append_assoc]
  · rw [readT_e h1 he] at h
    simp only [Prod.mk.injEq] at h
    exact absurd h.2.2 he
theorem decT_form (s : List UInt8) : ∀ (k : Nat) (a : Int) (out L : List Lbl) (b : Int), decT s k a out = (L, b, 0) → (∀ x ∈ out, fitN x.name = true ∧ fitV x.value = true) → upN out → 0 ≤ a → a ≤ s.length →
    (∀ x ∈ L, fitN x.name = true ∧ fitV x.value = true) ∧ upN L ∧ 0 ≤ b ∧ b ≤ s.length ∧ ∃ mid, L = out ++ mid ∧ mid.length = k ∧ s.drop a.toNat = encB mid ++ s.drop b.toNat := by
  intro k
  induction k with
  | zero =>
    intro a out L b h h1 h2 h3 h4
    simp only [decT, Prod.mk.injEq, and_true] at h
    obtain ⟨rfl, rfl⟩ := h
    exact ⟨h1, h2, h3, h4, [], by simp, rfl, by simp [encB]⟩
  | succ k ih =>
    intro a out L b h h1 h2 h3 h4
    obtain ⟨u, p, e, r1⟩ : ∃ u b e, readT s a = (u, b, e) := ⟨_, _, _, rfl⟩
    by_cases he : e = 0
    · subst he
      obtain ⟨v, q, e2, r2⟩ : ∃ v c e2, readT s p = (v, c, e2) := ⟨_, _, _, rfl⟩
      by_cases he2 : e2 = 0
      · subst he2
        cases hf : fitN u with
        | false => rw [decT_name r1 r2 hf] at h; simp at h
        | true =>
          cases hg : fitV v with
          | false => rw [decT_value r1 r2 hf hg] at h; simp at h
          | true =>
            cases hb : badN out ⟨u, v⟩ with
            | true => rw [decT_bad r1 r2 hf hg hb] at h; simp at h
            | false =>
              rw [decT_go r1 r2 hf hg hb] at h
              have k1 := readT_ok_at r1
              have k2 := readT_ok_at r2
              obtain ⟨g1, g2, g3, g4, mid, g5, g6, g7⟩ := ih q (out ++ [⟨u, v⟩]) L b h (fun x hx => by
                rcases List.mem_append.1 hx with hx | hx
                · exact h1 x hx
                · obtain rfl := List.mem_singleton.1 hx
                  exact ⟨hf, hg⟩) (up_more h2 hb) (by omega) (by omega)
              refine ⟨g1, g2, g3, g4, ⟨u, v⟩ :: mid, by rw [g5]; simp, by simp [g6], ?_⟩
              rw [readT_form r1, readT_form r2, g7]
              simp [encB, labE]
      · rw [decT_e2 r1 r2 he2] at h
        simp only [Prod.mk.injEq] at h
        exact absurd h.2.2 he2
    · rw [decT_e1 r1 he] at h
      simp only [Prod.mk.injEq] at h
      exact absurd h.2.2 he
/-- what is read is the one form of its set -/
theorem decL_form {s : List UInt8} {L : List Lbl} {b : Int} (h : decL s 0 = (L, b, 0)) : encLb L = (⟨(s.take b.toNat).toArray⟩, 0) ∧ validP L ∧ 0 ≤ b ∧ b ≤ s.length := by
  obtain ⟨n, m, e, h1⟩ : ∃ n b e, readU s 0 = (n, b, e) := ⟨_, _, _, rfl⟩
  by_cases he : e = 0
  · subst he
    obtain ⟨p1, p2, p3, p4, p5⟩ := readU_ok h1
    by_cases h0 : n = 0
    · subst h0; rw [decL_zero h1] at h; simp at h
    · by_cases h8 : 8 < n
      · rw [decL_many h1 h8] at h; simp at h
      · rw [decL_go h1 h0 h8] at h
        obtain ⟨g1, g2, g3, g4, mid, g5, g6, g7⟩ := decT_form s n m [] L b h (fun x hx => by cases hx) List.Pairwise.nil (by omega) p3
        rw [List.nil_append] at g5
        subst g5
        have hv : validP L := valid_of (by omega) (by omega) g1 g2
        have e1 : s = uintL n ++ s.drop m.toNat := by
          have := List.take_append_drop (uintL n).length (s.drop (0 : Int).toNat)
          rw [p5, List.drop_drop, show (0 : Int).toNat + (uintL n).length = m.toNat by omega] at this
          simpa using this.symm
        have e2 : s = (uintL L.length ++ encB L) ++ s.drop b.toNat := by
          rw [g6, List.append_assoc, ← g7]; exact e1
        have hl := congrArg List.length e2
        rw [List.length_append, List.length_drop] at hl
        refine ⟨?_, hv, g3, g4⟩
        rw [encLb_ok hv]
        have e3 : s.take b.toNat = uintL L.length ++ encB L := by
          have hbn : b.toNat = (uintL L.length ++ encB L).length := by omega
          have h9 := congrArg (List.take (uintL L.length ++ encB L).length) e2
          rw [List.take_left] at h9
          rw [hbn]; exact h9
        rw [e3]
  · rw [decL_e h1 he] at h
    simp only [Prod.mk.injEq] at h
    exact absurd h.2.2 he

theorem unqO_form {s : ByteArray} {k n : Nat} {v : List UInt8} (h : unqO s k = some (v, n)) : s.data.toList.drop k = quoteL v ++ s.data.toList.drop n := by
  unfold unqO at h
  split at h
  · rename_i h34
    cases hq : parQ (s.data.toList.drop (k + 1)) with
    | none => rw [hq] at h; cases h
    | some p =>
      obtain ⟨u, m⟩ := p
      rw [hq] at h
      simp only [Option.map_some, Option.some.injEq, Prod.mk.injEq] at h
      obtain ⟨rfl, rfl⟩ := h
      obtain ⟨t, h1, rfl⟩ := parQ_form _ _ _ hq
      have h2 : s.data.toList.drop (k + 1 + ((quoL u).length + 1)) = t := by
        rw [← List.drop_drop, h1]
        have : quoL u ++ 34 :: t = (quoL u ++ [34]) ++ t := by simp
        rw [this, show (quoL u).length + 1 = (quoL u ++ [34]).length by simp, List.drop_left]
      rw [h2, drop_at? h34, h1]
      simp [quoteL]
  · cases h
theorem parR_form (s : ByteArray) : ∀ (f a : Nat) (out L : List Lbl), parR s f a out = some L → ∃ mid, mid ≠ [] ∧ L = out ++ mid ∧ s.data.toList.drop a = joinL (mid.map partB) := by
  intro f
  induction f with
  | zero => intro a out L h; simp [parR] at h
  | succ f ih =>
    intro a out L h
    by_cases hno : Lib.indexByte (s.data.toList.drop a) 61 < 0 ∨ out.length = 8
    · rw [parR_no hno] at h; cases h
    · obtain ⟨j, hj⟩ : ∃ j : Nat, Lib.indexByte (s.data.toList.drop a) 61 = j := ⟨(Lib.indexByte (s.data.toList.drop a) 61).toNat, by omega⟩
      obtain ⟨hj1, _⟩ := Lib.indexByte_some hj
      rw [List.getElem?_drop] at hj1
      cases hu : unqO s (a + j + 1) with
      | none => rw [parR_bad hj hu] at h; cases h
      | some p =>
        obtain ⟨v, n⟩ := p
        have hq := unqO_form hu
        have hx : s.data.toList.drop a = partL ⟨s.extract a (a + j), ⟨v.toArray⟩⟩ ++ s.data.toList.drop n := by
          have e1 := List.take_append_drop j (s.data.toList.drop a)
          rw [List.drop_drop, drop_at? hj1, hq] at e1
          rw [← e1, partL]
          simp only [ext_list, show a + j - a = j by omega]
          simp
        by_cases hn : n = s.size
        · rw [parR_end hj hu (by omega) hn] at h
          injection h with h
          refine ⟨[⟨s.extract a (a + j), ⟨v.toArray⟩⟩], by simp, h.symm, ?_⟩
          rw [hx, hn, List.drop_of_length_le (show s.data.toList.length ≤ s.size from Nat.le_refl _)]
          simp [joinL, partB]
        · by_cases hc : s.data.toList[n]? = some 44
          · rw [parR_more hj hu (by omega) hn hc] at h
            obtain ⟨mid, m1, m2, m3⟩ := ih _ _ _ h
            refine ⟨⟨s.extract a (a + j), ⟨v.toArray⟩⟩ :: mid, by simp, by rw [m2]; simp, ?_⟩
            rw [hx, drop_at? hc, m3]
            cases mid with
            | nil => exact absurd rfl m1
            | cons y r => simp [joinL, partB]
          · rw [parR_stop hj hu hn hc] at h; cases h
/-- what is read is the one form of its set -/
theorem readL_form {s : ByteArray} {L : List Lbl} (h : readL s = (L, 0)) : (⟨(showL L).toArray⟩ : ByteArray) = s := by
  unfold readL at h
  cases hp : parR s 9 0 [] with
  | none => rw [hp] at h; simp at h
  | some l =>
    rw [hp] at h
    simp only at h
    split at h
    · rename_i hv
      injection h with h _
      subst h
      obtain ⟨mid, _, m2, m3⟩ := parR_form s 9 0 [] l hp
      rw [List.nil_append] at m2
      subst m2
      rw [showL, if_pos hv, showP, ← m3]
      exact bytes_eq (by simp)
    · simp at h
theorem readL_err (s : ByteArray) : (readL s).2 = 0 ∨ readL s = ([], 21) := by
  unfold readL
  split
  · split
    · exact .inl rfl
    · exact .inr rfl
  · exact .inr rfl
end Go.Proofs.YthncochjhbmceaaGreat
