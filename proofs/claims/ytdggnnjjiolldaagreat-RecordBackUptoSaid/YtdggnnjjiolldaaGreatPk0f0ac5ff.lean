/- labels.Unquote, walked: the value of a quotation and the place behind it. Condition: the text is not too long. -/
import Derived.Test.YtdggnnjjiolldaaGreatPk5f3240ef
import Derived.Test.YtdggnnjjiolldaaGreatPkfe4e104b
namespace Go.Proofs.YtdggnnjjiolldaaGreat
set_option maxRecDepth 100000
open Go.RowKit

theorem parQ_what {s : ByteArray} {k : Nat} {u : List UInt8} {n : Nat} (h : parQ (s.data.toList.drop (k + 1)) = some (u, n)) : ∃ t, s.data.toList.drop (k + 1) = quoL u ++ 34 :: t ∧ n = (quoL u).length + 1 := parQ_form _ _ _ h
/-- what labels.Unquote answers -/
def unqP (s : ByteArray) (a : Int) : ByteArray × Int × Int := if 0 ≤ a then (match unqO s a.toNat with
  | some (v, n) => (⟨v.toArray⟩, (n : Nat), 0)
  | none => (⟨#[]⟩, 0, 21)) else (⟨#[]⟩, 0, 21)
theorem unqP_no {s : ByteArray} {k : Nat} (h : unqO s k = none) : unqP s (k : Int) = (⟨#[]⟩, 0, 21) := by
  rw [unqP, if_pos (by omega), Int.toNat_natCast, h]
theorem unqP_yes {s : ByteArray} {k n : Nat} {v : List UInt8} (h : unqO s k = some (v, n)) : unqP s (k : Int) = (⟨v.toArray⟩, ((n : Nat) : Int), 0) := by
  rw [unqP, if_pos (by omega), Int.toNat_natCast, h]
theorem unqR_yes {s : ByteArray} {k n : Nat} {v : List UInt8} (h : unqO s k = some (v, n)) : unqR s k = (⟨v.toArray⟩, ((n : Nat) : Int)) := by rw [unqR, h]
theorem unqP_neg {s : ByteArray} {a : Int} (h : a < 0) : unqP s a = (⟨#[]⟩, 0, 21) := by rw [unqP, if_neg (by omega)]

def strLen : Value → Nat
  | .string s => s.size
  | _ => 0
theorem list_at0 {l : List UInt8} {c : UInt8} (h : l[0]? = some c) : l = c :: l.drop 1 := by
  cases l with
  | nil => cases h
  | cons x r => injection h with h; subst h; rfl
theorem looStep_1 {l : List UInt8} {c : UInt8} (h : l[0]? = some c) (hc : c.toNat ≠ 92 ∨ l.length ≤ 1) : looStep l = (c, l.drop 1) := by
  rw [list_at0 h]
  match hr : l.drop 1 with
  | [] => rfl
  | d :: r =>
    have hn : ¬ c.toNat = 92 := by
      rcases hc with h | h
      · exact h
      · have := congrArg List.length hr
        simp at this; omega
    simp [looStep, hn]
theorem looStep_2 {l : List UInt8} {c d : UInt8} (h : l[0]? = some c) (hc : c.toNat = 92) (h2 : l[1]? = some d) (hd : d.toNat ≠ 120 ∨ l.length ≤ 3) : looStep l = (d, l.drop 2) := by
  match l, h, h2, hd with
  | x :: y :: r, h, h2, hd =>
    injection h with h; injection h2 with h2
    subst h; subst h2
    by_cases hy : y.toNat = 120
    · have hl : r.length ≤ 1 := by
        rcases hd with h | h
        · exact absurd hy h
        · simp at h; omega
      match r, hl with
      | [], _ => simp [looStep, hc, hy]
      | [_], _ => simp [looStep, hc, hy]
    · simp [looStep, hc, hy]
theorem looStep_4 {l : List UInt8} {c d x y : UInt8} (h : l[0]? = some c) (hc : c.toNat = 92) (h2 : l[1]? = some d) (hd : d.toNat = 120) (h3 : l[2]? = some x) (h4 : l[3]? = some y) : looStep l = (hexB x y, l.drop 4) := by
  match l, h, h2, h3, h4 with
  | a :: b :: e :: f :: r, h, h2, h3, h4 =>
    injection h with h; injection h2 with h2; injection h3 with h3; injection h4 with h4
    subst h; subst h2; subst h3; subst h4
    simp [looStep, hc, hd]

theorem ext_drop (R : ByteArray) (n : Nat) : (R.extract n R.size).data.toList = R.data.toList.drop n := by
  rw [ByteArray.data_extract, Array.toList_extract]
  simp only [List.extract]
  exact List.take_of_length_le (by rw [List.length_drop]; exact Nat.le_refl _)
theorem ext_size {R : ByteArray} {n : Nat} (h : n ≤ R.size) : (R.extract n R.size).size + n = R.size := by
  have e := congrArg List.length (ext_drop R n)
  rw [List.length_drop] at e
  have e1 : (R.extract n R.size).data.toList.length = (R.extract n R.size).size := rfl
  have e2 : R.data.toList.length = R.size := rfl
  omega
/-- one round of the loose reading, over the rest that is cut -/
theorem loo_next {l acc : List UInt8} {R : ByteArray} {c b : UInt8} {n : Nat} (hL : Loo l acc R.data.toList) (hc : R.data.toList[0]? = some c) (h1 : c.toNat ≠ 34) (hs : looStep R.data.toList = (b, R.data.toList.drop n)) : Loo l (acc ++ [b]) (R.extract n R.size).data.toList := by
  have hne : R.data.toList ≠ [] := fun e => by rw [e] at hc; cases hc
  have h := hL.more hne (by
    rw [List.head?_eq_getElem?, hc]
    intro e
    injection e with e
    exact h1 (by rw [e]; rfl))
  rw [hs] at h
  rw [ext_drop]; exact h

theorem ix_tab : ∀ H L : Fin 17, bits .or .i64 (wrap64 ((if H.val < 16 then (H.val : Int) else -1) * 16)) (if L.val < 16 then (L.val : Int) else -1) % 256 = ((UInt8.ofNat (((if H.val < 16 then H.val else 255) * 16 % 256) ||| (if L.val < 16 then L.val else 255))).toNat : Int) := by decide +kernel
theorem ix_or (x y : UInt8) : bits .or .i64 (wrap64 (Lib.indexByte [48, 49, 50, 51, 52, 53, 54, 55, 56, 57, 97, 98, 99, 100, 101, 102] x * 16)) (Lib.indexByte [48, 49, 50, 51, 52, 53, 54, 55, 56, 57, 97, 98, 99, 100, 101, 102] y) % 256 = ((hexB x y).toNat : Int) := by
  have h1 := digits_ix x
  have h2 := digits_ix y
  rw [show digits16.data.toList = [48, 49, 50, 51, 52, 53, 54, 55, 56, 57, 97, 98, 99, 100, 101, 102] from rfl] at h1 h2
  rw [h1, h2]
  exact ix_tab ⟨hexV x, by have := hexV_le x; omega⟩ ⟨hexV y, by have := hexV_le y; omega⟩
/-- where the loose reading ends otherwise than a right quotation, there is none -/
theorem loo_no {s : ByteArray} {k : Nat} {acc r : List UInt8} (hL : Loo (s.data.toList.drop (k + 1)) acc r) (he : r = [] ∨ r.head? = some 34) (hn : ∀ t, r ≠ 34 :: t) : unqO s k = none := by
  unfold unqO
  split
  · cases hp : parQ (s.data.toList.drop (k + 1)) with
    | none => rfl
    | some p =>
      obtain ⟨u, n⟩ := p
      obtain ⟨t, h1, _⟩ := parQ_form _ _ _ hp
      rw [h1] at hL
      exact absurd (loo_end hL he).2 (hn t)
  · rfl

theorem ext_list (s : ByteArray) (k e : Nat) : (s.extract k e).data.toList = (s.data.toList.drop k).take (e - k) := by
  rw [ByteArray.data_extract, Array.toList_extract]
/-- no quotation stands there: what is cut out is none -/
theorem unq_ne {s : ByteArray} {k : Nat} (hp : unqO s k = none) (h34 : s.data.toList[k]? = some 34) (e : Nat) (acc : List UInt8) : s.extract k e ≠ ⟨(quoteL acc).toArray⟩ := by
  intro h
  have h2 := congrArg (fun b => b.data.toList) h
  simp only at h2
  rw [ext_list, drop_at? h34] at h2
  obtain ⟨m, hm⟩ : ∃ m, e - k = m := ⟨_, rfl⟩
  rw [hm] at h2
  cases m with
  | zero => simp [quoteL] at h2
  | succ m =>
    rw [List.take_succ_cons, quoteL, List.cons.injEq] at h2
    have h3 := List.take_append_drop m (s.data.toList.drop (k + 1))
    rw [h2.2, List.append_assoc] at h3
    unfold unqO at hp
    rw [if_pos h34, ← h3, List.singleton_append, parQ_quo] at hp
    cases hp
/-- a quotation stands there: it is what the loose reading has read -/
theorem unq_eq {s R : ByteArray} {k n : Nat} {acc v : List UInt8} (hp : unqO s k = some (v, n)) (hL : Loo (s.data.toList.drop (k + 1)) acc R.data.toList) (hh : R.data.toList.head? = some 34) : acc = v ∧ n + R.size = s.size + 1 ∧ s.extract k n = ⟨(quoteL acc).toArray⟩ := by
  unfold unqO at hp
  split at hp
  · rename_i h34
    cases hq : parQ (s.data.toList.drop (k + 1)) with
    | none => rw [hq] at hp; cases hp
    | some p =>
      obtain ⟨u, m⟩ := p
      rw [hq] at hp
      simp only [Option.map_some, Option.some.injEq, Prod.mk.injEq] at hp
      obtain ⟨rfl, rfl⟩ := hp
      obtain ⟨t, h1, rfl⟩ := parQ_form _ _ _ hq
      have hk := (List.getElem?_eq_some_iff.1 h34).1
      rw [h1] at hL
      obtain ⟨rfl, h2⟩ := loo_end hL (.inr hh)
      have hl := congrArg List.length h1
      have hl2 := congrArg List.length h2
      have e1 : R.data.toList.length = R.size := rfl
      have e2 : s.data.toList.length = s.size := rfl
      simp only [List.length_drop, List.length_append, List.length_cons] at hl hl2
      refine ⟨rfl, by omega, bytes_eq ?_⟩
      rw [ext_list, drop_at? h34, h1, show k + 1 + ((quoL acc).length + 1) - k = (quoL acc).length + 2 by omega]
      have e3 : (34 : UInt8) :: (quoL acc ++ 34 :: t) = quoteL acc ++ t := by simp [quoteL]
      rw [e3, show (quoL acc).length + 2 = (quoteL acc).length by simp [quoteL], List.take_left]
  · cases hp

end Go.Proofs.YtdggnnjjiolldaaGreat
