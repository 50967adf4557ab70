/- The text of a list of matchers, read, plainly. No condition. -/
import Derived.Test.YtbijjjhfekkfaaaGreatPk5c455aab
import Derived.Test.YtbijjjhfekkfaaaGreatPkc2774c96
import Derived.Test.YtbijjjhfekkfaaaGreatPkc6c90f11
namespace Go.Proofs.YtbijjjhfekkfaaaGreat
set_option maxRecDepth 100000
open Go.RowKit

/-- a byte that a sign begins with -/
def isSgn (b : UInt8) : Bool := b.toNat == 61 || b.toNat == 33
/-- how far from the place a on the next sign begins (to the end: none does) -/
def sgn (l : List UInt8) (a : Nat) : Nat := (l.drop a).findIdx isSgn
theorem sgn_le (l : List UInt8) {a : Nat} (h : a ≤ l.length) : a + sgn l a ≤ l.length := by
  have := List.findIdx_le_length (p := isSgn) (xs := l.drop a)
  rw [List.length_drop] at this
  unfold sgn
  omega
theorem sgn_at {l : List UInt8} {a k : Nat} {b : UInt8} (hak : a ≤ k) (hb : l[k]? = some b) (hs : isSgn b = true) (hno : ∀ i, a ≤ i → i < k → ∀ c, l[i]? = some c → isSgn c = false) : a + sgn l a = k := by
  have hk := (List.getElem?_eq_some_iff.1 hb).1
  have : sgn l a = k - a := by
    unfold sgn
    rw [List.findIdx_eq (by rw [List.length_drop]; omega)]
    constructor
    · have e : (l.drop a)[k - a]? = some b := by rw [List.getElem?_drop, show a + (k - a) = k by omega, hb]
      rw [(List.getElem?_eq_some_iff.1 e).2]
      exact hs
    · intro j hj
      rw [List.getElem_drop]
      exact hno (a + j) (by omega) (by omega) _ (List.getElem?_eq_getElem _)
  omega
theorem sgn_none {l : List UInt8} {a : Nat} (h : a ≤ l.length) (hno : ∀ i, a ≤ i → ∀ c, l[i]? = some c → isSgn c = false) : a + sgn l a = l.length := by
  have : sgn l a = (l.drop a).length := by
    unfold sgn
    rw [List.findIdx_eq_length]
    intro c hc
    obtain ⟨j, hj⟩ := List.getElem?_of_mem hc
    rw [List.getElem?_drop] at hj
    exact hno _ (by omega) c hj
  rw [List.length_drop] at this
  omega
theorem sgn_here {l : List UInt8} {a : Nat} (h : a + sgn l a < l.length) : ∃ b, l[a + sgn l a]? = some b ∧ isSgn b = true := by
  have h1 : sgn l a < (l.drop a).length := by rw [List.length_drop]; omega
  have h2 : isSgn ((l.drop a)[(l.drop a).findIdx isSgn]'h1) = true := List.findIdx_getElem
  refine ⟨_, ?_, h2⟩
  rw [← List.getElem?_drop]
  exact List.getElem?_eq_getElem h1
theorem sgn_before {l : List UInt8} {a i : Nat} (h1 : a ≤ i) (h2 : i < a + sgn l a) {c : UInt8} (hc : l[i]? = some c) : isSgn c = false := by
  have h3 : i - a < (l.drop a).findIdx isSgn := by show i - a < sgn l a; omega
  have := List.not_of_lt_findIdx h3
  rw [List.getElem_drop] at this
  have e : l[a + (i - a)]? = some c := by rw [show a + (i - a) = i by omega, hc]
  rw [(List.getElem?_eq_some_iff.1 e).2] at this
  simpa using this
/-- the kind whose sign stands at k, and its length -/
def kindAt (l : List UInt8) (k : Nat) : Option (Nat × Nat) :=
  if l[k + 1]? = some 126 then (if l[k]? = some 61 then some (2, 2) else some (3, 2)) else if l[k]? = some 61 then some (0, 1) else if l[k + 1]? = some 61 then some (1, 2) else none
theorem kindAt_lt {l : List UInt8} {k q d : Nat} (h : kindAt l k = some (q, d)) : q < 4 ∧ d = (signK q).size ∧ 1 ≤ d := by
  unfold kindAt at h
  repeat (first | split at h | (simp only [Option.some.injEq, Prod.mk.injEq, reduceCtorEq] at h; obtain ⟨rfl, rfl⟩ := h; exact ⟨by decide, by decide, by decide⟩) | (simp at h))
theorem kindAt_form {l : List UInt8} {k q d : Nat} (h : kindAt l k = some (q, d)) {b : UInt8} (hb : l[k]? = some b) (hs : isSgn b = true) : (l.drop k).take d = (signK q).data.toList := by
  have hbn : b = 61 ∨ b = 33 := by
    unfold isSgn at hs
    simp only [Bool.or_eq_true, beq_iff_eq] at hs
    exact hs.imp (fun h => u8_eq (b := 61) h) (fun h => u8_eq (b := 33) h)
  have hd : l.drop k = b :: l.drop (k + 1) := drop_at? hb
  unfold kindAt at h
  split at h
  · rename_i h1
    have hd2 : l.drop (k + 1) = 126 :: l.drop (k + 1 + 1) := drop_at? h1
    split at h
    · rename_i h2
      rw [hb] at h2
      cases h2
      cases h
      rw [hd, hd2]
      rfl
    · rename_i h2
      cases h
      rcases hbn with rfl | rfl
      · exact absurd hb h2
      · rw [hd, hd2]
        rfl
  · split at h
    · rename_i h2
      rw [hb] at h2
      cases h2
      cases h
      rw [hd]
      rfl
    · rename_i h2
      split at h
      · rename_i h3
        cases h
        have hd2 : l.drop (k + 1) = 61 :: l.drop (k + 1 + 1) := drop_at? h3
        rcases hbn with rfl | rfl
        · exact absurd hb h2
        · rw [hd, hd2]
          rfl
      · cases h
/-- matchers read one behind the other from the place a on, or the error -/
def parM (s : ByteArray) : Nat → Nat → List Ask → Except Nat (List Ask)
  | 0, _, _ => .error 21
  | f + 1, a, out =>
    if s.size ≤ a + sgn s.data.toList a then .error 21 else
    match kindAt s.data.toList (a + sgn s.data.toList a) with
    | none => .error 21
    | some (q, d) => match unqO s (a + sgn s.data.toList a + d) with
      | none => .error 21
      | some (v, n) =>
        if newE (q : Int) (s.extract a (a + sgn s.data.toList a)) ⟨v.toArray⟩ ≠ 0 then .error (newE (q : Int) (s.extract a (a + sgn s.data.toList a)) ⟨v.toArray⟩)
        else if n = s.size then .ok (out ++ [⟨(q : Int), s.extract a (a + sgn s.data.toList a), ⟨v.toArray⟩⟩])
        else if s.data.toList[n]? = some 44 then (if n + 1 = s.size then .error 21 else parM s f (n + 1) (out ++ [⟨(q : Int), s.extract a (a + sgn s.data.toList a), ⟨v.toArray⟩⟩]))
        else .error 21
/-- the list that a text shows, or the error -/
def readM (s : ByteArray) : Except Nat (List Ask) := if s.size = 0 then .ok [] else parM s (s.size + 1) 0 []
section
variable {s : ByteArray} {f a k : Nat} {out : List Ask}
theorem parM_end (h : s.size ≤ a + sgn s.data.toList a) : parM s f a out = .error 21 := by
  cases f with
  | zero => rfl
  | succ f => rw [parM, if_pos h]
variable (hk : a + sgn s.data.toList a = k)
include hk
theorem parM_kind (hq : kindAt s.data.toList k = none) : parM s f a out = .error 21 := by
  cases f with
  | zero => rfl
  | succ f =>
    rw [parM, hk, hq]
    split <;> rfl
variable {q d : Nat} (hq : kindAt s.data.toList k = some (q, d))
include hq
theorem parM_unq (hu : unqO s (k + d) = none) : parM s f a out = .error 21 := by
  cases f with
  | zero => rfl
  | succ f =>
    rw [parM, hk, hq]
    split
    · rfl
    · simp only [hu]
variable {v : List UInt8} {n : Nat} (hu : unqO s (k + d) = some (v, n)) (hlt : k < s.size)
include hu hlt
theorem parM_new (he : newE (q : Int) (s.extract a k) ⟨v.toArray⟩ ≠ 0) : parM s (f + 1) a out = .error (newE (q : Int) (s.extract a k) ⟨v.toArray⟩) := by
  rw [parM, hk, if_neg (by omega), hq]
  simp only [hu]
  rw [if_pos he]
variable (he : newE (q : Int) (s.extract a k) ⟨v.toArray⟩ = 0)
include he
theorem parM_last (hn : n = s.size) : parM s (f + 1) a out = .ok (out ++ [⟨(q : Int), s.extract a k, ⟨v.toArray⟩⟩]) := by
  rw [parM, hk, if_neg (by omega), hq]
  simp only [hu]
  rw [if_neg (by omega), if_pos hn]
theorem parM_stop (hn : n ≠ s.size) (hc : s.data.toList[n]? ≠ some 44) : parM s (f + 1) a out = .error 21 := by
  rw [parM, hk, if_neg (by omega), hq]
  simp only [hu]
  rw [if_neg (by omega), if_neg hn, if_neg hc]
theorem parM_tail (hn : n ≠ s.size) (hc : s.data.toList[n]? = some 44) (hn1 : n + 1 = s.size) : parM s (f + 1) a out = .error 21 := by
  rw [parM, hk, if_neg (by omega), hq]
  simp only [hu]
  rw [if_neg (by omega), if_neg hn, if_pos hc, if_pos hn1]
theorem parM_more (hn : n ≠ s.size) (hc : s.data.toList[n]? = some 44) (hn1 : n + 1 ≠ s.size) : parM s (f + 1) a out = parM s f (n + 1) (out ++ [⟨(q : Int), s.extract a k, ⟨v.toArray⟩⟩]) := by
  rw [parM, hk, if_neg (by omega), hq]
  simp only [hu]
  rw [if_neg (by omega), if_neg hn, if_pos hc, if_neg hn1]
end
/-- a matcher's text -/
def showA (x : Ask) : ByteArray := showM x.kind.toNat x.name x.value
/-- texts, each with a comma behind it -/
def commas (xs : List ByteArray) : List UInt8 := xs.flatMap fun y => y.data.toList ++ [44]
/-- texts with a comma between each two -/
def joinT : List ByteArray → List UInt8
  | [] => []
  | x :: r => x.data.toList ++ r.flatMap fun y => 44 :: y.data.toList
theorem joinT_last : ∀ (xs : List ByteArray) (y : ByteArray), joinT (xs ++ [y]) = commas xs ++ y.data.toList
  | [], y => by simp [commas, joinT]
  | x :: r, y => by
    have h : ∀ r : List ByteArray, (r ++ [y]).flatMap (fun z => 44 :: z.data.toList) = [44] ++ (commas r ++ y.data.toList) := fun r => by
      induction r with
      | nil => simp [commas]
      | cons z r ih =>
        rw [List.cons_append, List.flatMap_cons, ih]
        simp [commas]
    show x.data.toList ++ (r ++ [y]).flatMap (fun z => 44 :: z.data.toList) = _
    rw [h r]
    simp [commas]
theorem commas_snoc (xs : List ByteArray) (y : ByteArray) : commas (xs ++ [y]) = commas xs ++ y.data.toList ++ [44] := by
  simp [commas]
theorem unqM_form {s : ByteArray} {k n : Nat} {v : List UInt8} (h : unqO s k = some (v, n)) : (s.data.toList.drop k).take (n - k) = quoteL v ∧ k < n := by
  unfold unqO at h
  split at h
  · rename_i h34
    cases hq : parQ (s.data.toList.drop (k + 1)) with
    | none => rw [hq] at h; cases h
    | some p =>
      obtain ⟨u, m⟩ := p
      rw [hq] at h
      simp only [Option.map_some, Option.some.injEq, Prod.mk.injEq] at h
      obtain ⟨rfl, rfl⟩ := h
      obtain ⟨t, h1, rfl⟩ := parQ_form _ _ _ hq
      refine ⟨?_, by omega⟩
      rw [drop_at? h34, h1, show k + 1 + ((quoL u).length + 1) - k = ((quoL u).length + 1) + 1 by omega, List.take_succ_cons, List.take_append, List.take_of_length_le (by omega), show (quoL u).length + 1 - (quoL u).length = 1 by omega]
      rfl
  · cases h
theorem item_form {s : ByteArray} {a k q d n : Nat} {v : List UInt8} (hak : a ≤ k) (hq : kindAt s.data.toList k = some (q, d)) (hu : unqO s (k + d) = some (v, n)) {b : UInt8} (hb : s.data.toList[k]? = some b) (hs : isSgn b = true) :
    (s.data.toList.drop a).take (n - a) = (showA ⟨(q : Int), s.extract a k, ⟨v.toArray⟩⟩).data.toList ∧ k + d < n := by
  obtain ⟨h1, h2⟩ := unqM_form hu
  have h3 := kindAt_form hq hb hs
  refine ⟨?_, h2⟩
  rw [show n - a = (k - a) + (d + (n - (k + d))) by omega, List.take_add, List.drop_drop, show a + (k - a) = k by omega, List.take_add, List.drop_drop, h3, h1, ← ext_list]
  simp [showA, showM]
theorem parM_shows {s : ByteArray} : ∀ (f a : Nat) (out res : List Ask), a ≤ s.size → parM s f a out = .ok res → commas (out.map showA) = s.data.toList.take a → joinT (res.map showA) = s.data.toList
  | 0, a, out, res, _, h, _ => by simp [parM] at h
  | f + 1, a, out, res, ha, h, hc => by
    have sl : s.data.toList.length = s.size := rfl
    have hle := sgn_le s.data.toList (a := a) (by omega)
    obtain ⟨k, hk⟩ : ∃ k, a + sgn s.data.toList a = k := ⟨_, rfl⟩
    by_cases hlt : k < s.size
    · obtain ⟨b, hb, hs⟩ := sgn_here (l := s.data.toList) (a := a) (by omega)
      rw [hk] at hb
      cases hq : kindAt s.data.toList k with
      | none => rw [parM_kind hk hq] at h; cases h
      | some p =>
        obtain ⟨q, d⟩ := p
        cases hu : unqO s (k + d) with
        | none => rw [parM_unq hk hq hu] at h; cases h
        | some p =>
          obtain ⟨v, n⟩ := p
          obtain ⟨_, hn, _⟩ := unqO_in hu
          obtain ⟨hi, hkn⟩ := item_form (a := a) (by omega) hq hu hb hs
          by_cases he : newE (q : Int) (s.extract a k) ⟨v.toArray⟩ = 0
          · have hcut : s.data.toList.take n = s.data.toList.take a ++ (showA ⟨(q : Int), s.extract a k, ⟨v.toArray⟩⟩).data.toList := by
              rw [← hi, ← List.take_add, show a + (n - a) = n by omega]
            by_cases hend : n = s.size
            · rw [parM_last hk hq hu hlt he hend] at h
              cases h
              rw [List.map_append, List.map_singleton, joinT_last, hc, ← hcut, hend, List.take_of_length_le (by omega)]
            · by_cases h44 : s.data.toList[n]? = some 44
              · by_cases hn1 : n + 1 = s.size
                · rw [parM_tail hk hq hu hlt he hend h44 hn1] at h; cases h
                · rw [parM_more hk hq hu hlt he hend h44 hn1] at h
                  refine parM_shows f (n + 1) _ res (by omega) h ?_
                  rw [List.map_append, List.map_singleton, commas_snoc, hc, ← hcut, List.take_add_one, h44]
                  rfl
              · rw [parM_stop hk hq hu hlt he hend h44] at h; cases h
          · rw [parM_new hk hq hu hlt he] at h; cases h
    · rw [parM_end (by omega)] at h; cases h
theorem readM_shows {s : ByteArray} {res : List Ask} (h : readM s = .ok res) : joinT (res.map showA) = s.data.toList := by
  unfold readM at h
  split at h
  · rename_i h0
    cases h
    exact (List.eq_nil_of_length_eq_zero (show s.data.toList.length = 0 from h0)).symm
  · exact parM_shows _ 0 [] res (Nat.zero_le _) h rfl
end Go.Proofs.YtbijjjhfekkfaaaGreat
