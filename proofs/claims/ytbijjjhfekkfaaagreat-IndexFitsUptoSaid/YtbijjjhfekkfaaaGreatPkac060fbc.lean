/- Sets of labels, plainly: what is a name, a value, which error a list has, its sorted list. No program is walked here. labels.fitName, fitValue and the reference's: what is a name, a value. Condition: the text is within the reach. Labels as they lie. No condition. slices.IndexFunc and slices.ContainsFunc at labels, whatever predicate: what they return. Condition: the predicate has a contract, the row is within the reach. The library's stable sort, as functions on arrays: what it leaves is sorted by an order that tells equals by where they stood. No condition. No program in this text. What the stable sort leaves is sorted, equals as they stood. No condition. No program in this text. -/
import Derived.Test.YtbijjjhfekkfaaaGreatPka7c674fb
import Derived.Test.YtbijjjhfekkfaaaGreatBase
import Derived.Sort.LotA
namespace Go.Proofs.YtbijjjhfekkfaaaGreat
set_option maxRecDepth 100000
open Go.RowKit

def digitB (b : UInt8) : Bool := decide (48 ≤ b.toNat) && decide (b.toNat ≤ 57)
def letterB (b : UInt8) : Bool := (decide (97 ≤ b.toNat) && decide (b.toNat ≤ 122)) || (decide (65 ≤ b.toNat) && decide (b.toNat ≤ 90)) || decide (b.toNat = 95)
/-- may b stand at place i of a name? -/
def nameB (i : Nat) (b : UInt8) : Bool := letterB b || (digitB b && decide (i ≠ 0))
def namesUpto (s : List UInt8) (k : Nat) : Prop := ∀ i b, i < k → s[i]? = some b → nameB i b = true
def nameAll (s : List UInt8) : Bool := (List.range s.length).all fun i => match s[i]? with
  | some b => nameB i b
  | none => true
def fitN (s : ByteArray) : Bool := nameAll s.data.toList && (decide (1 ≤ s.size) && decide (s.size ≤ 32))
theorem nameAll_iff (s : List UInt8) : nameAll s = true ↔ namesUpto s s.length := by
  unfold nameAll namesUpto
  rw [List.all_eq_true]
  constructor
  · intro h i b hi hb
    have := h i (List.mem_range.2 hi)
    rw [hb] at this
    exact this
  · intro h i hi
    cases hb : s[i]? with
    | none => rfl
    | some b => exact h i b (List.mem_range.1 hi) hb
theorem size_list (s : ByteArray) : s.data.toList.length = s.size := rfl
def fitV (s : ByteArray) : Bool := decide (1 ≤ s.size ∧ s.size ≤ 64)
theorem namesUpto_zero (s : List UInt8) : namesUpto s 0 := fun _ _ h => absurd h (Nat.not_lt_zero _)
theorem namesUpto_succ {s : List UInt8} {k : Nat} {b : UInt8} (h : namesUpto s k) (hb : s[k]? = some b) (hn : nameB k b = true) : namesUpto s (k + 1) := fun i c hi hc => by
  by_cases e : i = k
  · subst e; have := hc.symm.trans hb; cases this; exact hn
  · exact h i c (by omega) hc
theorem fitN_no {s : ByteArray} {k : Nat} {b : UInt8} (hk : k < s.size) (hb : s.data.toList[k]? = some b) (hn : nameB k b = false) : fitN s = false := by
  have h : nameAll s.data.toList = false := by
    cases h : nameAll s.data.toList with
    | false => rfl
    | true =>
      have := (nameAll_iff _).1 h k b (by rw [size_list]; exact hk) hb
      rw [hn] at this; cases this
  rw [fitN, h, Bool.false_and]
theorem fitN_end {s : ByteArray} (h : namesUpto s.data.toList s.size) : fitN s = (decide (1 ≤ s.size) && decide (s.size ≤ 32)) := by
  rw [fitN, (nameAll_iff _).2 (by rw [size_list]; exact h), Bool.true_and]

/-- the error that the label at place i has -/
def errAt (l : List Lbl) (i : Nat) : Nat :=
  match l[i]? with
  | none => 0
  | some x => if fitN x.name = false then 40 else if fitV x.value = false then 41 else if (∃ y ∈ l.take i, y.name = x.name) then 42 else 0
def errUpto (l : List Lbl) : Nat → Nat
  | 0 => 0
  | k + 1 => if errUpto l k = 0 then errAt l k else errUpto l k
def makeErr (l : List Lbl) : Nat := if l.length = 0 then 43 else if 8 < l.length then 44 else errUpto l l.length
theorem errUpto_stop {l : List Lbl} {k : Nat} (h : errUpto l k = 0) (he : errAt l k ≠ 0) : ∀ m, k + 1 ≤ m → errUpto l m = errAt l k
  | 0, hm => absurd hm (by omega)
  | m + 1, hm => by
    by_cases e : m = k
    · subst e; rw [errUpto, if_pos h]
    · have := errUpto_stop h he m (by omega)
      rw [errUpto, if_neg (by rw [this]; exact he), this]
theorem errUpto_next {l : List Lbl} {k : Nat} (h : errUpto l k = 0) (he : errAt l k = 0) : errUpto l (k + 1) = 0 := by rw [errUpto, if_pos h, he]
theorem errUpto_le {l : List Lbl} : ∀ {m k : Nat}, errUpto l m = 0 → k ≤ m → errUpto l k = 0
  | 0, k, h, hk => by have : k = 0 := by omega
                      subst this; exact h
  | m + 1, k, h, hk => by
    rw [errUpto] at h
    split at h
    · rename_i h2
      by_cases e : k = m + 1
      · subst e; rw [errUpto, if_pos h2, h]
      · exact errUpto_le h2 (by omega)
    · rename_i h2; exact absurd h h2
theorem errAt_zero {l : List Lbl} {m k : Nat} (h : errUpto l m = 0) (hk : k < m) : errAt l k = 0 := by
  have h1 := errUpto_le h (show k + 1 ≤ m by omega)
  have h2 := errUpto_le h (show k ≤ m by omega)
  rwa [errUpto, if_pos h2] at h1
theorem errAt_of {l : List Lbl} {k : Nat} {x : Lbl} (hx : l[k]? = some x) : errAt l k = if fitN x.name = false then 40 else if fitV x.value = false then 41 else if (∃ y ∈ l.take k, y.name = x.name) then 42 else 0 := by rw [errAt, hx]
theorem errAt_ok {l : List Lbl} {k : Nat} {x : Lbl} (hx : l[k]? = some x) (h : errAt l k = 0) : fitN x.name = true ∧ fitV x.value = true ∧ ∀ y ∈ l.take k, y.name ≠ x.name := by
  rw [errAt_of hx] at h
  split at h
  · cases h
  · split at h
    · cases h
    · split at h
      · cases h
      · rename_i h1 h2 h3
        exact ⟨by simpa using h1, by simpa using h2, fun y hy e => h3 ⟨y, hy, e⟩⟩
theorem makeErr_ok {l : List Lbl} (h : makeErr l = 0) : 0 < l.length ∧ l.length ≤ 8 ∧ errUpto l l.length = 0 := by
  unfold makeErr at h
  split at h
  · cases h
  · split at h
    · cases h
    · exact ⟨by omega, by omega, h⟩
/-- no name twice -/
theorem make_apart {l : List Lbl} (h : errUpto l l.length = 0) : l.Pairwise fun x y => x.name ≠ y.name := by
  rw [List.pairwise_iff_getElem]
  intro i j hi hj hij e
  have hx : l[j]? = some l[j] := List.getElem?_eq_getElem hj
  refine (errAt_ok hx (errAt_zero h hj)).2.2 l[i] ?_ e
  refine List.mem_iff_getElem?.2 ⟨i, ?_⟩
  rw [List.getElem?_take_of_lt hij]
  exact List.getElem?_eq_getElem hi
theorem make_fits {l : List Lbl} (h : errUpto l l.length = 0) : ∀ x ∈ l, fitN x.name = true ∧ fitV x.value = true := fun x hx => by
  obtain ⟨i, hi⟩ := List.mem_iff_getElem?.1 hx
  have hl := (List.getElem?_eq_some_iff.1 hi).1
  have := errAt_ok hi (errAt_zero h hl)
  exact ⟨this.1, this.2.1⟩

/-! in the order of the names -/
def ltN (x y : Lbl) : Prop := cmpB x.name y.name < 0
def upN (l : List Lbl) : Prop := l.Pairwise ltN
theorem ltN_irr (x : Lbl) : ¬ ltN x x := fun h => by
  have h0 := (tri_B.zero x.name x.name).2 rfl
  unfold ltN at h; omega
theorem ltN_trans {x y z : Lbl} (h : ltN x y) (k : ltN y z) : ltN x z := by
  unfold ltN at *
  have a := tri_B.range x.name y.name
  have b := tri_B.range y.name z.name
  have := tri_B.trans x.name y.name z.name (by omega) (by omega)
  omega
theorem up_unique : ∀ {a b : List Lbl}, upN a → upN b → a.Perm b → a = b
  | [], b, _, _, h => (List.Perm.nil_eq h)
  | x :: a, [], _, _, h => absurd h.length_eq (by simp)
  | x :: a, y :: b, ha, hb, h => by
    obtain ⟨a1, a2⟩ := List.pairwise_cons.1 ha
    obtain ⟨b1, b2⟩ := List.pairwise_cons.1 hb
    have hxy : x = y := by
      rcases List.mem_cons.1 (h.mem_iff.1 (List.mem_cons_self ..)) with e | hx
      · exact e
      · rcases List.mem_cons.1 (h.mem_iff.2 (List.mem_cons_self ..)) with e | hy
        · exact e.symm
        · have h1 := b1 x hx
          have h2 := a1 y hy
          have h3 := tri_B.turn x.name y.name
          unfold ltN at h1 h2
          omega
    subst hxy
    rw [up_unique a2 b2 (List.Perm.cons_inv h)]
theorem leN_trans (a b c : Lbl) (h1 : cmpB a.name b.name ≤ 0) (h2 : cmpB b.name c.name ≤ 0) : cmpB a.name c.name ≤ 0 := by
  rcases tri_B.range a.name b.name with h | h | h
  · rcases tri_B.range b.name c.name with k | k | k
    · have := tri_B.trans _ _ _ h k; omega
    · rw [← (tri_B.zero _ _).1 k]; omega
    · omega
  · rw [(tri_B.zero _ _).1 h]; exact h2
  · omega
/-- the list in the order of its names -/
def sortN (l : List Lbl) : List Lbl := l.mergeSort fun x y => decide (cmpB x.name y.name ≤ 0)
theorem sortN_perm (l : List Lbl) : (sortN l).Perm l := List.mergeSort_perm l _
theorem sortN_up {l : List Lbl} (h : l.Pairwise fun x y => x.name ≠ y.name) : upN (sortN l) := by
  have h1 : (sortN l).Pairwise fun x y => decide (cmpB x.name y.name ≤ 0) = true := List.pairwise_mergeSort (fun a b c h1 h2 => by
    simp only [decide_eq_true_eq] at *
    exact leN_trans a b c h1 h2) (fun a b => by
    have := tri_B.turn a.name b.name
    simp; omega) l
  have h2 : (sortN l).Pairwise fun x y => x.name ≠ y.name := (sortN_perm l).symm.pairwise h fun h e => h e.symm
  refine (h1.and h2).imp ?_
  rintro x y ⟨a, b⟩
  simp only [decide_eq_true_eq] at a
  unfold ltN
  rcases tri_B.range x.name y.name with h | h | h
  · omega
  · exact absurd ((tri_B.zero _ _).1 h) b
  · omega
theorem sortN_uniq {l E : List Lbl} (h : l.Pairwise fun x y => x.name ≠ y.name) (hE : upN E) (hp : E.Perm l) : E = sortN l :=
  up_unique hE (sortN_up h) (hp.trans (sortN_perm l).symm)
/-- what Make answers -/
def makeL (l : List Lbl) : List Lbl := if makeErr l = 0 then sortN l else []
def validP (l : List Lbl) : Prop := makeErr l = 0 ∧ upN l
theorem makeL_len {l : List Lbl} : (makeL l).length ≤ 8 := by
  unfold makeL
  split
  · rename_i h
    rw [(sortN_perm l).length_eq]
    exact (makeErr_ok h).2.1
  · exact Nat.zero_le _
theorem up_apart {l : List Lbl} (h : upN l) : l.Pairwise fun x y => x.name ≠ y.name := h.imp fun {x y} h e => by
  have := (tri_B.zero x.name y.name).2 e
  unfold ltN at h; omega
/-- a list that is fit in every place has no error -/
theorem errUpto_fit {l : List Lbl} (hf : ∀ x ∈ l, fitN x.name = true ∧ fitV x.value = true) (ha : l.Pairwise fun x y => x.name ≠ y.name) : ∀ k, errUpto l k = 0
  | 0 => rfl
  | k + 1 => by
    refine errUpto_next (errUpto_fit hf ha k) ?_
    cases hx : l[k]? with
    | none => rw [errAt, hx]
    | some x =>
      obtain ⟨h1, h2⟩ := hf x (List.mem_of_getElem? hx)
      rw [errAt_of hx, h1, h2, if_neg (by simp), if_neg (by simp), if_neg]
      rintro ⟨y, hy, e⟩
      obtain ⟨i, hi⟩ := List.mem_iff_getElem?.1 hy
      have hil := (List.getElem?_eq_some_iff.1 hi).1
      have hik : i < k := by rw [List.length_take] at hil; omega
      rw [List.getElem?_take_of_lt hik] at hi
      obtain ⟨hi1, hi2⟩ := List.getElem?_eq_some_iff.1 hi
      obtain ⟨hx1, hx2⟩ := List.getElem?_eq_some_iff.1 hx
      exact List.pairwise_iff_getElem.1 ha i k hi1 hx1 hik (by rw [hi2, hx2]; exact e)
/-- the sorted list of a fit list is fit -/
theorem sortN_valid {l : List Lbl} (h : makeErr l = 0) : validP (sortN l) := by
  obtain ⟨h1, h2, h3⟩ := makeErr_ok h
  have hp := sortN_perm l
  have ha := make_apart h3
  refine ⟨?_, sortN_up ha⟩
  unfold makeErr
  rw [hp.length_eq, if_neg (by omega), if_neg (by omega)]
  exact errUpto_fit (fun x hx => make_fits h3 x (hp.mem_iff.1 hx)) (up_apart (sortN_up ha)) _
end Go.Proofs.YtbijjjhfekkfaaaGreat

namespace Go.Proofs.YtbijjjhfekkfaaaGreat
set_option maxRecDepth 100000
open Go.RowKit

theorem or32 : ∀ n : Fin 256, (decide (bits .or .u8 ((n.val : Nat) : Int) 32 < 97) || decide (122 < bits .or .u8 ((n.val : Nat) : Int) 32)) = !((decide (97 ≤ n.val) && decide (n.val ≤ 122)) || (decide (65 ≤ n.val) && decide (n.val ≤ 90))) := by decide +kernel
theorem str_at {s : ByteArray} {i : Nat} (h : i < s.size) : ∃ b : UInt8, s[i]'h = b ∧ s.data.toList[i]? = some b := ⟨_, rfl, by
  have h2 : i < s.data.toList.length := h
  rw [List.getElem?_eq_getElem h2]; rfl⟩
theorem size_lt (b : UInt8) : b.toNat < 256 := b.toNat_lt
/-- what the places of b say, as the walk asks it -/
theorem b_or (b : UInt8) : (decide (bits .or .u8 (b.toNat : Int) 32 < 97) || decide (122 < bits .or .u8 (b.toNat : Int) 32)) = !((decide (97 ≤ b.toNat) && decide (b.toNat ≤ 122)) || (decide (65 ≤ b.toNat) && decide (b.toNat ≤ 90))) := or32 ⟨b.toNat, b.toNat_lt⟩

set_option maxHeartbeats 1600000 in
theorem fitName_any (s : ByteArray) (w : World) (hs : s.size < 9223372036854775000) :
    Calls Tryz.prog 185 #[.string s] w fun e w' => e = .returned (.bool (fitN s)) ∧ w = w' := by
  go_enter Tryz.func185, Tryz.ntmps185
  go_wp2_with fail
  go_loopw [7] (fun vi wr => ∃ k : Nat, k ≤ s.size ∧ vi = .int .i64 k ∧ Hid (namesUpto s.data.toList k) ∧ wr = w) (fun vi _ => s.size - (intOf vi).toNat)
  case atStart => exact ⟨0, Nat.zero_le _, rfl, namesUpto_zero _, rfl⟩
  case round =>
    obtain ⟨k, hk, rfl, hno, rfl⟩ := hrel
    have k0 : (0 : Int) ≤ (k : Int) := by omega
    by_cases hlt : k < s.size
    · have k1 : (k : Int) < (s.size : Int) := by omega
      obtain ⟨b, hb, hbl⟩ := str_at hlt
      have HB := hidden hbl
      have hor := b_or b
      have h256 := size_lt b
      clear hbl
      by_cases hd : 48 ≤ b.toNat ∧ b.toNat ≤ 57
      · have d0 : (48 : Int) ≤ (b.toNat : Int) := by omega
        have d1 : (b.toNat : Int) ≤ 57 := by omega
        by_cases hk0 : k = 0
        · subst hk0
          have nb : ((b.toNat : Int) != 95) = true := by simp; omega
          have hlet : (!((decide (97 ≤ b.toNat) && decide (b.toNat ≤ 122)) || (decide (65 ≤ b.toNat) && decide (b.toNat ≤ 90)))) = true := by simp; omega
          rw [hlet] at hor
          have hF := hidden (fitN_no hlt HB.out (show nameB 0 b = false by simp [nameB, letterB]; omega))
          clear hd hlet
          go_wp2_with fail
          all_goals go_ret
          all_goals exact ⟨ret_bool hF.out.symm, rfl⟩
        · have kp : (0 : Int) < (k : Int) := by omega
          have hN := hidden (namesUpto_succ hno.out HB.out (show nameB k b = true by simp [nameB, digitB, hd, hk0]))
          clear hor hd
          go_wp2_with fail
          all_goals go_roundw
          case rel => exact ⟨k + 1, by omega, by go_num, hN, trivial⟩
          case measure => simp [intOf]; omega
      · by_cases h95 : b.toNat = 95
        · have nb : ((b.toNat : Int) != 95) = false := by simp; omega
          have hN := hidden (namesUpto_succ hno.out HB.out (show nameB k b = true by simp [nameB, letterB, h95]))
          have d0 : (48 : Int) ≤ (b.toNat : Int) := by omega
          have d1 : ¬ (b.toNat : Int) ≤ 57 := by omega
          clear hor hd
          go_wp2_with fail
          all_goals go_roundw
          case rel => exact ⟨k + 1, by omega, by go_num, hN, trivial⟩
          case measure => simp [intOf]; omega
        · have nb : ((b.toNat : Int) != 95) = true := by simp; omega
          have hdd : (48 : Int) ≤ (b.toNat : Int) ∧ (decide ((b.toNat : Int) ≤ 57) = false) ∨ ¬ (48 : Int) ≤ (b.toNat : Int) := by
            by_cases h48 : 48 ≤ b.toNat
            · exact .inl ⟨by omega, by simp; omega⟩
            · exact .inr (by omega)
          cases hl : ((decide (97 ≤ b.toNat) && decide (b.toNat ≤ 122)) || (decide (65 ≤ b.toNat) && decide (b.toNat ≤ 90))) with
          | true =>
            rw [hl, Bool.not_true, Bool.or_eq_false_iff] at hor
            obtain ⟨o1, o2⟩ := hor
            have hN := hidden (namesUpto_succ hno.out HB.out (show nameB k b = true by simp [nameB, letterB, hl]))
            have HD := hidden hdd
            clear hd h95 hl hdd
            rcases HD.out with ⟨d0, d1⟩ | d0
            all_goals
              go_wp2_with fail
              go_roundw
              case rel => exact ⟨k + 1, by omega, by go_num, hN, trivial⟩
              case measure => simp [intOf]; omega
          | false =>
            rw [hl, Bool.not_false] at hor
            have hdg : digitB b = false := by simp [digitB]; omega
            have hF := hidden (fitN_no hlt HB.out (show nameB k b = false by simp [nameB, letterB, hl, h95, hdg]))
            have HD := hidden hdd
            clear hd h95 hl hdd hdg
            rcases HD.out with ⟨d0, d1⟩ | d0
            all_goals
              go_wp2_with fail
              all_goals go_ret
              all_goals exact ⟨ret_bool hF.out.symm, rfl⟩
    · obtain rfl : k = s.size := by omega
      have hF := hidden (fitN_end hno.out)
      have k1 : ¬ (s.size : Int) < (s.size : Int) := by omega
      by_cases he : s.size = 0
      · have hse : s = ⟨#[]⟩ := by
          have : s.data.size = 0 := he
          exact congrArg ByteArray.mk (Array.eq_empty_of_size_eq_zero this)
        subst hse
        go_wp2_with fail
        go_ret
        rw [hF.out]
        exact ⟨rfl, rfl⟩
      · have hne : s.toList.isEmpty = false := by
          rw [Lib.toList_data, List.isEmpty_eq_false_iff]
          intro e
          exact he (congrArg List.length e)
        have hd : decide ((s.size : Int) ≤ 32) = decide (s.size ≤ 32) := decide_eq_decide.2 (by omega)
        have hone : decide (1 ≤ s.size) = true := decide_eq_true (by omega)
        rw [hone, Bool.true_and] at hF
        clear hone
        go_wp2_with fail
        go_ret
        rw [hF.out]
        exact ⟨rfl, rfl⟩
/-- labels.fitValue -/
theorem fitValue_any (s : ByteArray) (w : World) (hs : s.size < 9223372036854775000) :
    Calls Tryz.prog 186 #[.string s] w fun e w' => e = .returned (.bool (fitV s)) ∧ w = w' := by
  by_cases he : s.size = 0
  · have hse : s = ⟨#[]⟩ := by
      have : s.data.size = 0 := he
      exact congrArg ByteArray.mk (Array.eq_empty_of_size_eq_zero this)
    subst hse
    go_enter Tryz.func186, Tryz.ntmps186
    go_wp2_with fail
    go_ret
    exact ⟨rfl, rfl⟩
  · have hne : s.toList.isEmpty = false := by
      rw [Lib.toList_data, List.isEmpty_eq_false_iff]
      intro e
      exact he (congrArg List.length e)
    have hF : fitV s = decide (s.size ≤ 64) := by
      unfold fitV
      exact decide_eq_decide.2 ⟨fun h => h.2, fun h => ⟨by omega, h⟩⟩
    rw [hF]
    clear hF
    go_enter Tryz.func186, Tryz.ntmps186
    go_wp2_with fail
    go_ret
    exact ⟨ret_bool (decide_eq_decide.2 (by omega)), rfl⟩
theorem rfitValue_any (s : ByteArray) (w : World) (hs : s.size < 9223372036854775000) :
    Calls Tryz.prog 260 #[.string s] w fun e w' => e = .returned (.bool (fitV s)) ∧ w = w' := by
  by_cases he : s.size = 0
  · have hF : fitV s = false := decide_eq_false fun h => by omega
    have h1 : ¬ (1 : Int) ≤ (s.size : Int) := by omega
    rw [hF]
    go_enter Tryz.func260, Tryz.ntmps260
    go_wp2_with fail
    go_ret
    exact ⟨rfl, rfl⟩
  · have h1 : (1 : Int) ≤ (s.size : Int) := by omega
    have hF : fitV s = decide (s.size ≤ 64) := by
      unfold fitV
      exact decide_eq_decide.2 ⟨fun h => h.2, fun h => ⟨by omega, h⟩⟩
    rw [hF]
    clear hF
    go_enter Tryz.func260, Tryz.ntmps260
    go_wp2_with fail
    go_ret
    exact ⟨ret_bool (decide_eq_decide.2 (by omega)), rfl⟩

set_option maxHeartbeats 3200000 in
theorem rfitName_any (s : ByteArray) (w : World) (hs : s.size < 9223372036854775000) :
    Calls Tryz.prog 125 #[.string s] w fun e w' => e = .returned (.bool (fitN s)) ∧ w = w' := by
  go_enter Tryz.func125, Tryz.ntmps125
  go_wp2_with fail
  go_loopw [3] (fun vi wr => ∃ k : Nat, k ≤ s.size ∧ vi = .int .i64 k ∧ Hid (namesUpto s.data.toList k) ∧ wr = w) (fun vi _ => s.size - (intOf vi).toNat)
  case atStart => exact ⟨0, Nat.zero_le _, rfl, namesUpto_zero _, rfl⟩
  case round =>
    obtain ⟨k, hk, rfl, hno, rfl⟩ := hrel
    have k0 : (0 : Int) ≤ (k : Int) := by omega
    by_cases hlt : k < s.size
    · have k1 : (k : Int) < (s.size : Int) := by omega
      obtain ⟨b, hb, hbl⟩ := str_at hlt
      have HB := hidden hbl
      have h256 := size_lt b
      clear hbl
      have hcl : b.toNat < 48 ∨ (48 ≤ b.toNat ∧ b.toNat ≤ 57) ∨ (58 ≤ b.toNat ∧ b.toNat ≤ 64) ∨ (65 ≤ b.toNat ∧ b.toNat ≤ 90) ∨ (91 ≤ b.toNat ∧ b.toNat ≤ 94) ∨ b.toNat = 95 ∨ b.toNat = 96 ∨ (97 ≤ b.toNat ∧ b.toNat ≤ 122) ∨ 123 ≤ b.toNat := by omega
      rcases hcl with hc | hc | hc | hc | hc | hc | hc | hc | hc
      · have t97 : decide ((97 : Int) ≤ (b.toNat : Int)) = false := by simp; omega
        have t122 : (b.toNat : Int) ≤ 122 := by omega
        have t65 : decide ((65 : Int) ≤ (b.toNat : Int)) = false := by simp; omega
        have t90 : (b.toNat : Int) ≤ 90 := by omega
        have t48 : decide ((48 : Int) ≤ (b.toNat : Int)) = false := by simp; omega
        have t57 : (b.toNat : Int) ≤ 57 := by omega
        have t95 : ((b.toNat : Int) == 95) = false := by simp; omega
        have hF := hidden (fitN_no hlt HB.out (show nameB k b = false by simp [nameB, letterB, digitB]; omega))
        clear hc
        go_wp2_with fail
        go_ret
        exact ⟨ret_bool hF.out.symm, rfl⟩
      · have t97 : decide ((97 : Int) ≤ (b.toNat : Int)) = false := by simp; omega
        have t122 : (b.toNat : Int) ≤ 122 := by omega
        have t65 : decide ((65 : Int) ≤ (b.toNat : Int)) = false := by simp; omega
        have t90 : (b.toNat : Int) ≤ 90 := by omega
        have t48 : (48 : Int) ≤ (b.toNat : Int) := by omega
        have t57 : (b.toNat : Int) ≤ 57 := by omega
        have t95 : ((b.toNat : Int) == 95) = false := by simp; omega
        by_cases hk0 : k = 0
        · subst hk0
          have hF := hidden (fitN_no hlt HB.out (show nameB 0 b = false by simp [nameB, letterB, digitB]; omega))
          clear hc
          go_wp2_with fail
          go_ret
          exact ⟨ret_bool hF.out.symm, rfl⟩
        · have hkz : ((k : Int) == 0) = false := by simp; omega
          have hN := hidden (namesUpto_succ hno.out HB.out (show nameB k b = true by simp [nameB, letterB, digitB]; omega))
          clear hc
          go_wp2_with fail
          go_roundw
          case rel => exact ⟨k + 1, by omega, by go_num, hN, trivial⟩
          case measure => simp [intOf]; omega
      · have t97 : decide ((97 : Int) ≤ (b.toNat : Int)) = false := by simp; omega
        have t122 : (b.toNat : Int) ≤ 122 := by omega
        have t65 : decide ((65 : Int) ≤ (b.toNat : Int)) = false := by simp; omega
        have t90 : (b.toNat : Int) ≤ 90 := by omega
        have t48 : (48 : Int) ≤ (b.toNat : Int) := by omega
        have t57 : decide ((b.toNat : Int) ≤ 57) = false := by simp; omega
        have t95 : ((b.toNat : Int) == 95) = false := by simp; omega
        have hF := hidden (fitN_no hlt HB.out (show nameB k b = false by simp [nameB, letterB, digitB]; omega))
        clear hc
        go_wp2_with fail
        go_ret
        exact ⟨ret_bool hF.out.symm, rfl⟩
      · have t97 : decide ((97 : Int) ≤ (b.toNat : Int)) = false := by simp; omega
        have t122 : (b.toNat : Int) ≤ 122 := by omega
        have t65 : (65 : Int) ≤ (b.toNat : Int) := by omega
        have t90 : (b.toNat : Int) ≤ 90 := by omega
        have t48 : (48 : Int) ≤ (b.toNat : Int) := by omega
        have t57 : decide ((b.toNat : Int) ≤ 57) = false := by simp; omega
        have t95 : ((b.toNat : Int) == 95) = false := by simp; omega
        have hN := hidden (namesUpto_succ hno.out HB.out (show nameB k b = true by simp [nameB, letterB, digitB]; omega))
        clear hc
        go_wp2_with fail
        go_roundw
        case rel => exact ⟨k + 1, by omega, by go_num, hN, trivial⟩
        case measure => simp [intOf]; omega
      · have t97 : decide ((97 : Int) ≤ (b.toNat : Int)) = false := by simp; omega
        have t122 : (b.toNat : Int) ≤ 122 := by omega
        have t65 : (65 : Int) ≤ (b.toNat : Int) := by omega
        have t90 : decide ((b.toNat : Int) ≤ 90) = false := by simp; omega
        have t48 : (48 : Int) ≤ (b.toNat : Int) := by omega
        have t57 : decide ((b.toNat : Int) ≤ 57) = false := by simp; omega
        have t95 : ((b.toNat : Int) == 95) = false := by simp; omega
        have hF := hidden (fitN_no hlt HB.out (show nameB k b = false by simp [nameB, letterB, digitB]; omega))
        clear hc
        go_wp2_with fail
        go_ret
        exact ⟨ret_bool hF.out.symm, rfl⟩
      · have t97 : decide ((97 : Int) ≤ (b.toNat : Int)) = false := by simp; omega
        have t122 : (b.toNat : Int) ≤ 122 := by omega
        have t65 : (65 : Int) ≤ (b.toNat : Int) := by omega
        have t90 : decide ((b.toNat : Int) ≤ 90) = false := by simp; omega
        have t48 : (48 : Int) ≤ (b.toNat : Int) := by omega
        have t57 : decide ((b.toNat : Int) ≤ 57) = false := by simp; omega
        have t95 : ((b.toNat : Int) == 95) = true := by simp; omega
        have hN := hidden (namesUpto_succ hno.out HB.out (show nameB k b = true by simp [nameB, letterB, digitB]; omega))
        clear hc
        go_wp2_with fail
        go_roundw
        case rel => exact ⟨k + 1, by omega, by go_num, hN, trivial⟩
        case measure => simp [intOf]; omega
      · have t97 : decide ((97 : Int) ≤ (b.toNat : Int)) = false := by simp; omega
        have t122 : (b.toNat : Int) ≤ 122 := by omega
        have t65 : (65 : Int) ≤ (b.toNat : Int) := by omega
        have t90 : decide ((b.toNat : Int) ≤ 90) = false := by simp; omega
        have t48 : (48 : Int) ≤ (b.toNat : Int) := by omega
        have t57 : decide ((b.toNat : Int) ≤ 57) = false := by simp; omega
        have t95 : ((b.toNat : Int) == 95) = false := by simp; omega
        have hF := hidden (fitN_no hlt HB.out (show nameB k b = false by simp [nameB, letterB, digitB]; omega))
        clear hc
        go_wp2_with fail
        go_ret
        exact ⟨ret_bool hF.out.symm, rfl⟩
      · have t97 : (97 : Int) ≤ (b.toNat : Int) := by omega
        have t122 : (b.toNat : Int) ≤ 122 := by omega
        have t65 : (65 : Int) ≤ (b.toNat : Int) := by omega
        have t90 : decide ((b.toNat : Int) ≤ 90) = false := by simp; omega
        have t48 : (48 : Int) ≤ (b.toNat : Int) := by omega
        have t57 : decide ((b.toNat : Int) ≤ 57) = false := by simp; omega
        have t95 : ((b.toNat : Int) == 95) = false := by simp; omega
        have hN := hidden (namesUpto_succ hno.out HB.out (show nameB k b = true by simp [nameB, letterB, digitB]; omega))
        clear hc
        go_wp2_with fail
        go_roundw
        case rel => exact ⟨k + 1, by omega, by go_num, hN, trivial⟩
        case measure => simp [intOf]; omega
      · have t97 : (97 : Int) ≤ (b.toNat : Int) := by omega
        have t122 : decide ((b.toNat : Int) ≤ 122) = false := by simp; omega
        have t65 : (65 : Int) ≤ (b.toNat : Int) := by omega
        have t90 : decide ((b.toNat : Int) ≤ 90) = false := by simp; omega
        have t48 : (48 : Int) ≤ (b.toNat : Int) := by omega
        have t57 : decide ((b.toNat : Int) ≤ 57) = false := by simp; omega
        have t95 : ((b.toNat : Int) == 95) = false := by simp; omega
        have hF := hidden (fitN_no hlt HB.out (show nameB k b = false by simp [nameB, letterB, digitB]; omega))
        clear hc
        go_wp2_with fail
        go_ret
        exact ⟨ret_bool hF.out.symm, rfl⟩
    · obtain rfl : k = s.size := by omega
      have hF := hidden (fitN_end hno.out)
      have k1 : ¬ (s.size : Int) < (s.size : Int) := by omega
      by_cases he : s.size = 0
      · have h1 : ¬ (1 : Int) ≤ (s.size : Int) := by omega
        have hF2 : Hid (fitN s = false) := by rw [Hid, hF.out, decide_eq_false (by omega), Bool.false_and]
        go_wp2_with fail
        go_ret
        rw [hF2.out]
        exact ⟨rfl, rfl⟩
      · have h1 : (1 : Int) ≤ (s.size : Int) := by omega
        have hF2 : Hid (fitN s = decide (s.size ≤ 32)) := by rw [Hid, hF.out, decide_eq_true (show 1 ≤ s.size by omega), Bool.true_and]
        go_wp2_with fail
        go_ret
        rw [hF2.out]
        exact ⟨ret_bool (decide_eq_decide.2 (by omega)), rfl⟩
end Go.Proofs.YtbijjjhfekkfaaaGreat

namespace Go.Proofs.YtbijjjhfekkfaaaGreat
set_option maxRecDepth 100000
open Go.RowKit

/-- labels as they lie -/
structure LbF (w : World) (A : Option Addr) (n : Nat) (l : List Lbl) : Prop where
  row : Row w w.heap.size 2 A n (l.flatMap Lbl.cells)
  len : l.length = n
  fit : n * 32 ≤ 140737488351232
  sz : ∀ x ∈ l, x.name.size ≤ 140737488355328 ∧ x.value.size ≤ 140737488355328
theorem LbF.on {w w' : World} {A : Option Addr} {n : Nat} {l : List Lbl} (h : LbF w A n l) (hb : Below w.heap.size w w') : LbF w' A n l := ⟨(h.row.below hb).more hb.size, h.len, h.fit, h.sz⟩
theorem lb_cells {w : World} {A : Option Addr} {n : Nat} {l : List Lbl} (h : LbF w A n l) {k : Nat} (hk : k < n) : ∃ g o x, A = some ⟨g, o, none⟩ ∧ g < w.heap.size ∧ l[k]? = some x ∧ w.cell? ⟨g, o + k * 2, none⟩ = some (.string x.name) ∧ w.cell? ⟨g, o + k * 2 + 1, none⟩ = some (.string x.value) ∧ x ∈ l := by
  obtain ⟨g, o, x, hA, hg, hx, hc⟩ := row_at (enc := Lbl.cells) (k := 2) (fun _ => rfl) h.row h.len k hk
  exact ⟨g, o, x, hA, hg, hx, hc 0 (by omega), hc 1 (by omega), List.mem_of_getElem? hx⟩
theorem take_lb : ∀ (l : List Lbl) (k : Nat), (l.flatMap Lbl.cells).take (k * 2) = (l.take k).flatMap Lbl.cells
  | [], k => by simp
  | x :: l, 0 => by simp
  | x :: l, k + 1 => by
    rw [show (k + 1) * 2 = k * 2 + 2 by omega, List.flatMap_cons, List.take_succ_cons, List.flatMap_cons, ← take_lb l k]
    rfl
theorem LbF.first {w : World} {A : Option Addr} {n : Nat} {l : List Lbl} (h : LbF w A n l) {k : Nat} (hk : k ≤ n) : Row w w.heap.size 2 A k ((l.take k).flatMap Lbl.cells) := by
  have hl := h.row.len
  rw [← take_lb]
  refine ⟨by rw [List.length_take]; omega, fun hn => ?_⟩
  obtain ⟨g, o, e, hb, hc⟩ := h.row.at_ (by omega)
  exact ⟨g, o, e, hb, fun j hj => by rw [hc j (by omega), List.getElem?_take_of_lt (by omega)]⟩
theorem str_eq (a b : ByteArray) : (a.toList == b.toList) = decide (a = b) := by
  rw [Lib.toList_data, Lib.toList_data]
  by_cases h : a = b
  · subst h; simp
  · rw [decide_eq_false h]
    exact beq_eq_false_iff_ne.2 fun e => h (bytes_eq e)
end Go.Proofs.YtbijjjhfekkfaaaGreat

namespace Go.Proofs.YtbijjjhfekkfaaaGreat.IdxLbl
set_option maxRecDepth 100000
open Go.RowKit

theorem hk (x : Lbl) : x.cells.length = 2 := rfl

/-- what is asked of a predicate -/
def PredOk (f : FuncId) (cb : Array Value) (p : Lbl → Bool) (l : List Lbl) (ok : World → Prop) : Prop :=
  ∀ x ∈ l, ∀ W, ok W → Calls Tryz.prog f (#[.agg #[.string x.name, .string x.value]] ++ cb) W fun e w2 => e = .returned (.bool (p x)) ∧ Below W.heap.size W w2
/-- where the first one is -/
def IdxRes (p : Lbl → Bool) (l : List Lbl) (r : Int) : Prop := (r = -1 ∧ ∀ x ∈ l, p x = false) ∨ ∃ (i : Nat) (x : Lbl), r = i ∧ l[i]? = some x ∧ p x = true ∧ ∀ y ∈ l.take i, p y = false

set_option maxHeartbeats 1600000 in
theorem index_any (A : Option Addr) (n c : Nat) (l : List Lbl) (f : FuncId) (cb : Array Value) (p : Lbl → Bool) (w : World) (eg : ∀ args w, (callFunc f args).run Tryz.prog w = .ok (.enter f args) w) (hp : PredOk f cb p l (fun W => Below w.heap.size w W)) (hr : Row w w.heap.size 2 A n (l.flatMap Lbl.cells)) (hl : l.length = n) (hn : n ≤ 4611686018427387904) :
    Calls Tryz.prog 242 #[.slice A n c, .func (.func f) #[] cb] w
      fun e w' => ∃ r : Int, e = .returned (.int .i64 r) ∧ IdxRes p l r ∧ Below w.heap.size w w' := by
  have hL := hidden hl
  have HR := hidden hr
  have HP := hidden hp
  clear hl hr hp
  go_enter Tryz.func242, Tryz.ntmps242
  go_wp2
  go_loopw [8] (fun i wr => ∃ k : Nat, k ≤ n ∧ i = .int .i64 k ∧ Hid (∀ y ∈ l.take k, p y = false) ∧ Below w.heap.size w wr) (fun i _ => n - (intOf i).toNat)
  case atStart => exact ⟨0, Nat.zero_le _, rfl, hidden (by simp), Below.refl _ _⟩
  case round =>
    obtain ⟨k, hk1, rfl, hall, hb⟩ := hrel
    by_cases hlt : k < n
    · obtain ⟨gs, o, x, rfl, hgs, hx, hcl⟩ := row_at hk (HR.out.below hb) hL.out k hlt
      have d0 : wr.cell? ⟨gs, o + k * 2, none⟩ = some (.string x.name) := hcl 0 (by omega)
      have d1 : wr.cell? ⟨gs, o + k * 2 + 1, none⟩ = some (.string x.value) := hcl 1 (by omega)
      have hcon := HP.out x (List.mem_of_getElem? hx) wr hb
      have hT := hidden (take_snoc? hx)
      have HX := hidden hx
      have HCON := hidden hcon
      have hltz : (k : Int) < (n : Int) := by omega
      have hk0 : (0 : Int) ≤ (k : Int) := by omega
      clear hx hcl hcon
      go_wp2_with fail
      refine HCON.out.mono ?_
      rintro e w1 ⟨rfl, hb1⟩
      have hB1 := hb.trans (hb1.mono hb.size)
      clear HCON hb1 d0 d1
      obtain ⟨b, hv⟩ : ∃ b, p x = b := ⟨_, rfl⟩
      rw [hv]
      have HV := hidden hv
      clear hv
      cases b with
      | false =>
        go_wp2_with fail
        go_roundw
        case rel => exact ⟨k + 1, by omega, by go_num, hidden (by
          intro y hy
          rw [hT.out] at hy
          rcases List.mem_append.1 hy with h | h
          · exact hall.out y h
          · rw [List.mem_singleton.1 h]; exact HV.out), hB1⟩
        case measure => simp [intOf]; omega
      | true =>
        go_wp2_with fail
        go_ret
        exact ⟨_, rfl, .inr ⟨k, x, rfl, HX.out, HV.out, hall.out⟩, hB1⟩
    · obtain rfl : n = k := by omega
      have hall2 := hall.out
      rw [List.take_of_length_le (by rw [hL.out]; exact Nat.le_refl _)] at hall2
      have HA := hidden hall2
      clear hall2
      go_wp2
      go_ret
      exact ⟨-1, rfl, .inl ⟨rfl, HA.out⟩, hb⟩


set_option maxHeartbeats 1600000 in
theorem contains_any (A : Option Addr) (n c : Nat) (l : List Lbl) (f : FuncId) (cb : Array Value) (p : Lbl → Bool) (w : World) (eg : ∀ args w, (callFunc f args).run Tryz.prog w = .ok (.enter f args) w) (hp : PredOk f cb p l (fun W => Below w.heap.size w W)) (hr : Row w w.heap.size 2 A n (l.flatMap Lbl.cells)) (hl : l.length = n) (hn : n ≤ 4611686018427387904) :
    Calls Tryz.prog 187 #[.slice A n c, .func (.func f) #[] cb] w
      fun e w' => e = .returned (.bool (l.any p)) ∧ Below w.heap.size w w' := by
  have S1 := hidden (index_any A n c l f cb p w eg hp hr hl hn)
  clear hp hr
  go_enter Tryz.func187, Tryz.ntmps187
  go_wp2_with fail
  refine S1.out.mono ?_
  rintro e w1 ⟨r, rfl, hres, hb⟩
  have HB := hidden hb
  have hd : l.any p = decide (0 ≤ r) := by
    rcases hres with ⟨rfl, h⟩ | ⟨i, x, rfl, hx, hpx, _⟩
    · rw [show decide ((0 : Int) ≤ -1) = false from rfl, List.any_eq_false]
      intro x hx
      rw [h x hx]; simp
    · rw [decide_eq_true (by omega), List.any_eq_true]
      exact ⟨x, List.mem_of_getElem? hx, hpx⟩
  have HD := hidden hd
  clear hb hres hd S1
  go_wp2_with fail
  go_ret
  exact ⟨ret_bool HD.out.symm, HB.out⟩
end Go.Proofs.YtbijjjhfekkfaaaGreat.IdxLbl

namespace Go.Proofs.YtbijjjhfekkfaaaGreat
open Go.Sort
variable {α : Type} [Inhabited α]

/-- 'for i := 0; i < n; i++ { swap a+i, b+i }', from i -/
def swapFrom (a b n i : Nat) (d : Array α) : Array α := if i < n then swapFrom a b n (i + 1) (swp d (a + i) (b + i)) else d
termination_by n - i

/-- the loop of rotate -/
def rot (m : Nat) : Nat → Nat → Nat → Array α → Array α
  | 0, _, _, d => d
  | f + 1, i, j, d =>
    if i = j then swapFrom (m - i) m i 0 d
    else if j < i then rot m f (i - j) j (swapFrom (m - i) m j 0 d)
    else rot m f i (j - i) (swapFrom (m - i) (m + j - i) i 0 d)

/-- where a binary search comes to an end -/
def bsr (p : Nat → Bool) (i j : Nat) : Nat := if i < j then (if p ((i + j) / 2) then bsr p ((i + j) / 2 + 1) j else bsr p i ((i + j) / 2)) else i
termination_by j - i

/-- 'for k := a; k < t; k++ { swap k, k+1 }', from k -/
def moveUp (t k : Nat) (d : Array α) : Array α := if k < t then moveUp t (k + 1) (swp d k (k + 1)) else d
termination_by t - k
/-- 'for k := m; k > i; k-- { swap k, k-1 }', from k -/
def moveDown (i : Nat) : Nat → Array α → Array α
  | 0, d => d
  | k + 1, d => if i < k + 1 then moveDown i k (swp d (k + 1) k) else d

def symMerge (lt : α → α → Bool) : Nat → Nat → Nat → Nat → Array α → Array α
  | 0, _, _, _, d => d
  | f + 1, a, m, b, d =>
    if m - a = 1 then moveUp (bsr (fun h => lt d[h]! d[a]!) m b - 1) a d
    else if b - m = 1 then moveDown (bsr (fun h => !lt d[m]! d[h]!) a m) m d
    else
      let mid := (a + b) / 2
      let n := mid + m
      let s := if mid < m then bsr (fun c => !lt d[n - 1 - c]! d[c]!) (n - b) mid else bsr (fun c => !lt d[n - 1 - c]! d[c]!) a m
      let e := n - s
      let d1 := if s < m ∧ m < e then rot m (b - a) (m - s) (e - m) d else d
      let d2 := if a < s ∧ s < mid then symMerge lt f a s mid d1 else d1
      if mid < e ∧ e < b then symMerge lt f mid e b d2 else d2

/-- the blocks of the first rounds, from a -/
def insBlocks (lt : α → α → Bool) (n a : Nat) (d : Array α) : Array α := if a + 20 ≤ n then insBlocks lt n (a + 20) (insertionSort lt d a (a + 20)) else insertionSort lt d a n
termination_by n - a
/-- one pass of merges of blocks of blk, from a -/
def pass (lt : α → α → Bool) (blk n : Nat) : Nat → Nat → Array α → Array α
  | 0, _, d => d
  | f + 1, a, d => if a + 2 * blk ≤ n then pass lt blk n f (a + 2 * blk) (symMerge lt (2 * blk) a (a + blk) (a + 2 * blk) d) else if a + blk < n then symMerge lt (n - a) a (a + blk) n d else d
def passes (lt : α → α → Bool) (n : Nat) : Nat → Nat → Array α → Array α
  | 0, _, d => d
  | f + 1, blk, d => if blk < n then passes lt n f (2 * blk) (pass lt blk n (n + 1) 0 d) else d
def stable (lt : α → α → Bool) (n : Nat) (d : Array α) : Array α := passes lt n n 20 (insBlocks lt n 0 d)

/-! What they do. -/
theorem swapFrom_spec (a b n : Nat) (hab : a + n ≤ b) : ∀ (r i : Nat) (d : Array α), n - i = r → i ≤ n → b + n ≤ d.size →
    (swapFrom a b n i d).size = d.size ∧ ∀ p, (swapFrom a b n i d)[p]! = if a + i ≤ p ∧ p < a + n then d[p - a + b]! else if b + i ≤ p ∧ p < b + n then d[p - b + a]! else d[p]!
  | 0, i, d, hr, hi, hs => by
    rw [swapFrom, if_neg (by omega)]
    refine ⟨rfl, fun p => ?_⟩
    rw [if_neg (by omega), if_neg (by omega)]
  | r + 1, i, d, hr, hi, hs => by
    rw [swapFrom, if_pos (by omega)]
    obtain ⟨h1, h2⟩ := swapFrom_spec a b n hab r (i + 1) (swp d (a + i) (b + i)) (by omega) (by omega) (by rw [size_swp]; exact hs)
    refine ⟨by rw [h1, size_swp], fun p => ?_⟩
    have g := swp_get d (show a + i < d.size by omega) (show b + i < d.size by omega)
    rw [h2, g, g, g]
    by_cases c1 : a + i ≤ p ∧ p < a + n
    · rw [if_pos c1]
      by_cases c2 : p = a + i
      · subst c2
        rw [if_neg (by omega), if_neg (by omega), if_neg (by omega), if_pos rfl, show a + i - a + b = b + i from by omega]
      · rw [if_pos (by omega), if_neg (by omega), if_neg (by omega)]
    · rw [if_neg c1, if_neg (by omega)]
      by_cases c3 : b + i ≤ p ∧ p < b + n
      · rw [if_pos c3]
        by_cases c2 : p = b + i
        · subst c2
          rw [if_neg (by omega), if_pos rfl, show b + i - b + a = a + i from by omega]
        · rw [if_pos (by omega), if_neg (by omega), if_neg (by omega)]
      · rw [if_neg c3, if_neg (by omega), if_neg (by omega), if_neg (by omega)]

theorem swapFrom_perm (a b n lo hi : Nat) (h1 : lo ≤ a) (h2 : a + n ≤ hi) (h3 : lo ≤ b) (h4 : b + n ≤ hi) : ∀ (r i : Nat) (d : Array α), n - i = r → i ≤ n → hi ≤ d.size → PermIn lo hi d (swapFrom a b n i d)
  | 0, i, d, hr, hi', hs => by rw [swapFrom, if_neg (by omega)]; exact permIn_refl _ _ _
  | r + 1, i, d, hr, hi', hs => by
    rw [swapFrom, if_pos (by omega)]
    exact permIn_trans _ _ _ _ _ (swp_permIn d lo hi (a + i) (b + i) (by omega) (by omega) (by omega) (by omega) hs) (swapFrom_perm a b n lo hi h1 h2 h3 h4 r (i + 1) _ (by omega) (by omega) (by rw [size_swp]; exact hs))

/-- [s, m) and [m, e) are exchanged -/
def Rotd (s m e : Nat) (d d' : Array α) : Prop := ∀ p, d'[p]! = if s ≤ p ∧ p < s + (e - m) then d[p + (m - s)]! else if s + (e - m) ≤ p ∧ p < e then d[p - (e - m)]! else d[p]!

theorem rot_spec (m : Nat) : ∀ (f i j : Nat) (d : Array α), 0 < i → 0 < j → i ≤ m → i + j ≤ f + 1 → m + j ≤ d.size → PermIn (m - i) (m + j) d (rot m f i j d) ∧ Rotd (m - i) m (m + j) d (rot m f i j d)
  | 0, i, j, d, h1, h2, h3, h4, h5 => by omega
  | f + 1, i, j, d, h1, h2, h3, h4, h5 => by
    rw [rot]
    by_cases hij : i = j
    · subst hij
      rw [if_pos rfl]
      obtain ⟨q1, q2⟩ := swapFrom_spec (m - i) m i (by omega) _ 0 d rfl (by omega) h5
      refine ⟨swapFrom_perm (m - i) m i (m - i) (m + i) (by omega) (by omega) (by omega) (by omega) _ 0 d rfl (by omega) h5, fun p => ?_⟩
      rw [q2]
      by_cases c1 : m - i ≤ p ∧ p < m
      · rw [if_pos (by omega), if_pos (by omega), show p - (m - i) + m = p + (m - (m - i)) from by omega]
      · by_cases c2 : m ≤ p ∧ p < m + i
        · rw [if_neg (by omega), if_pos (by omega), if_neg (by omega), if_pos (by omega), show p - m + (m - i) = p - (m + i - m) from by omega]
        · rw [if_neg (by omega), if_neg (by omega), if_neg (by omega), if_neg (by omega)]
    · rw [if_neg hij]
      by_cases hlt : j < i
      · rw [if_pos hlt]
        obtain ⟨q1, q2⟩ := swapFrom_spec (m - i) m j (by omega) _ 0 d rfl (by omega) h5
        have q3 := swapFrom_perm (m - i) m j (m - i) (m + j) (by omega) (by omega) (by omega) (by omega) _ 0 d rfl (by omega) h5
        obtain ⟨r1, r2⟩ := rot_spec m f (i - j) j (swapFrom (m - i) m j 0 d) (by omega) h2 (by omega) (by omega) (by rw [q1]; exact h5)
        refine ⟨permIn_trans _ _ _ _ _ q3 (permIn_mono _ _ _ _ _ _ (by omega) (Nat.le_refl _) (by rw [q1]; exact h5) r1), fun p => ?_⟩
        rw [r2]
        by_cases c1 : m - i ≤ p ∧ p < m - i + j
        · rw [if_neg (by omega), if_neg (by omega), q2, if_pos (by omega), if_pos (by omega)]
          congr 1; omega
        · rw [if_neg (show ¬(m - i ≤ p ∧ p < m - i + (m + j - m)) by omega)]
          by_cases c2 : m - i + j ≤ p ∧ p < m + j
          · rw [if_pos (show m - i + (m + j - m) ≤ p ∧ p < m + j by omega)]
            by_cases c3 : p < m - i + j + j
            · rw [if_pos (by omega), q2, if_neg (by omega), if_pos (by omega)]
              congr 1; omega
            · rw [if_neg (by omega), if_pos (by omega), q2, if_neg (by omega), if_neg (by omega)]
          · rw [if_neg (by omega), if_neg (by omega), if_neg (by omega), q2, if_neg (by omega), if_neg (by omega)]
      · rw [if_neg hlt]
        obtain ⟨q1, q2⟩ := swapFrom_spec (m - i) (m + j - i) i (by omega) _ 0 d rfl (by omega) (by omega)
        have q3 := swapFrom_perm (m - i) (m + j - i) i (m - i) (m + j) (by omega) (by omega) (by omega) (by omega) _ 0 d rfl (by omega) h5
        obtain ⟨r1, r2⟩ := rot_spec m f i (j - i) (swapFrom (m - i) (m + j - i) i 0 d) h1 (by omega) h3 (by omega) (by rw [q1]; omega)
        refine ⟨permIn_trans _ _ _ _ _ q3 (permIn_mono _ _ _ _ _ _ (Nat.le_refl _) (by omega) (by rw [q1]; exact h5) r1), fun p => ?_⟩
        rw [r2]
        by_cases c1 : m - i ≤ p ∧ p < m - i + j
        · rw [if_pos (show m - i ≤ p ∧ p < m - i + (m + j - m) by omega)]
          by_cases c3 : p < m - i + (j - i)
          · rw [if_pos (by omega), q2, if_neg (by omega), if_neg (by omega)]
          · rw [if_neg (by omega), if_pos (by omega), q2, if_pos (by omega)]
            congr 1; omega
        · rw [if_neg (show ¬(m - i ≤ p ∧ p < m - i + (m + j - m)) by omega), if_neg (by omega)]
          by_cases c2 : m - i + j ≤ p ∧ p < m + j
          · rw [if_pos (show m - i + (m + j - m) ≤ p ∧ p < m + j by omega), if_neg (by omega), q2, if_neg (by omega), if_pos (by omega)]
            congr 1; omega
          · rw [if_neg (by omega), if_neg (by omega), q2, if_neg (by omega), if_neg (by omega)]

theorem bsr_spec (p : Nat → Bool) : ∀ (r i j : Nat), j - i ≤ r → i ≤ j → i ≤ bsr p i j ∧ bsr p i j ≤ j ∧ (i < bsr p i j → p (bsr p i j - 1) = true) ∧ (bsr p i j < j → p (bsr p i j) = false)
  | 0, i, j, hr, hij => by
    rw [bsr, if_neg (by omega)]
    exact ⟨Nat.le_refl _, hij, fun h => by omega, fun h => by omega⟩
  | r + 1, i, j, hr, hij => by
    rw [bsr]
    by_cases hlt : i < j
    · rw [if_pos hlt]
      cases hp : p ((i + j) / 2) with
      | true =>
        rw [if_pos rfl]
        obtain ⟨a1, a2, a3, a4⟩ := bsr_spec p r ((i + j) / 2 + 1) j (by omega) (by omega)
        refine ⟨by omega, a2, fun h => ?_, a4⟩
        by_cases he : bsr p ((i + j) / 2 + 1) j = (i + j) / 2 + 1
        · rw [he, Nat.add_sub_cancel]; exact hp
        · exact a3 (by omega)
      | false =>
        rw [if_neg (by simp)]
        obtain ⟨a1, a2, a3, a4⟩ := bsr_spec p r i ((i + j) / 2) (by omega) (by omega)
        refine ⟨a1, by omega, a3, fun h => ?_⟩
        by_cases he : bsr p i ((i + j) / 2) = (i + j) / 2
        · rw [he]; exact hp
        · exact a4 (by omega)
    · rw [if_neg hlt]
      exact ⟨Nat.le_refl _, hij, fun h => by omega, fun h => by omega⟩

theorem moveUp_spec (t : Nat) : ∀ (r k : Nat) (d : Array α), t - k = r → k ≤ t → t < d.size → (moveUp t k d).size = d.size ∧ ∀ p, (moveUp t k d)[p]! = if k ≤ p ∧ p < t then d[p + 1]! else if p = t then d[k]! else d[p]!
  | 0, k, d, hr, hk, hs => by
    obtain rfl : k = t := by omega
    rw [moveUp, if_neg (by omega)]
    refine ⟨rfl, fun p => ?_⟩
    rw [if_neg (by omega)]
    by_cases h : p = k
    · rw [if_pos h, h]
    · rw [if_neg h]
  | r + 1, k, d, hr, hk, hs => by
    rw [moveUp, if_pos (by omega)]
    obtain ⟨h1, h2⟩ := moveUp_spec t r (k + 1) (swp d k (k + 1)) (by omega) (by omega) (by rw [size_swp]; exact hs)
    refine ⟨by rw [h1, size_swp], fun p => ?_⟩
    have g := swp_get d (show k < d.size by omega) (show k + 1 < d.size by omega)
    rw [h2, g, g, g]
    by_cases c1 : k ≤ p ∧ p < t
    · rw [if_pos c1]
      by_cases c2 : p = k
      · subst c2
        rw [if_neg (by omega), if_neg (by omega), if_neg (by omega), if_pos rfl]
      · rw [if_pos (by omega), if_neg (by omega), if_neg (by omega)]
    · rw [if_neg c1, if_neg (by omega)]
      by_cases c3 : p = t
      · rw [if_pos c3, if_pos c3, if_pos rfl]
      · rw [if_neg c3, if_neg c3, if_neg (by omega), if_neg (by omega)]

theorem moveUp_perm (t lo hi : Nat) (h2 : t < hi) : ∀ (r k : Nat) (d : Array α), t - k = r → lo ≤ k → hi ≤ d.size → PermIn lo hi d (moveUp t k d)
  | 0, k, d, hr, hk, hs => by rw [moveUp, if_neg (by omega)]; exact permIn_refl _ _ _
  | r + 1, k, d, hr, hk, hs => by
    rw [moveUp, if_pos (by omega)]
    exact permIn_trans _ _ _ _ _ (swp_permIn d lo hi k (k + 1) (by omega) (by omega) (by omega) (by omega) hs) (moveUp_perm t lo hi h2 r (k + 1) _ (by omega) (by omega) (by rw [size_swp]; exact hs))

theorem moveDown_spec (i : Nat) : ∀ (k : Nat) (d : Array α), i ≤ k → k < d.size → (moveDown i k d).size = d.size ∧ ∀ p, (moveDown i k d)[p]! = if i < p ∧ p ≤ k then d[p - 1]! else if p = i then d[k]! else d[p]!
  | 0, d, hk, hs => by
    obtain rfl : i = 0 := by omega
    rw [moveDown]
    refine ⟨rfl, fun p => ?_⟩
    rw [if_neg (by omega)]
    by_cases h : p = 0
    · rw [if_pos h, h]
    · rw [if_neg h]
  | k + 1, d, hk, hs => by
    rw [moveDown]
    by_cases hi : i < k + 1
    · rw [if_pos hi]
      obtain ⟨h1, h2⟩ := moveDown_spec i k (swp d (k + 1) k) (by omega) (by rw [size_swp]; omega)
      refine ⟨by rw [h1, size_swp], fun p => ?_⟩
      have g := swp_get d (show k + 1 < d.size by omega) (show k < d.size by omega)
      rw [h2, g, g, g]
      by_cases c1 : i < p ∧ p ≤ k + 1
      · rw [if_pos c1]
        by_cases c2 : p = k + 1
        · subst c2
          rw [if_neg (by omega), if_neg (by omega), if_neg (by omega), if_pos rfl]; rfl
        · rw [if_pos (by omega), if_neg (by omega), if_neg (by omega)]
      · rw [if_neg c1, if_neg (by omega)]
        by_cases c3 : p = i
        · rw [if_pos c3, if_pos c3, if_pos rfl]
        · rw [if_neg c3, if_neg c3, if_neg (by omega), if_neg (by omega)]
    · rw [if_neg hi]
      obtain rfl : i = k + 1 := by omega
      refine ⟨rfl, fun p => ?_⟩
      rw [if_neg (by omega)]
      by_cases h : p = k + 1
      · rw [if_pos h, h]
      · rw [if_neg h]

theorem moveDown_perm (i lo hi : Nat) (h1 : lo ≤ i) : ∀ (k : Nat) (d : Array α), k < hi → hi ≤ d.size → PermIn lo hi d (moveDown i k d)
  | 0, d, hk, hs => by rw [moveDown]; exact permIn_refl _ _ _
  | k + 1, d, hk, hs => by
    rw [moveDown]
    by_cases hi' : i < k + 1
    · rw [if_pos hi']
      exact permIn_trans _ _ _ _ _ (swp_permIn d lo hi (k + 1) k (by omega) (by omega) (by omega) (by omega) hs) (moveDown_perm i lo hi h1 k _ (by omega) (by rw [size_swp]; exact hs))
    · rw [if_neg hi']; exact permIn_refl _ _ _

theorem swapFrom_size (a b n : Nat) : ∀ (r i : Nat) (d : Array α), n - i = r → (swapFrom a b n i d).size = d.size
  | 0, i, d, hr => by rw [swapFrom, if_neg (by omega)]
  | r + 1, i, d, hr => by rw [swapFrom, if_pos (by omega), swapFrom_size a b n r (i + 1) _ (by omega), size_swp]
theorem rot_size (m : Nat) : ∀ (f i j : Nat) (d : Array α), (rot m f i j d).size = d.size
  | 0, _, _, _ => rfl
  | f + 1, i, j, d => by
    rw [rot]
    split
    · exact swapFrom_size _ _ _ _ 0 _ rfl
    · split
      · rw [rot_size m f, swapFrom_size _ _ _ _ 0 _ rfl]
      · rw [rot_size m f, swapFrom_size _ _ _ _ 0 _ rfl]
theorem moveUp_size (t : Nat) : ∀ (r k : Nat) (d : Array α), t - k = r → (moveUp t k d).size = d.size
  | 0, k, d, hr => by rw [moveUp, if_neg (by omega)]
  | r + 1, k, d, hr => by rw [moveUp, if_pos (by omega), moveUp_size t r (k + 1) _ (by omega), size_swp]
theorem moveDown_size (i : Nat) : ∀ (k : Nat) (d : Array α), (moveDown i k d).size = d.size
  | 0, d => rfl
  | k + 1, d => by
    rw [moveDown]
    split
    · rw [moveDown_size i k, size_swp]
    · rfl
theorem symMerge_size (lt : α → α → Bool) : ∀ (f a m b : Nat) (d : Array α), (symMerge lt f a m b d).size = d.size
  | 0, _, _, _, _ => rfl
  | f + 1, a, m, b, d => by
    rw [symMerge]
    split
    · exact moveUp_size _ _ _ _ rfl
    · split
      · exact moveDown_size _ _ _
      · simp only
        generalize hs : (if (a + b) / 2 < m then bsr _ _ _ else bsr _ _ _) = s
        have h1 : (if s < m ∧ m < (a + b) / 2 + m - s then rot m (b - a) (m - s) ((a + b) / 2 + m - s - m) d else d).size = d.size := by
          split
          · exact rot_size _ _ _ _ _
          · rfl
        split
        · rw [symMerge_size lt f]
          split
          · rw [symMerge_size lt f]; exact h1
          · exact h1
        · split
          · rw [symMerge_size lt f]; exact h1
          · exact h1

theorem insInner_size (lt : α → α → Bool) (a : Nat) : ∀ (j : Nat) (d : Array α), (insInner lt a j d).size = d.size
  | 0, d => rfl
  | j + 1, d => by
    rw [insInner]
    split
    · rw [insInner_size lt a j, size_swp]
    · rfl
theorem insOuter_size (lt : α → α → Bool) (a b : Nat) : ∀ (r i : Nat) (d : Array α), b - i = r → (insOuter lt a b i d).size = d.size
  | 0, i, d, hr => by rw [insOuter, if_neg (by omega)]
  | r + 1, i, d, hr => by rw [insOuter, if_pos (by omega), insOuter_size lt a b r (i + 1) _ (by omega), insInner_size]
theorem insertionSort_size (lt : α → α → Bool) (d : Array α) (a b : Nat) : (insertionSort lt d a b).size = d.size := insOuter_size lt a b _ (a + 1) d rfl

/-! Two orders: 'lt', by which the text compares; 'R', that tells equals by where they stood. Across a border both are one. -/
variable {lt R : α → α → Bool}

/-- what stands ahead of the border m and what stands behind it -/
def Cross (lt R : α → α → Bool) (a m b : Nat) (d : Array α) : Prop := ∀ i j, a ≤ i → i < m → m ≤ j → j < b → lt d[j]! d[i]! = R d[j]! d[i]!

omit [Inhabited α] in
theorem swo_not {R : α → α → Bool} (hR : SWO R) {x y : α} (h : R x y = true) : R y x = false := hR.asymmA h

theorem symMerge_ok (hR : SWO R) : ∀ (f a m b : Nat) (d : Array α), b - a ≤ f → a < m → m < b → b ≤ d.size → SortedIn R a m d → SortedIn R m b d → Cross lt R a m b d →
    PermIn a b d (symMerge lt f a m b d) ∧ SortedIn R a b (symMerge lt f a m b d)
  | 0, a, m, b, d, hf, ham, hmb, hs, hl, hr, hx => by omega
  | f + 1, a, m, b, d, hf, ham, hmb, hs, hl, hr, hx => by
    rw [symMerge]
    by_cases h1 : m - a = 1
    · rw [if_pos h1]
      obtain rfl : m = a + 1 := by omega
      obtain ⟨b1, b2, b3, b4⟩ := bsr_spec (fun h => lt d[h]! d[a]!) _ (a + 1) b (Nat.le_refl _) (by omega)
      generalize bsr (fun h => lt d[h]! d[a]!) (a + 1) b = i at b1 b2 b3 b4
      obtain ⟨g1, g2⟩ := moveUp_spec (i - 1) _ a d rfl (by omega) (by omega)
      refine ⟨moveUp_perm (i - 1) a b (by omega) _ a d rfl (Nat.le_refl _) hs, fun p q hap hpq hqb => ?_⟩
      rw [g2, g2]
      by_cases cq : q < i - 1
      · rw [if_pos (by omega), if_pos (by omega)]
        exact hr (p + 1) (q + 1) (by omega) (by omega) (by omega)
      · rw [if_neg (show ¬(a ≤ q ∧ q < i - 1) by omega)]
        by_cases cq1 : q = i - 1
        · rw [if_pos cq1, if_pos (by omega)]
          have h2 : lt d[i - 1]! d[a]! = true := b3 (by omega)
          have h3 : R d[i - 1]! d[a]! = true := by rw [← hx a (i - 1) (by omega) (by omega) (by omega) (by omega)]; exact h2
          by_cases he : p + 1 = i - 1
          · rw [he]; exact hR.asymmA h3
          · exact hR.ntrans _ _ _ (hR.asymmA h3) (hr (p + 1) (i - 1) (by omega) (by omega) (by omega))
        · rw [if_neg cq1]
          by_cases cp : p < i - 1
          · rw [if_pos (by omega)]
            exact hr (p + 1) q (by omega) (by omega) hqb
          · rw [if_neg (by omega)]
            by_cases cp1 : p = i - 1
            · rw [if_pos cp1]
              have h2 : lt d[i]! d[a]! = false := b4 (by omega)
              have h3 : R d[i]! d[a]! = false := by rw [← hx a i (by omega) (by omega) (by omega) (by omega)]; exact h2
              by_cases he : q = i
              · rw [he]; exact h3
              · exact hR.ntrans _ _ _ (hr i q (by omega) (by omega) hqb) h3
            · rw [if_neg cp1]
              exact hr p q (by omega) hpq hqb
    · rw [if_neg h1]
      by_cases h2 : b - m = 1
      · rw [if_pos h2]
        obtain rfl : b = m + 1 := by omega
        obtain ⟨b1, b2, b3, b4⟩ := bsr_spec (fun h => !lt d[m]! d[h]!) _ a m (Nat.le_refl _) (by omega)
        generalize bsr (fun h => !lt d[m]! d[h]!) a m = i at b1 b2 b3 b4
        obtain ⟨g1, g2⟩ := moveDown_spec i m d (by omega) (by omega)
        refine ⟨moveDown_perm i a (m + 1) b1 m d (by omega) hs, fun p q hap hpq hqb => ?_⟩
        rw [g2, g2]
        by_cases cq : i < q ∧ q ≤ m
        · rw [if_pos cq]
          by_cases cp : i < p ∧ p ≤ m
          · rw [if_pos cp]
            exact hl (p - 1) (q - 1) (by omega) (by omega) (by omega)
          · rw [if_neg cp]
            by_cases cp1 : p = i
            · rw [if_pos cp1]
              have h2 := b4 (by omega)
              simp only [Bool.not_eq_false'] at h2
              have h3 : R d[m]! d[i]! = true := by rw [← hx i m (by omega) (by omega) (by omega) (by omega)]; exact h2
              by_cases he : q - 1 = i
              · rw [he]; exact hR.asymmA h3
              · exact hR.ntrans _ _ _ (hl i (q - 1) (by omega) (by omega) (by omega)) (hR.asymmA h3)
            · rw [if_neg cp1]
              exact hl p (q - 1) (by omega) (by omega) (by omega)
        · rw [if_neg cq, if_neg (show ¬(i < p ∧ p ≤ m) by omega)]
          by_cases cq1 : q = i
          · rw [if_pos cq1, if_neg (by omega)]
            have h2 := b3 (by omega)
            simp only [Bool.not_eq_true'] at h2
            have h3 : R d[m]! d[i - 1]! = false := by rw [← hx (i - 1) m (by omega) (by omega) (by omega) (by omega)]; exact h2
            by_cases he : p = i - 1
            · rw [he]; exact h3
            · exact hR.ntrans _ _ _ h3 (hl p (i - 1) (by omega) (by omega) (by omega))
          · rw [if_neg cq1, if_neg (by omega)]
            exact hl p q (by omega) hpq (by omega)
      · rw [if_neg h2]
        simp only
        have hmid1 : a < (a + b) / 2 := by omega
        have hmid2 : (a + b) / 2 < b := by omega
        have hms : 2 * ((a + b) / 2) ≤ a + b := by omega
        have hms2 : a + b ≤ 2 * ((a + b) / 2) + 1 := by omega
        generalize (a + b) / 2 = mid at *
        have key : ∀ s, (if mid < m then bsr (fun c => !lt d[mid + m - 1 - c]! d[c]!) (mid + m - b) mid else bsr (fun c => !lt d[mid + m - 1 - c]! d[c]!) a m) = s →
            a ≤ s ∧ s ≤ m ∧ s ≤ mid ∧ mid + m - s ≤ b ∧ (a < s → mid + m - s < b → R d[mid + m - s]! d[s - 1]! = false) ∧ (s < m → s < mid → R d[mid + m - s - 1]! d[s]! = true) := by
          intro s hs'
          by_cases c : mid < m
          · rw [if_pos c] at hs'
            obtain ⟨b1, b2, b3, b4⟩ := bsr_spec (fun c => !lt d[mid + m - 1 - c]! d[c]!) _ (mid + m - b) mid (Nat.le_refl _) (by omega)
            rw [hs'] at b1 b2 b3 b4
            refine ⟨by omega, by omega, b2, by omega, fun h3 h4 => ?_, fun h3 h4 => ?_⟩
            · have := b3 (by omega)
              simp only [Bool.not_eq_true'] at this
              rw [show mid + m - 1 - (s - 1) = mid + m - s from by omega] at this
              rw [← hx (s - 1) (mid + m - s) (by omega) (by omega) (by omega) (by omega)]; exact this
            · have := b4 (by omega)
              simp only [Bool.not_eq_false'] at this
              rw [show mid + m - 1 - s = mid + m - s - 1 from by omega] at this
              rw [← hx s (mid + m - s - 1) (by omega) (by omega) (by omega) (by omega)]; exact this
          · rw [if_neg c] at hs'
            obtain ⟨b1, b2, b3, b4⟩ := bsr_spec (fun c => !lt d[mid + m - 1 - c]! d[c]!) _ a m (Nat.le_refl _) (by omega)
            rw [hs'] at b1 b2 b3 b4
            refine ⟨by omega, by omega, by omega, by omega, fun h3 h4 => ?_, fun h3 h4 => ?_⟩
            · have := b3 (by omega)
              simp only [Bool.not_eq_true'] at this
              rw [show mid + m - 1 - (s - 1) = mid + m - s from by omega] at this
              rw [← hx (s - 1) (mid + m - s) (by omega) (by omega) (by omega) (by omega)]; exact this
            · have := b4 (by omega)
              simp only [Bool.not_eq_false'] at this
              rw [show mid + m - 1 - s = mid + m - s - 1 from by omega] at this
              rw [← hx s (mid + m - s - 1) (by omega) (by omega) (by omega) (by omega)]; exact this
        generalize hsd : (if mid < m then bsr (fun c => !lt d[mid + m - 1 - c]! d[c]!) (mid + m - b) mid else bsr (fun c => !lt d[mid + m - 1 - c]! d[c]!) a m) = s
        obtain ⟨k1, k2, k3, k4, k5, k6⟩ := key s hsd
        clear key hsd
        obtain ⟨e, he⟩ : ∃ e, mid + m - s = e := ⟨_, rfl⟩
        rw [he] at k4 k5 k6 ⊢
        -- the turn
        have hrot : ∀ d1, (if s < m ∧ m < e then rot m (b - a) (m - s) (e - m) d else d) = d1 → PermIn a b d d1 ∧ Rotd s m e d d1 := by
          intro d1 hd1
          by_cases c : s < m ∧ m < e
          · rw [if_pos c] at hd1
            obtain ⟨r1, r2⟩ := rot_spec m (b - a) (m - s) (e - m) d (by omega) (by omega) (by omega) (by omega) (by omega)
            rw [hd1, show m - (m - s) = s from by omega, show m + (e - m) = e from by omega] at r1 r2
            exact ⟨permIn_mono _ _ _ _ _ _ (by omega) (by omega) hs r1, r2⟩
          · rw [if_neg c] at hd1
            subst hd1
            refine ⟨permIn_refl _ _ _, fun p => ?_⟩
            by_cases c1 : s ≤ p ∧ p < s + (e - m)
            · rw [if_pos c1, show m - s = 0 from by omega]; rfl
            · rw [if_neg c1]
              by_cases c2 : s + (e - m) ≤ p ∧ p < e
              · rw [if_pos c2, show e - m = 0 from by omega]; rfl
              · rw [if_neg c2]
        generalize hd1 : (if s < m ∧ m < e then rot m (b - a) (m - s) (e - m) d else d) = d1
        obtain ⟨p1, t1⟩ := hrot d1 hd1
        clear hrot hd1
        have hmd : s + (e - m) = mid := by omega
        have z1 : d1.size = d.size := p1.1
        have L1 : ∀ p, p < s → d1[p]! = d[p]! := fun p hp => by rw [t1, if_neg (by omega), if_neg (by omega)]
        have R1 : ∀ p, s ≤ p → p < mid → d1[p]! = d[p + (m - s)]! := fun p h h' => by rw [t1, if_pos (by omega)]
        have L2 : ∀ p, mid ≤ p → p < e → d1[p]! = d[p - (e - m)]! := fun p h h' => by rw [t1, if_neg (by omega), if_pos (by omega)]
        have R2 : ∀ p, e ≤ p → d1[p]! = d[p]! := fun p hp => by rw [t1, if_neg (by omega), if_neg (by omega)]
        -- both halves, sorted by themselves
        have hleft : ∀ d2, (if a < s ∧ s < mid then symMerge lt f a s mid d1 else d1) = d2 → PermIn a mid d1 d2 ∧ SortedIn R a mid d2 := by
          intro d2 hd2
          by_cases c : a < s ∧ s < mid
          · rw [if_pos c] at hd2
            subst hd2
            refine symMerge_ok hR f a s mid d1 (by omega) c.1 c.2 (by omega) (fun p q h3 h4 h5 => ?_) (fun p q h3 h4 h5 => ?_) (fun i j h3 h4 h5 h6 => ?_)
            · rw [L1 p (by omega), L1 q (by omega)]; exact hl p q h3 h4 (by omega)
            · rw [R1 p (by omega) (by omega), R1 q (by omega) (by omega)]; exact hr _ _ (by omega) (by omega) (by omega)
            · rw [L1 i (by omega), R1 j (by omega) (by omega)]; exact hx _ _ (by omega) (by omega) (by omega) (by omega)
          · rw [if_neg c] at hd2
            subst hd2
            refine ⟨permIn_refl _ _ _, fun p q h3 h4 h5 => ?_⟩
            by_cases c3 : s = a
            · rw [R1 p (by omega) (by omega), R1 q (by omega) (by omega)]; exact hr _ _ (by omega) (by omega) (by omega)
            · rw [L1 p (by omega), L1 q (by omega)]; exact hl p q h3 h4 (by omega)
        generalize hd2 : (if a < s ∧ s < mid then symMerge lt f a s mid d1 else d1) = d2
        obtain ⟨p2, s2⟩ := hleft d2 hd2
        clear hleft hd2
        have z2 : d2.size = d.size := by rw [p2.1, z1]
        have B2 : ∀ p, mid ≤ p → d2[p]! = d1[p]! := fun p hp => p2.2.1 p (.inr hp)
        have hright : ∀ d3, (if mid < e ∧ e < b then symMerge lt f mid e b d2 else d2) = d3 → PermIn mid b d2 d3 ∧ SortedIn R mid b d3 := by
          intro d3 hd3
          by_cases c : mid < e ∧ e < b
          · rw [if_pos c] at hd3
            subst hd3
            refine symMerge_ok hR f mid e b d2 (by omega) c.1 c.2 (by omega) (fun p q h3 h4 h5 => ?_) (fun p q h3 h4 h5 => ?_) (fun i j h3 h4 h5 h6 => ?_)
            · rw [B2 p (by omega), B2 q (by omega), L2 p (by omega) (by omega), L2 q (by omega) (by omega)]; exact hl _ _ (by omega) (by omega) (by omega)
            · rw [B2 p (by omega), B2 q (by omega), R2 p (by omega), R2 q (by omega)]; exact hr _ _ (by omega) (by omega) (by omega)
            · rw [B2 i (by omega), B2 j (by omega), L2 i (by omega) (by omega), R2 j (by omega)]; exact hx _ _ (by omega) (by omega) (by omega) (by omega)
          · rw [if_neg c] at hd3
            subst hd3
            refine ⟨permIn_refl _ _ _, fun p q h3 h4 h5 => ?_⟩
            rw [B2 p (by omega), B2 q (by omega)]
            by_cases c3 : e = mid
            · rw [R2 p (by omega), R2 q (by omega)]; exact hr _ _ (by omega) (by omega) (by omega)
            · rw [L2 p (by omega) (by omega), L2 q (by omega) (by omega)]; exact hl _ _ (by omega) (by omega) (by omega)
        generalize hd3 : (if mid < e ∧ e < b then symMerge lt f mid e b d2 else d2) = d3
        obtain ⟨p3, s3⟩ := hright d3 hd3
        clear hright hd3
        have z3 : d3.size = d.size := by rw [p3.1, z2]
        -- nothing of the right half is less than anything of the left one
        have c0 : ∀ i j, a ≤ i → i < mid → mid ≤ j → j < b → R d1[j]! d1[i]! = false := by
          intro i j h3 h4 h5 h6
          by_cases ci : i < s
          · rw [L1 i ci]
            by_cases cj : j < e
            · rw [L2 j h5 cj]; exact hl _ _ (by omega) (by omega) (by omega)
            · rw [R2 j (by omega)]
              have hk := k5 (by omega) (by omega)
              have hb1 : R d[e]! d[i]! = false := by
                by_cases hi : i = s - 1
                · rw [hi]; exact hk
                · exact hR.ntrans _ _ _ hk (hl i (s - 1) (by omega) (by omega) (by omega))
              by_cases hj : j = e
              · rw [hj]; exact hb1
              · exact hR.ntrans _ _ _ (hr e j (by omega) (by omega) (by omega)) hb1
          · rw [R1 i (by omega) h4]
            by_cases cj : j < e
            · rw [L2 j h5 cj]
              have hk := hR.asymmA (k6 (by omega) (by omega))
              have hb1 : R d[s]! d[i + (m - s)]! = false := by
                by_cases hi : i + (m - s) = e - 1
                · rw [hi]; exact hk
                · exact hR.ntrans _ _ _ hk (hr _ (e - 1) (by omega) (by omega) (by omega))
              by_cases hj : j - (e - m) = s
              · rw [hj]; exact hb1
              · exact hR.ntrans _ _ _ (hl s _ (by omega) (by omega) (by omega)) hb1
            · rw [R2 j (by omega)]; exact hr _ _ (by omega) (by omega) (by omega)
        have c1 : ∀ i j, a ≤ i → i < mid → mid ≤ j → j < b → R d3[j]! d3[i]! = false := by
          intro i j h3 h4 h5 h6
          have e1 : ∀ i', a ≤ i' → i' < mid → R d3[j]! d2[i']! = false := by
            intro i' h7 h8
            refine permIn_all d2 d3 mid b (fun y => R y d2[i']! = false) (by omega) p3 (fun j' h9 h10 => ?_) j h5 h6
            rw [B2 j' h9]
            exact permIn_all d1 d2 a mid (fun x => R d1[j']! x = false) (by omega) p2 (fun i'' h11 h12 => c0 i'' j' h11 h12 h9 h10) i' h7 h8
          rw [p3.2.1 i (.inl h4)]
          exact e1 i h3 h4
        refine ⟨permIn_trans _ _ _ _ _ p1 (permIn_trans _ _ _ _ _ (permIn_mono _ _ _ _ _ _ (Nat.le_refl _) (by omega) (by omega) p2) (permIn_mono _ _ _ _ _ _ (by omega) (Nat.le_refl _) (by omega) p3)), fun p q h3 h4 h5 => ?_⟩
        by_cases cq : q < mid
        · rw [p3.2.1 p (.inl (by omega)), p3.2.1 q (.inl (by omega))]; exact s2 p q h3 h4 cq
        · by_cases cp : p < mid
          · exact c1 p q h3 cp (by omega) h5
          · exact s3 p q (by omega) h4 h5

end Go.Proofs.YtbijjjhfekkfaaaGreat

namespace Go.Proofs.YtbijjjhfekkfaaaGreat
open Go.Sort
variable {α : Type} [Inhabited α] {lt R : α → α → Bool}

theorem insInner_perm (lt : α → α → Bool) (a i : Nat) : ∀ (j : Nat) (d : Array α), a ≤ j → j ≤ i → i < d.size → PermIn a (i + 1) d (insInner lt a j d)
  | 0, d, _, _, _ => permIn_refl _ _ _
  | j + 1, d, h1, h2, h3 => by
    rw [insInner]
    split
    · rename_i hc
      simp only [Bool.and_eq_true, decide_eq_true_eq] at hc
      exact permIn_trans _ _ _ _ _ (swp_permIn d a (i + 1) (j + 1) j h1 (by omega) (by omega) (by omega) (by omega)) (insInner_perm lt a i j _ (by omega) (by omega) (by rw [size_swp]; exact h3))
    · exact permIn_refl _ _ _

theorem insInner_congr (a : Nat) : ∀ (j : Nat) (d : Array α), j < d.size → (∀ p, a ≤ p → p < j → lt d[j]! d[p]! = R d[j]! d[p]!) → insInner lt a j d = insInner R a j d
  | 0, d, _, _ => rfl
  | j + 1, d, hs, h => by
    rw [insInner, insInner]
    by_cases ha : j + 1 > a
    · rw [h j (by omega) (by omega)]
      have g := swp_get d hs (show j < d.size by omega)
      rw [insInner_congr a j (swp d (j + 1) j) (by rw [size_swp]; omega) fun p hp hpj => by
        rw [g, g, if_pos rfl, if_neg (by omega), if_neg (by omega)]
        exact h p hp (by omega)]
    · have : decide (j + 1 > a) = false := decide_eq_false ha
      rw [this]
      simp

theorem insOuter_congr (a b : Nat) : ∀ (r i : Nat) (d : Array α), b - i = r → a ≤ i → b ≤ d.size → (∀ j p, i ≤ j → j < b → a ≤ p → p < j → lt d[j]! d[p]! = R d[j]! d[p]!) → insOuter lt a b i d = insOuter R a b i d
  | 0, i, d, hr, _, _, _ => by
    conv => rhs; rw [insOuter, if_neg (by omega)]
    rw [insOuter, if_neg (by omega)]
  | r + 1, i, d, hr, hai, hb, h => by
    conv => rhs; rw [insOuter, if_pos (by omega)]
    rw [insOuter, if_pos (by omega), insInner_congr a i d (by omega) fun p hp hpi => h i p (Nat.le_refl _) (by omega) hp hpi]
    have hp := insInner_perm R a i i d hai (Nat.le_refl _) (by omega)
    refine insOuter_congr a b r (i + 1) _ (by omega) (by omega) (by rw [hp.1]; exact hb) fun j p hj hjb hap hpj => ?_
    rw [hp.2.1 j (.inr (by omega))]
    by_cases hpi : p < i + 1
    · exact permIn_all d _ a (i + 1) (fun x => lt d[j]! x = R d[j]! x) (by omega) hp (fun q hq hqi => h j q (by omega) hjb hq (by omega)) p hap hpi
    · rw [hp.2.1 p (.inr (by omega))]
      exact h j p (by omega) hjb hap hpj

theorem insertion_ok (hR : SWO R) (d : Array α) (a b : Nat) (hab : a ≤ b) (hb : b ≤ d.size) (h : ∀ j p, j < b → a ≤ p → p < j → lt d[j]! d[p]! = R d[j]! d[p]!) :
    PermIn a b d (insertionSort lt d a b) ∧ SortedIn R a b (insertionSort lt d a b) := by
  have e : insertionSort lt d a b = insertionSort R d a b := insOuter_congr a b _ (a + 1) d rfl (by omega) hb fun j p _ hjb hap hpj => h j p hjb hap hpj
  rw [e]
  exact insertionSort_holds hR d a b hab hb

/-- what a stage of blocks of B leaves, from a on -/
structure Stage (R : α → α → Bool) (B n a : Nat) (d d' : Array α) : Prop where
  perm : PermIn a n d d'
  sorted : ∀ t, a ≤ t * B → SortedIn R (t * B) (min (t * B + B) n) d'
  from_ : ∀ t, a ≤ t * B → ∀ p, t * B ≤ p → p < min (t * B + B) n → ∃ q, t * B ≤ q ∧ q < min (t * B + B) n ∧ d'[p]! = d[q]!

theorem from_perm {d d' : Array α} {a b : Nat} (hb : b ≤ d.size) (h : PermIn a b d d') (p : Nat) (h1 : a ≤ p) (h2 : p < b) : ∃ q, a ≤ q ∧ q < b ∧ d'[p]! = d[q]! :=
  permIn_all d d' a b (fun x => ∃ q, a ≤ q ∧ q < b ∧ x = d[q]!) hb h (fun q h3 h4 => ⟨q, h3, h4, rfl⟩) p h1 h2

/-- one block, then the others -/
theorem Stage.cons {B n s : Nat} {d d1 d2 : Array α} (hn : n ≤ d.size) (hB : 0 < B) (hs : s * B + B ≤ n) (p1 : PermIn (s * B) (s * B + B) d d1) (s1 : SortedIn R (s * B) (s * B + B) d1) (h : Stage R B n (s * B + B) d1 d2) : Stage R B n (s * B) d d2 := by
  have hmin : min (s * B + B) n = s * B + B := by omega
  refine ⟨permIn_trans _ _ _ _ _ (permIn_mono _ _ _ _ _ _ (Nat.le_refl _) hs hn p1) (permIn_mono _ _ _ _ _ _ (by omega) (Nat.le_refl _) (by rw [p1.1]; exact hn) h.perm), fun t ht => ?_, fun t ht p hp1 hp2 => ?_⟩
  · by_cases he : s * B + B ≤ t * B
    · exact h.sorted t he
    · have hts : t = s := by
        have h1 : s ≤ t := Nat.le_of_mul_le_mul_right ht hB
        have h2 : ¬ s + 1 ≤ t := fun h3 => he (by have := Nat.mul_le_mul_right B h3; rw [Nat.add_mul, Nat.one_mul] at this; exact this)
        omega
      subst hts
      rw [hmin]
      intro i j h1 h2 h3
      rw [h.perm.2.1 i (.inl (by omega)), h.perm.2.1 j (.inl (by omega))]
      exact s1 i j h1 h2 h3
  · by_cases he : s * B + B ≤ t * B
    · obtain ⟨q, q1, q2, q3⟩ := h.from_ t he p hp1 hp2
      exact ⟨q, q1, q2, by rw [q3, p1.2.1 q (.inr (by omega))]⟩
    · have hts : t = s := by
        have h1 : s ≤ t := Nat.le_of_mul_le_mul_right ht hB
        have h2 : ¬ s + 1 ≤ t := fun h3 => he (by have := Nat.mul_le_mul_right B h3; rw [Nat.add_mul, Nat.one_mul] at this; exact this)
        omega
      subst hts
      rw [hmin] at hp2 ⊢
      rw [h.perm.2.1 p (.inl (by omega))]
      exact from_perm (by omega) p1 p hp1 hp2

/-- the last block -/
theorem Stage.last {B n s : Nat} {d d1 : Array α} (hn : n ≤ d.size) (hB : 0 < B) (hs : n < s * B + B) (hs0 : s * B ≤ n) (p1 : PermIn (s * B) n d d1) (s1 : SortedIn R (s * B) n d1) : Stage R B n (s * B) d d1 := by
  have key : ∀ t, s * B ≤ t * B → t = s ∨ n ≤ t * B := fun t ht => by
    have h1 : s ≤ t := Nat.le_of_mul_le_mul_right ht hB
    rcases Nat.lt_or_ge s t with h2 | h2
    · right
      have := Nat.mul_le_mul_right B h2
      rw [Nat.succ_mul] at this
      omega
    · left; omega
  have hmin : min (s * B + B) n = n := by omega
  refine ⟨p1, fun t ht => ?_, fun t ht p hp1 hp2 => ?_⟩
  · rcases key t ht with rfl | h
    · rw [hmin]; exact s1
    · intro i j h1 h2 h3; omega
  · rcases key t ht with rfl | h
    · rw [hmin] at hp2 ⊢; exact from_perm hn p1 p hp1 hp2
    · omega

theorem insBlocks_ok (hR : SWO R) (n : Nat) : ∀ (r s : Nat) (d : Array α), n - s * 20 ≤ r → s * 20 ≤ n → n ≤ d.size → (∀ j p, j < n → s * 20 ≤ p → p < j → lt d[j]! d[p]! = R d[j]! d[p]!) → Stage R 20 n (s * 20) d (insBlocks lt n (s * 20) d) := by
  intro r
  induction r with
  | zero =>
    intro s d hr hs hn h
    rw [insBlocks, if_neg (by omega)]
    obtain ⟨p1, s1⟩ := insertion_ok hR d (s * 20) n hs hn h
    exact Stage.last hn (by decide) (by omega) hs p1 s1
  | succ r ih =>
    intro s d hr hs hn h
    rw [insBlocks]
    by_cases hlt : s * 20 + 20 ≤ n
    · rw [if_pos hlt]
      obtain ⟨p1, s1⟩ := insertion_ok (lt := lt) hR d (s * 20) (s * 20 + 20) (by omega) (by omega) fun j p hj hp hpj => h j p (by omega) hp hpj
      have h2 := ih (s + 1) (insertionSort lt d (s * 20) (s * 20 + 20)) (by omega) (by omega) (by rw [p1.1]; exact hn) fun j p hj hp hpj => by
        rw [p1.2.1 j (.inr (by omega)), p1.2.1 p (.inr (by omega))]
        exact h j p hj (by omega) hpj
      rw [show (s + 1) * 20 = s * 20 + 20 from by omega] at h2
      exact h2.cons hn (by decide) hlt p1 s1
    · rw [if_neg hlt]
      obtain ⟨p1, s1⟩ := insertion_ok hR d (s * 20) n hs hn h
      exact Stage.last hn (by decide) (by omega) hs p1 s1

theorem pass_ok (hR : SWO R) (blk n : Nat) (hb : 0 < blk) : ∀ (f s : Nat) (d : Array α), n + 1 ≤ f + s * (2 * blk) → s * (2 * blk) ≤ n → n ≤ d.size → (∀ t, s * (2 * blk) ≤ t * blk → SortedIn R (t * blk) (min (t * blk + blk) n) d) →
    (∀ i j, s * (2 * blk) ≤ i → i < j → j < n → i / blk < j / blk → lt d[j]! d[i]! = R d[j]! d[i]!) → Stage R (2 * blk) n (s * (2 * blk)) d (pass lt blk n f (s * (2 * blk)) d)
  | 0, s, d, hf, hs, hn, hS, hC => by omega
  | f + 1, s, d, hf, hs, hn, hS, hC => by
    have e1 : s * (2 * blk) = (2 * s) * blk := by rw [← Nat.mul_assoc, Nat.mul_comm s 2]
    have e2 : s * (2 * blk) + blk = (2 * s + 1) * blk := by rw [e1, Nat.add_mul, Nat.one_mul]
    have hcross : ∀ b, b ≤ n → Cross lt R (s * (2 * blk)) (s * (2 * blk) + blk) b d := fun b hbn i j h1 h2 h3 h4 => by
      refine hC i j h1 (by omega) (by omega) ?_
      have h5 : i / blk < 2 * s + 1 := (Nat.div_lt_iff_lt_mul hb).2 (by rw [← e2]; exact h2)
      have h6 : 2 * s + 1 ≤ j / blk := (Nat.le_div_iff_mul_le hb).2 (by rw [← e2]; exact h3)
      omega
    have s0 := hS (2 * s) (Nat.le_of_eq e1)
    have s1 := hS (2 * s + 1) (by rw [← e2]; omega)
    rw [← e1] at s0
    rw [← e2] at s1
    rw [pass]
    by_cases hlt : s * (2 * blk) + 2 * blk ≤ n
    · rw [if_pos hlt]
      rw [Nat.min_eq_left (by omega)] at s0
      rw [show min (s * (2 * blk) + blk + blk) n = s * (2 * blk) + 2 * blk from by omega] at s1
      obtain ⟨p1, q1⟩ := symMerge_ok (lt := lt) hR (2 * blk) (s * (2 * blk)) (s * (2 * blk) + blk) (s * (2 * blk) + 2 * blk) d (by omega) (by omega) (by omega) (by omega) s0 s1 (hcross _ hlt)
      have e3 : (s + 1) * (2 * blk) = s * (2 * blk) + 2 * blk := by rw [Nat.add_mul, Nat.one_mul]
      have h2 := pass_ok hR blk n hb f (s + 1) (symMerge lt (2 * blk) (s * (2 * blk)) (s * (2 * blk) + blk) (s * (2 * blk) + 2 * blk) d) (by omega) (by omega) (by rw [p1.1]; exact hn)
        (fun t ht i j h3 h4 h5 => by rw [p1.2.1 i (.inr (by omega)), p1.2.1 j (.inr (by omega))]; exact hS t (by omega) i j h3 h4 h5)
        (fun i j h3 h4 h5 h6 => by rw [p1.2.1 i (.inr (by omega)), p1.2.1 j (.inr (by omega))]; exact hC i j (by omega) h4 h5 h6)
      rw [e3] at h2
      exact h2.cons hn (by omega) hlt p1 q1
    · rw [if_neg hlt]
      by_cases hl2 : s * (2 * blk) + blk < n
      · rw [if_pos hl2]
        rw [Nat.min_eq_left (by omega)] at s0
        rw [show min (s * (2 * blk) + blk + blk) n = n from by omega] at s1
        obtain ⟨p1, q1⟩ := symMerge_ok (lt := lt) hR (n - s * (2 * blk)) (s * (2 * blk)) (s * (2 * blk) + blk) n d (by omega) (by omega) hl2 hn s0 s1 (hcross _ (Nat.le_refl _))
        exact Stage.last hn (by omega) (by omega) hs p1 q1
      · rw [if_neg hl2]
        rw [Nat.min_eq_right (by omega)] at s0
        exact Stage.last hn (by omega) (by omega) hs (permIn_refl _ _ _) s0

theorem passes_ok (hR : SWO R) (n : Nat) : ∀ (f blk : Nat) (d : Array α), 0 < blk → n ≤ f + blk → n ≤ d.size → (∀ t, SortedIn R (t * blk) (min (t * blk + blk) n) d) → (∀ i j, i < j → j < n → i / blk < j / blk → lt d[j]! d[i]! = R d[j]! d[i]!) →
    PermIn 0 n d (passes lt n f blk d) ∧ SortedIn R 0 n (passes lt n f blk d) := by
  intro f
  induction f with
  | zero =>
    intro blk d hb hf hn hS hC
    rw [passes]
    have := hS 0
    rw [Nat.zero_mul, Nat.zero_add, Nat.min_eq_right (by omega)] at this
    exact ⟨permIn_refl _ _ _, this⟩
  | succ f ih =>
    intro blk d hb hf hn hS hC
    rw [passes]
    by_cases hlt : blk < n
    · rw [if_pos hlt]
      have h1 := pass_ok (lt := lt) hR blk n hb (n + 1) 0 d (by omega) (by omega) hn (fun t _ => hS t) (fun i j _ => hC i j)
      rw [Nat.zero_mul] at h1
      have hin : ∀ i, i < n → ∃ q, d[q]! = (pass lt blk n (n + 1) 0 d)[i]! ∧ q < n ∧ q / (2 * blk) = i / (2 * blk) := fun i hi => by
        have h2 := Nat.div_mul_le_self i (2 * blk)
        have h3 := Nat.lt_div_mul_add (a := i) (b := 2 * blk) (by omega)
        obtain ⟨q, q1, q2, q3⟩ := h1.from_ (i / (2 * blk)) (Nat.zero_le _) i h2 (by omega)
        refine ⟨q, q3.symm, by omega, ?_⟩
        have h4 : i / (2 * blk) ≤ q / (2 * blk) := (Nat.le_div_iff_mul_le (by omega)).2 q1
        have h5 : q / (2 * blk) < i / (2 * blk) + 1 := (Nat.div_lt_iff_lt_mul (by omega)).2 (by rw [Nat.add_mul, Nat.one_mul]; omega)
        omega
      obtain ⟨p2, s2⟩ := ih (2 * blk) (pass lt blk n (n + 1) 0 d) (by omega) (by omega) (by rw [h1.perm.1]; exact hn) (fun t => h1.sorted t (Nat.zero_le _)) fun i j hij hj hlt2 => by
        obtain ⟨qi, e1, l1, m1⟩ := hin i (by omega)
        obtain ⟨qj, e2, l2, m2⟩ := hin j hj
        rw [← e1, ← e2]
        have h6 : qi / (2 * blk) < qj / (2 * blk) := by omega
        have h7 : qi / blk < qj / blk := by
          rcases Nat.lt_or_ge (qi / blk) (qj / blk) with h | h
          · exact h
          · have := Nat.div_le_div_right (c := 2) h
            rw [Nat.div_div_eq_div_mul, Nat.div_div_eq_div_mul, Nat.mul_comm blk 2] at this
            omega
        have h8 : qi < qj := by
          rcases Nat.lt_or_ge qi qj with h | h
          · exact h
          · have := Nat.div_le_div_right (c := blk) h
            omega
        exact hC qi qj h8 l2 h7
      exact ⟨permIn_trans _ _ _ _ _ h1.perm p2, s2⟩
    · rw [if_neg hlt]
      have := hS 0
      rw [Nat.zero_mul, Nat.zero_add, Nat.min_eq_right (by omega)] at this
      exact ⟨permIn_refl _ _ _, this⟩

/-- THE LAW: sorted by R, and a permutation. -/
theorem stable_ok (hR : SWO R) (d : Array α) (h : ∀ i j, i < j → j < d.size → lt d[j]! d[i]! = R d[j]! d[i]!) : PermIn 0 d.size d (stable lt d.size d) ∧ SortedIn R 0 d.size (stable lt d.size d) := by
  have h1 := insBlocks_ok (lt := lt) hR d.size d.size 0 d (by omega) (by omega) (Nat.le_refl _) fun j p hj _ hpj => h p j hpj hj
  rw [Nat.zero_mul] at h1
  have hin : ∀ i, i < d.size → ∃ q, d[q]! = (insBlocks lt d.size 0 d)[i]! ∧ q < d.size ∧ q / 20 = i / 20 := fun i hi => by
    obtain ⟨q, q1, q2, q3⟩ := h1.from_ (i / 20) (Nat.zero_le _) i (by omega) (by omega)
    exact ⟨q, q3.symm, by omega, by omega⟩
  obtain ⟨p2, s2⟩ := passes_ok (lt := lt) hR d.size d.size 20 (insBlocks lt d.size 0 d) (by decide) (by omega) (by rw [h1.perm.1]; exact Nat.le_refl _) (fun t => h1.sorted t (Nat.zero_le _)) fun i j hij hj hlt => by
    obtain ⟨qi, e1, l1, m1⟩ := hin i (by omega)
    obtain ⟨qj, e2, l2, m2⟩ := hin j hj
    rw [← e1, ← e2]
    exact h qi qj (by omega) l2
  exact ⟨permIn_trans _ _ _ _ _ h1.perm p2, s2⟩
end Go.Proofs.YtbijjjhfekkfaaaGreat
