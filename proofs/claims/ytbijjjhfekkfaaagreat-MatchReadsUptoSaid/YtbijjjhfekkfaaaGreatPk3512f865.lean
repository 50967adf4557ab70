/- Sets of labels, plainly: what is a name, a value, which error a list has, its sorted list. No program is walked here. labels.fitName, fitValue and the reference's: what is a name, a value. Condition: the text is within the reach. Labels as they lie. No condition. slices.IndexFunc and slices.ContainsFunc at labels, whatever predicate: what they return. Condition: the predicate has a contract, the row is within the reach. -/
import Derived.Test.YtbijjjhfekkfaaaGreatPk812191ca
import Derived.Test.YtbijjjhfekkfaaaGreatBase
import Derived.Test.YtbijjjhfekkfaaaGreatPkc787b734
namespace Go.Proofs.YtbijjjhfekkfaaaGreat
set_option maxRecDepth 100000
open Go.RowKit

def digitB (b : UInt8) : Bool := decide (48 ≤ b.toNat) && decide (b.toNat ≤ 57)
def letterB (b : UInt8) : Bool := (decide (97 ≤ b.toNat) && decide (b.toNat ≤ 122)) || (decide (65 ≤ b.toNat) && decide (b.toNat ≤ 90)) || decide (b.toNat = 95)
/-- may b stand at place i of a name? -/
def nameB (i : Nat) (b : UInt8) : Bool := letterB b || (digitB b && decide (i ≠ 0))
def namesUpto (s : List UInt8) (k : Nat) : Prop := ∀ i b, i < k → s[i]? = some b → nameB i b = true
def nameAll (s : List UInt8) : Bool := (List.range s.length).all fun i => match s[i]? with
  | some b => nameB i b
  | none => true
def fitN (s : ByteArray) : Bool := nameAll s.data.toList && (decide (1 ≤ s.size) && decide (s.size ≤ 32))
theorem nameAll_iff (s : List UInt8) : nameAll s = true ↔ namesUpto s s.length := by
  unfold nameAll namesUpto
  rw [List.all_eq_true]
  constructor
  · intro h i b hi hb
    have := h i (List.mem_range.2 hi)
    rw [hb] at this
    exact this
  · intro h i hi
    cases hb : s[i]? with
    | none => rfl
    | some b => exact h i b (List.mem_range.1 hi) hb
theorem size_list (s : ByteArray) : s.data.toList.length = s.size := rfl
def fitV (s : ByteArray) : Bool := decide (1 ≤ s.size ∧ s.size ≤ 64)
theorem namesUpto_zero (s : List UInt8) : namesUpto s 0 := fun _ _ h => absurd h (Nat.not_lt_zero _)
theorem namesUpto_succ {s : List UInt8} {k : Nat} {b : UInt8} (h : namesUpto s k) (hb : s[k]? = some b) (hn : nameB k b = true) : namesUpto s (k + 1) := fun i c hi hc => by
  by_cases e : i = k
  · subst e; have := hc.symm.trans hb; cases this; exact hn
  · exact h i c (by omega) hc
theorem fitN_no {s : ByteArray} {k : Nat} {b : UInt8} (hk : k < s.size) (hb : s.data.toList[k]? = some b) (hn : nameB k b = false) : fitN s = false := by
  have h : nameAll s.data.toList = false := by
    cases h : nameAll s.data.toList with
    | false => rfl
    | true =>
      have := (nameAll_iff _).1 h k b (by rw [size_list]; exact hk) hb
      rw [hn] at this; cases this
  rw [fitN, h, Bool.false_and]
theorem fitN_end {s : ByteArray} (h : namesUpto s.data.toList s.size) : fitN s = (decide (1 ≤ s.size) && decide (s.size ≤ 32)) := by
  rw [fitN, (nameAll_iff _).2 (by rw [size_list]; exact h), Bool.true_and]

/-- the error that the label at place i has -/
def errAt (l : List Lbl) (i : Nat) : Nat :=
  match l[i]? with
  | none => 0
  | some x => if fitN x.name = false then 40 else if fitV x.value = false then 41 else if (∃ y ∈ l.take i, y.name = x.name) then 42 else 0
def errUpto (l : List Lbl) : Nat → Nat
  | 0 => 0
  | k + 1 => if errUpto l k = 0 then errAt l k else errUpto l k
def makeErr (l : List Lbl) : Nat := if l.length = 0 then 43 else if 8 < l.length then 44 else errUpto l l.length
theorem errUpto_stop {l : List Lbl} {k : Nat} (h : errUpto l k = 0) (he : errAt l k ≠ 0) : ∀ m, k + 1 ≤ m → errUpto l m = errAt l k
  | 0, hm => absurd hm (by omega)
  | m + 1, hm => by
    by_cases e : m = k
    · subst e; rw [errUpto, if_pos h]
    · have := errUpto_stop h he m (by omega)
      rw [errUpto, if_neg (by rw [this]; exact he), this]
theorem errUpto_next {l : List Lbl} {k : Nat} (h : errUpto l k = 0) (he : errAt l k = 0) : errUpto l (k + 1) = 0 := by rw [errUpto, if_pos h, he]
theorem errUpto_le {l : List Lbl} : ∀ {m k : Nat}, errUpto l m = 0 → k ≤ m → errUpto l k = 0
  | 0, k, h, hk => by have : k = 0 := by omega
                      subst this; exact h
  | m + 1, k, h, hk => by
    rw [errUpto] at h
    split at h
    · rename_i h2
      by_cases e : k = m + 1
      · subst e; rw [errUpto, if_pos h2, h]
      · exact errUpto_le h2 (by omega)
    · rename_i h2; exact absurd h h2
theorem errAt_zero {l : List Lbl} {m k : Nat} (h : errUpto l m = 0) (hk : k < m) : errAt l k = 0 := by
  have h1 := errUpto_le h (show k + 1 ≤ m by omega)
  have h2 := errUpto_le h (show k ≤ m by omega)
  rwa [errUpto, if_pos h2] at h1
theorem errAt_of {l : List Lbl} {k : Nat} {x : Lbl} (hx : l[k]? = some x) : errAt l k = if fitN x.name = false then 40 else if fitV x.value = false then 41 else if (∃ y ∈ l.take k, y.name = x.name) then 42 else 0 := by rw [errAt, hx]
theorem errAt_ok {l : List Lbl} {k : Nat} {x : Lbl} (hx : l[k]? = some x) (h : errAt l k = 0) : fitN x.name = true ∧ fitV x.value = true ∧ ∀ y ∈ l.take k, y.name ≠ x.name := by
  rw [errAt_of hx] at h
  split at h
  · cases h
  · split at h
    · cases h
    · split at h
      · cases h
      · rename_i h1 h2 h3
        exact ⟨by simpa using h1, by simpa using h2, fun y hy e => h3 ⟨y, hy, e⟩⟩
theorem makeErr_ok {l : List Lbl} (h : makeErr l = 0) : 0 < l.length ∧ l.length ≤ 8 ∧ errUpto l l.length = 0 := by
  unfold makeErr at h
  split at h
  · cases h
  · split at h
    · cases h
    · exact ⟨by omega, by omega, h⟩
/-- no name twice -/
theorem make_apart {l : List Lbl} (h : errUpto l l.length = 0) : l.Pairwise fun x y => x.name ≠ y.name := by
  rw [List.pairwise_iff_getElem]
  intro i j hi hj hij e
  have hx : l[j]? = some l[j] := List.getElem?_eq_getElem hj
  refine (errAt_ok hx (errAt_zero h hj)).2.2 l[i] ?_ e
  refine List.mem_iff_getElem?.2 ⟨i, ?_⟩
  rw [List.getElem?_take_of_lt hij]
  exact List.getElem?_eq_getElem hi
theorem make_fits {l : List Lbl} (h : errUpto l l.length = 0) : ∀ x ∈ l, fitN x.name = true ∧ fitV x.value = true := fun x hx => by
  obtain ⟨i, hi⟩ := List.mem_iff_getElem?.1 hx
  have hl := (List.getElem?_eq_some_iff.1 hi).1
  have := errAt_ok hi (errAt_zero h hl)
  exact ⟨this.1, this.2.1⟩

/-! in the order of the names -/
def ltN (x y : Lbl) : Prop := cmpB x.name y.name < 0
def upN (l : List Lbl) : Prop := l.Pairwise ltN
theorem ltN_irr (x : Lbl) : ¬ ltN x x := fun h => by
  have h0 := (tri_B.zero x.name x.name).2 rfl
  unfold ltN at h; omega
theorem ltN_trans {x y z : Lbl} (h : ltN x y) (k : ltN y z) : ltN x z := by
  unfold ltN at *
  have a := tri_B.range x.name y.name
  have b := tri_B.range y.name z.name
  have := tri_B.trans x.name y.name z.name (by omega) (by omega)
  omega
theorem up_unique : ∀ {a b : List Lbl}, upN a → upN b → a.Perm b → a = b
  | [], b, _, _, h => (List.Perm.nil_eq h)
  | x :: a, [], _, _, h => absurd h.length_eq (by simp)
  | x :: a, y :: b, ha, hb, h => by
    obtain ⟨a1, a2⟩ := List.pairwise_cons.1 ha
    obtain ⟨b1, b2⟩ := List.pairwise_cons.1 hb
    have hxy : x = y := by
      rcases List.mem_cons.1 (h.mem_iff.1 (List.mem_cons_self ..)) with e | hx
      · exact e
      · rcases List.mem_cons.1 (h.mem_iff.2 (List.mem_cons_self ..)) with e | hy
        · exact e.symm
        · have h1 := b1 x hx
          have h2 := a1 y hy
          have h3 := tri_B.turn x.name y.name
          unfold ltN at h1 h2
          omega
    subst hxy
    rw [up_unique a2 b2 (List.Perm.cons_inv h)]
theorem leN_trans (a b c : Lbl) (h1 : cmpB a.name b.name ≤ 0) (h2 : cmpB b.name c.name ≤ 0) : cmpB a.name c.name ≤ 0 := by
  rcases tri_B.range a.name b.name with h | h | h
  · rcases tri_B.range b.name c.name with k | k | k
    · have := tri_B.trans _ _ _ h k; omega
    · rw [← (tri_B.zero _ _).1 k]; omega
    · omega
  · rw [(tri_B.zero _ _).1 h]; exact h2
  · omega
/-- the list in the order of its names -/
def sortN (l : List Lbl) : List Lbl := l.mergeSort fun x y => decide (cmpB x.name y.name ≤ 0)
theorem sortN_perm (l : List Lbl) : (sortN l).Perm l := List.mergeSort_perm l _
theorem sortN_up {l : List Lbl} (h : l.Pairwise fun x y => x.name ≠ y.name) : upN (sortN l) := by
  have h1 : (sortN l).Pairwise fun x y => decide (cmpB x.name y.name ≤ 0) = true := List.pairwise_mergeSort (fun a b c h1 h2 => by
    simp only [decide_eq_true_eq] at *
    exact leN_trans a b c h1 h2) (fun a b => by
    have := tri_B.turn a.name b.name
    simp; omega) l
  have h2 : (sortN l).Pairwise fun x y => x.name ≠ y.name := (sortN_perm l).symm.pairwise h fun h e => h e.symm
  refine (h1.and h2).imp ?_
  rintro x y ⟨a, b⟩
  simp only [decide_eq_true_eq] at a
  unfold ltN
  rcases tri_B.range x.name y.name with h | h | h
  · omega
  · exact absurd ((tri_B.zero _ _).1 h) b
  · omega
theorem sortN_uniq {l E : List Lbl} (h : l.Pairwise fun x y => x.name ≠ y.name) (hE : upN E) (hp : E.Perm l) : E = sortN l :=
  up_unique hE (sortN_up h) (hp.trans (sortN_perm l).symm)
/-- what Make answers -/
def makeL (l : List Lbl) : List Lbl := if makeErr l = 0 then sortN l else []
def validP (l : List Lbl) : Prop := makeErr l = 0 ∧ upN l
theorem makeL_len {l : List Lbl} : (makeL l).length ≤ 8 := by
  unfold makeL
  split
  · rename_i h
    rw [(sortN_perm l).length_eq]
    exact (makeErr_ok h).2.1
  · exact Nat.zero_le _
theorem up_apart {l : List Lbl} (h : upN l) : l.Pairwise fun x y => x.name ≠ y.name := h.imp fun {x y} h e => by
  have := (tri_B.zero x.name y.name).2 e
  unfold ltN at h; omega
/-- a list that is fit in every place has no error -/
theorem errUpto_fit {l : List Lbl} (hf : ∀ x ∈ l, fitN x.name = true ∧ fitV x.value = true) (ha : l.Pairwise fun x y => x.name ≠ y.name) : ∀ k, errUpto l k = 0
  | 0 => rfl
  | k + 1 => by
    refine errUpto_next (errUpto_fit hf ha k) ?_
    cases hx : l[k]? with
    | none => rw [errAt, hx]
    | some x =>
      obtain ⟨h1, h2⟩ := hf x (List.mem_of_getElem? hx)
      rw [errAt_of hx, h1, h2, if_neg (by simp), if_neg (by simp), if_neg]
      rintro ⟨y, hy, e⟩
      obtain ⟨i, hi⟩ := List.mem_iff_getElem?.1 hy
      have hil := (List.getElem?_eq_some_iff.1 hi).1
      have hik : i < k := by rw [List.length_take] at hil; omega
      rw [List.getElem?_take_of_lt hik] at hi
      obtain ⟨hi1, hi2⟩ := List.getElem?_eq_some_iff.1 hi
      obtain ⟨hx1, hx2⟩ := List.getElem?_eq_some_iff.1 hx
      exact List.pairwise_iff_getElem.1 ha i k hi1 hx1 hik (by rw [hi2, hx2]; exact e)
/-- the sorted list of a fit list is fit -/
theorem sortN_valid {l : List Lbl} (h : makeErr l = 0) : validP (sortN l) := by
  obtain ⟨h1, h2, h3⟩ := makeErr_ok h
  have hp := sortN_perm l
  have ha := make_apart h3
  refine ⟨?_, sortN_up ha⟩
  unfold makeErr
  rw [hp.length_eq, if_neg (by omega), if_neg (by omega)]
  exact errUpto_fit (fun x hx => make_fits h3 x (hp.mem_iff.1 hx)) (up_apart (sortN_up ha)) _
end Go.Proofs.YtbijjjhfekkfaaaGreat

namespace Go.Proofs.YtbijjjhfekkfaaaGreat
set_option maxRecDepth 100000
open Go.RowKit

theorem or32 : ∀ n : Fin 256, (decide (bits .or .u8 ((n.val : Nat) : Int) 32 < 97) || decide (122 < bits .or .u8 ((n.val : Nat) : Int) 32)) = !((decide (97 ≤ n.val) && decide (n.val ≤ 122)) || (decide (65 ≤ n.val) && decide (n.val ≤ 90))) := by decide +kernel
theorem str_at {s : ByteArray} {i : Nat} (h : i < s.size) : ∃ b : UInt8, s[i]'h = b ∧ s.data.toList[i]? = some b := ⟨_, rfl, by
  have h2 : i < s.data.toList.length := h
  rw [List.getElem?_eq_getElem h2]; rfl⟩
theorem size_lt (b : UInt8) : b.toNat < 256 := b.toNat_lt
/-- what the places of b say, as the walk asks it -/
theorem b_or (b : UInt8) : (decide (bits .or .u8 (b.toNat : Int) 32 < 97) || decide (122 < bits .or .u8 (b.toNat : Int) 32)) = !((decide (97 ≤ b.toNat) && decide (b.toNat ≤ 122)) || (decide (65 ≤ b.toNat) && decide (b.toNat ≤ 90))) := or32 ⟨b.toNat, b.toNat_lt⟩

set_option maxHeartbeats 1600000 in
theorem fitName_any (s : ByteArray) (w : World) (hs : s.size < 9223372036854775000) :
    Calls Tryz.prog 185 #[.string s] w fun e w' => e = .returned (.bool (fitN s)) ∧ w = w' := by
  go_enter Tryz.func185, Tryz.ntmps185
  go_wp2_with fail
  go_loopw [7] (fun vi wr => ∃ k : Nat, k ≤ s.size ∧ vi = .int .i64 k ∧ Hid (namesUpto s.data.toList k) ∧ wr = w) (fun vi _ => s.size - (intOf vi).toNat)
  case atStart => exact ⟨0, Nat.zero_le _, rfl, namesUpto_zero _, rfl⟩
  case round =>
    obtain ⟨k, hk, rfl, hno, rfl⟩ := hrel
    have k0 : (0 : Int) ≤ (k : Int) := by omega
    by_cases hlt : k < s.size
    · have k1 : (k : Int) < (s.size : Int) := by omega
      obtain ⟨b, hb, hbl⟩ := str_at hlt
      have HB := hidden hbl
      have hor := b_or b
      have h256 := size_lt b
      clear hbl
      by_cases hd : 48 ≤ b.toNat ∧ b.toNat ≤ 57
      · have d0 : (48 : Int) ≤ (b.toNat : Int) := by omega
        have d1 : (b.toNat : Int) ≤ 57 := by omega
        by_cases hk0 : k = 0
        · subst hk0
          have nb : ((b.toNat : Int) != 95) = true := by simp; omega
          have hlet : (!((decide (97 ≤ b.toNat) && decide (b.toNat ≤ 122)) || (decide (65 ≤ b.toNat) && decide (b.toNat ≤ 90)))) = true := by simp; omega
          rw [hlet] at hor
          have hF := hidden (fitN_no hlt HB.out (show nameB 0 b = false by simp [nameB, letterB]; omega))
          clear hd hlet
          go_wp2_with fail
          all_goals go_ret
          all_goals exact ⟨ret_bool hF.out.symm, rfl⟩
        · have kp : (0 : Int) < (k : Int) := by omega
          have hN := hidden (namesUpto_succ hno.out HB.out (show nameB k b = true by simp [nameB, digitB, hd, hk0]))
          clear hor hd
          go_wp2_with fail
          all_goals go_roundw
          case rel => exact ⟨k + 1, by omega, by go_num, hN, trivial⟩
          case measure => simp [intOf]; omega
      · by_cases h95 : b.toNat = 95
        · have nb : ((b.toNat : Int) != 95) = false := by simp; omega
          have hN := hidden (namesUpto_succ hno.out HB.out (show nameB k b = true by simp [nameB, letterB, h95]))
          have d0 : (48 : Int) ≤ (b.toNat : Int) := by omega
          have d1 : ¬ (b.toNat : Int) ≤ 57 := by omega
          clear hor hd
          go_wp2_with fail
          all_goals go_roundw
          case rel => exact ⟨k + 1, by omega, by go_num, hN, trivial⟩
          case measure => simp [intOf]; omega
        · have nb : ((b.toNat : Int) != 95) = true := by simp; omega
          have hdd : (48 : Int) ≤ (b.toNat : Int) ∧ (decide ((b.toNat : Int) ≤ 57) = false) ∨ ¬ (48 : Int) ≤ (b.toNat : Int) := by
            by_cases h48 : 48 ≤ b.toNat
            · exact .inl ⟨by omega, by simp; omega⟩
            · exact .inr (by omega)
          cases hl : ((decide (97 ≤ b.toNat) && decide (b.toNat ≤ 122)) || (decide (65 ≤ b.toNat) && decide (b.toNat ≤ 90))) with
          | true =>
            rw [hl, Bool.not_true, Bool.or_eq_false_iff] at hor
            obtain ⟨o1, o2⟩ := hor
            have hN := hidden (namesUpto_succ hno.out HB.out (show nameB k b = true by simp [nameB, letterB, hl]))
            have HD := hidden hdd
            clear hd h95 hl hdd
            rcases HD.out with ⟨d0, d1⟩ | d0
            all_goals
              go_wp2_with fail
              go_roundw
              case rel => exact ⟨k + 1, by omega, by go_num, hN, trivial⟩
              case measure => simp [intOf]; omega
          | false =>
            rw [hl, Bool.not_false] at hor
            have hdg : digitB b = false := by simp [digitB]; omega
            have hF := hidden (fitN_no hlt HB.out (show nameB k b = false by simp [nameB, letterB, hl, h95, hdg]))
            have HD := hidden hdd
            clear hd h95 hl hdd hdg
            rcases HD.out with ⟨d0, d1⟩ | d0
            all_goals
              go_wp2_with fail
              all_goals go_ret
              all_goals exact ⟨ret_bool hF.out.symm, rfl⟩
    · obtain rfl : k = s.size := by omega
      have hF := hidden (fitN_end hno.out)
      have k1 : ¬ (s.size : Int) < (s.size : Int) := by omega
      by_cases he : s.size = 0
      · have hse : s = ⟨#[]⟩ := by
          have : s.data.size = 0 := he
          exact congrArg ByteArray.mk (Array.eq_empty_of_size_eq_zero this)
        subst hse
        go_wp2_with fail
        go_ret
        rw [hF.out]
        exact ⟨rfl, rfl⟩
      · have hne : s.toList.isEmpty = false := by
          rw [Lib.toList_data, List.isEmpty_eq_false_iff]
          intro e
          exact he (congrArg List.length e)
        have hd : decide ((s.size : Int) ≤ 32) = decide (s.size ≤ 32) := decide_eq_decide.2 (by omega)
        have hone : decide (1 ≤ s.size) = true := decide_eq_true (by omega)
        rw [hone, Bool.true_and] at hF
        clear hone
        go_wp2_with fail
        go_ret
        rw [hF.out]
        exact ⟨rfl, rfl⟩
/-- labels.fitValue -/
theorem fitValue_any (s : ByteArray) (w : World) (hs : s.size < 9223372036854775000) :
    Calls Tryz.prog 186 #[.string s] w fun e w' => e = .returned (.bool (fitV s)) ∧ w = w' := by
  by_cases he : s.size = 0
  · have hse : s = ⟨#[]⟩ := by
      have : s.data.size = 0 := he
      exact congrArg ByteArray.mk (Array.eq_empty_of_size_eq_zero this)
    subst hse
    go_enter Tryz.func186, Tryz.ntmps186
    go_wp2_with fail
    go_ret
    exact ⟨rfl, rfl⟩
  · have hne : s.toList.isEmpty = false := by
      rw [Lib.toList_data, List.isEmpty_eq_false_iff]
      intro e
      exact he (congrArg List.length e)
    have hF : fitV s = decide (s.size ≤ 64) := by
      unfold fitV
      exact decide_eq_decide.2 ⟨fun h => h.2, fun h => ⟨by omega, h⟩⟩
    rw [hF]
    clear hF
    go_enter Tryz.func186, Tryz.ntmps186
    go_wp2_with fail
    go_ret
    exact ⟨ret_bool (decide_eq_decide.2 (by omega)), rfl⟩
theorem rfitValue_any (s : ByteArray) (w : World) (hs : s.size < 9223372036854775000) :
    Calls Tryz.prog 260 #[.string s] w fun e w' => e = .returned (.bool (fitV s)) ∧ w = w' := by
  by_cases he : s.size = 0
  · have hF : fitV s = false := decide_eq_false fun h => by omega
    have h1 : ¬ (1 : Int) ≤ (s.size : Int) := by omega
    rw [hF]
    go_enter Tryz.func260, Tryz.ntmps260
    go_wp2_with fail
    go_ret
    exact ⟨rfl, rfl⟩
  · have h1 : (1 : Int) ≤ (s.size : Int) := by omega
    have hF : fitV s = decide (s.size ≤ 64) := by
      unfold fitV
      exact decide_eq_decide.2 ⟨fun h => h.2, fun h => ⟨by omega, h⟩⟩
    rw [hF]
    clear hF
    go_enter Tryz.func260, Tryz.ntmps260
    go_wp2_with fail
    go_ret
    exact ⟨ret_bool (decide_eq_decide.2 (by omega)), rfl⟩

set_option maxHeartbeats 3200000 in
theorem rfitName_any (s : ByteArray) (w : World) (hs : s.size < 9223372036854775000) :
    Calls Tryz.prog 125 #[.string s] w fun e w' => e = .returned (.bool (fitN s)) ∧ w = w' := by
  go_enter Tryz.func125, Tryz.ntmps125
  go_wp2_with fail
  go_loopw [3] (fun vi wr => ∃ k : Nat, k ≤ s.size ∧ vi = .int .i64 k ∧ Hid (namesUpto s.data.toList k) ∧ wr = w) (fun vi _ => s.size - (intOf vi).toNat)
  case atStart => exact ⟨0, Nat.zero_le _, rfl, namesUpto_zero _, rfl⟩
  case round =>
    obtain ⟨k, hk, rfl, hno, rfl⟩ := hrel
    have k0 : (0 : Int) ≤ (k : Int) := by omega
    by_cases hlt : k < s.size
    · have k1 : (k : Int) < (s.size : Int) := by omega
      obtain ⟨b, hb, hbl⟩ := str_at hlt
      have HB := hidden hbl
      have h256 := size_lt b
      clear hbl
      have hcl : b.toNat < 48 ∨ (48 ≤ b.toNat ∧ b.toNat ≤ 57) ∨ (58 ≤ b.toNat ∧ b.toNat ≤ 64) ∨ (65 ≤ b.toNat ∧ b.toNat ≤ 90) ∨ (91 ≤ b.toNat ∧ b.toNat ≤ 94) ∨ b.toNat = 95 ∨ b.toNat = 96 ∨ (97 ≤ b.toNat ∧ b.toNat ≤ 122) ∨ 123 ≤ b.toNat := by omega
      rcases hcl with hc | hc | hc | hc | hc | hc | hc | hc | hc
      · have t97 : decide ((97 : Int) ≤ (b.toNat : Int)) = false := by simp; omega
        have t122 : (b.toNat : Int) ≤ 122 := by omega
        have t65 : decide ((65 : Int) ≤ (b.toNat : Int)) = false := by simp; omega
        have t90 : (b.toNat : Int) ≤ 90 := by omega
        have t48 : decide ((48 : Int) ≤ (b.toNat : Int)) = false := by simp; omega
        have t57 : (b.toNat : Int) ≤ 57 := by omega
        have t95 : ((b.toNat : Int) == 95) = false := by simp; omega
        have hF := hidden (fitN_no hlt HB.out (show nameB k b = false by simp [nameB, letterB, digitB]; omega))
        clear hc
        go_wp2_with fail
        go_ret
        exact ⟨ret_bool hF.out.symm, rfl⟩
      · have t97 : decide ((97 : Int) ≤ (b.toNat : Int)) = false := by simp; omega
        have t122 : (b.toNat : Int) ≤ 122 := by omega
        have t65 : decide ((65 : Int) ≤ (b.toNat : Int)) = false := by simp; omega
        have t90 : (b.toNat : Int) ≤ 90 := by omega
        have t48 : (48 : Int) ≤ (b.toNat : Int) := by omega
        have t57 : (b.toNat : Int) ≤ 57 := by omega
        have t95 : ((b.toNat : Int) == 95) = false := by simp; omega
        by_cases hk0 : k = 0
        · subst hk0
          have hF := hidden (fitN_no hlt HB.out (show nameB 0 b = false by simp [nameB, letterB, digitB]; omega))
          clear hc
          go_wp2_with fail
          go_ret
          exact ⟨ret_bool hF.out.symm, rfl⟩
        · have hkz : ((k : Int) == 0) = false := by simp; omega
          have hN := hidden (namesUpto_succ hno.out HB.out (show nameB k b = true by simp [nameB, letterB, digitB]; omega))
          clear hc
          go_wp2_with fail
          go_roundw
          case rel => exact ⟨k + 1, by omega, by go_num, hN, trivial⟩
          case measure => simp [intOf]; omega
      · have t97 : decide ((97 : Int) ≤ (b.toNat : Int)) = false := by simp; omega
        have t122 : (b.toNat : Int) ≤ 122 := by omega
        have t65 : decide ((65 : Int) ≤ (b.toNat : Int)) = false := by simp; omega
        have t90 : (b.toNat : Int) ≤ 90 := by omega
        have t48 : (48 : Int) ≤ (b.toNat : Int) := by omega
        have t57 : decide ((b.toNat : Int) ≤ 57) = false := by simp; omega
        have t95 : ((b.toNat : Int) == 95) = false := by simp; omega
        have hF := hidden (fitN_no hlt HB.out (show nameB k b = false by simp [nameB, letterB, digitB]; omega))
        clear hc
        go_wp2_with fail
        go_ret
        exact ⟨ret_bool hF.out.symm, rfl⟩
      · have t97 : decide ((97 : Int) ≤ (b.toNat : Int)) = false := by simp; omega
        have t122 : (b.toNat : Int) ≤ 122 := by omega
        have t65 : (65 : Int) ≤ (b.toNat : Int) := by omega
        have t90 : (b.toNat : Int) ≤ 90 := by omega
        have t48 : (48 : Int) ≤ (b.toNat : Int) := by omega
        have t57 : decide ((b.toNat : Int) ≤ 57) = false := by simp; omega
        have t95 : ((b.toNat : Int) == 95) = false := by simp; omega
        have hN := hidden (namesUpto_succ hno.out HB.out (show nameB k b = true by simp [nameB, letterB, digitB]; omega))
        clear hc
        go_wp2_with fail
        go_roundw
        case rel => exact ⟨k + 1, by omega, by go_num, hN, trivial⟩
        case measure => simp [intOf]; omega
      · have t97 : decide ((97 : Int) ≤ (b.toNat : Int)) = false := by simp; omega
        have t122 : (b.toNat : Int) ≤ 122 := by omega
        have t65 : (65 : Int) ≤ (b.toNat : Int) := by omega
        have t90 : decide ((b.toNat : Int) ≤ 90) = false := by simp; omega
        have t48 : (48 : Int) ≤ (b.toNat : Int) := by omega
        have t57 : decide ((b.toNat : Int) ≤ 57) = false := by simp; omega
        have t95 : ((b.toNat : Int) == 95) = false := by simp; omega
        have hF := hidden (fitN_no hlt HB.out (show nameB k b = false by simp [nameB, letterB, digitB]; omega))
        clear hc
        go_wp2_with fail
        go_ret
        exact ⟨ret_bool hF.out.symm, rfl⟩
      · have t97 : decide ((97 : Int) ≤ (b.toNat : Int)) = false := by simp; omega
        have t122 : (b.toNat : Int) ≤ 122 := by omega
        have t65 : (65 : Int) ≤ (b.toNat : Int) := by omega
        have t90 : decide ((b.toNat : Int) ≤ 90) = false := by simp; omega
        have t48 : (48 : Int) ≤ (b.toNat : Int) := by omega
        have t57 : decide ((b.toNat : Int) ≤ 57) = false := by simp; omega
        have t95 : ((b.toNat : Int) == 95) = true := by simp; omega
        have hN := hidden (namesUpto_succ hno.out HB.out (show nameB k b = true by simp [nameB, letterB, digitB]; omega))
        clear hc
        go_wp2_with fail
        go_roundw
        case rel => exact ⟨k + 1, by omega, by go_num, hN, trivial⟩
        case measure => simp [intOf]; omega
      · have t97 : decide ((97 : Int) ≤ (b.toNat : Int)) = false := by simp; omega
        have t122 : (b.toNat : Int) ≤ 122 := by omega
        have t65 : (65 : Int) ≤ (b.toNat : Int) := by omega
        have t90 : decide ((b.toNat : Int) ≤ 90) = false := by simp; omega
        have t48 : (48 : Int) ≤ (b.toNat : Int) := by omega
        have t57 : decide ((b.toNat : Int) ≤ 57) = false := by simp; omega
        have t95 : ((b.toNat : Int) == 95) = false := by simp; omega
        have hF := hidden (fitN_no hlt HB.out (show nameB k b = false by simp [nameB, letterB, digitB]; omega))
        clear hc
        go_wp2_with fail
        go_ret
        exact ⟨ret_bool hF.out.symm, rfl⟩
      · have t97 : (97 : Int) ≤ (b.toNat : Int) := by omega
        have t122 : (b.toNat : Int) ≤ 122 := by omega
        have t65 : (65 : Int) ≤ (b.toNat : Int) := by omega
        have t90 : decide ((b.toNat : Int) ≤ 90) = false := by simp; omega
        have t48 : (48 : Int) ≤ (b.toNat : Int) := by omega
        have t57 : decide ((b.toNat : Int) ≤ 57) = false := by simp; omega
        have t95 : ((b.toNat : Int) == 95) = false := by simp; omega
        have hN := hidden (namesUpto_succ hno.out HB.out (show nameB k b = true by simp [nameB, letterB, digitB]; omega))
        clear hc
        go_wp2_with fail
        go_roundw
        case rel => exact ⟨k + 1, by omega, by go_num, hN, trivial⟩
        case measure => simp [intOf]; omega
      · have t97 : (97 : Int) ≤ (b.toNat : Int) := by omega
        have t122 : decide ((b.toNat : Int) ≤ 122) = false := by simp; omega
        have t65 : (65 : Int) ≤ (b.toNat : Int) := by omega
        have t90 : decide ((b.toNat : Int) ≤ 90) = false := by simp; omega
        have t48 : (48 : Int) ≤ (b.toNat : Int) := by omega
        have t57 : decide ((b.toNat : Int) ≤ 57) = false := by simp; omega
        have t95 : ((b.toNat : Int) == 95) = false := by simp; omega
        have hF := hidden (fitN_no hlt HB.out (show nameB k b = false by simp [nameB, letterB, digitB]; omega))
        clear hc
        go_wp2_with fail
        go_ret
        exact ⟨ret_bool hF.out.symm, rfl⟩
    · obtain rfl : k = s.size := by omega
      have hF := hidden (fitN_end hno.out)
      have k1 : ¬ (s.size : Int) < (s.size : Int) := by omega
      by_cases he : s.size = 0
      · have h1 : ¬ (1 : Int) ≤ (s.size : Int) := by omega
        have hF2 : Hid (fitN s = false) := by rw [Hid, hF.out, decide_eq_false (by omega), Bool.false_and]
        go_wp2_with fail
        go_ret
        rw [hF2.out]
        exact ⟨rfl, rfl⟩
      · have h1 : (1 : Int) ≤ (s.size : Int) := by omega
        have hF2 : Hid (fitN s = decide (s.size ≤ 32)) := by rw [Hid, hF.out, decide_eq_true (show 1 ≤ s.size by omega), Bool.true_and]
        go_wp2_with fail
        go_ret
        rw [hF2.out]
        exact ⟨ret_bool (decide_eq_decide.2 (by omega)), rfl⟩
end Go.Proofs.YtbijjjhfekkfaaaGreat

namespace Go.Proofs.YtbijjjhfekkfaaaGreat
set_option maxRecDepth 100000
open Go.RowKit

/-- labels as they lie -/
structure LbF (w : World) (A : Option Addr) (n : Nat) (l : List Lbl) : Prop where
  row : Row w w.heap.size 2 A n (l.flatMap Lbl.cells)
  len : l.length = n
  fit : n * 32 ≤ 140737488351232
  sz : ∀ x ∈ l, x.name.size ≤ 140737488355328 ∧ x.value.size ≤ 140737488355328
theorem LbF.on {w w' : World} {A : Option Addr} {n : Nat} {l : List Lbl} (h : LbF w A n l) (hb : Below w.heap.size w w') : LbF w' A n l := ⟨(h.row.below hb).more hb.size, h.len, h.fit, h.sz⟩
theorem lb_cells {w : World} {A : Option Addr} {n : Nat} {l : List Lbl} (h : LbF w A n l) {k : Nat} (hk : k < n) : ∃ g o x, A = some ⟨g, o, none⟩ ∧ g < w.heap.size ∧ l[k]? = some x ∧ w.cell? ⟨g, o + k * 2, none⟩ = some (.string x.name) ∧ w.cell? ⟨g, o + k * 2 + 1, none⟩ = some (.string x.value) ∧ x ∈ l := by
  obtain ⟨g, o, x, hA, hg, hx, hc⟩ := row_at (enc := Lbl.cells) (k := 2) (fun _ => rfl) h.row h.len k hk
  exact ⟨g, o, x, hA, hg, hx, hc 0 (by omega), hc 1 (by omega), List.mem_of_getElem? hx⟩
theorem take_lb : ∀ (l : List Lbl) (k : Nat), (l.flatMap Lbl.cells).take (k * 2) = (l.take k).flatMap Lbl.cells
  | [], k => by simp
  | x :: l, 0 => by simp
  | x :: l, k + 1 => by
    rw [show (k + 1) * 2 = k * 2 + 2 by omega, List.flatMap_cons, List.take_succ_cons, List.flatMap_cons, ← take_lb l k]
    rfl
theorem LbF.first {w : World} {A : Option Addr} {n : Nat} {l : List Lbl} (h : LbF w A n l) {k : Nat} (hk : k ≤ n) : Row w w.heap.size 2 A k ((l.take k).flatMap Lbl.cells) := by
  have hl := h.row.len
  rw [← take_lb]
  refine ⟨by rw [List.length_take]; omega, fun hn => ?_⟩
  obtain ⟨g, o, e, hb, hc⟩ := h.row.at_ (by omega)
  exact ⟨g, o, e, hb, fun j hj => by rw [hc j (by omega), List.getElem?_take_of_lt (by omega)]⟩
theorem str_eq (a b : ByteArray) : (a.toList == b.toList) = decide (a = b) := by
  rw [Lib.toList_data, Lib.toList_data]
  by_cases h : a = b
  · subst h; simp
  · rw [decide_eq_false h]
    exact beq_eq_false_iff_ne.2 fun e => h (bytes_eq e)
end Go.Proofs.YtbijjjhfekkfaaaGreat

namespace Go.Proofs.YtbijjjhfekkfaaaGreat.IdxLbl
set_option maxRecDepth 100000
open Go.RowKit

theorem hk (x : Lbl) : x.cells.length = 2 := rfl

/-- what is asked of a predicate -/
def PredOk (f : FuncId) (cb : Array Value) (p : Lbl → Bool) (l : List Lbl) (ok : World → Prop) : Prop :=
  ∀ x ∈ l, ∀ W, ok W → Calls Tryz.prog f (#[.agg #[.string x.name, .string x.value]] ++ cb) W fun e w2 => e = .returned (.bool (p x)) ∧ Below W.heap.size W w2
/-- where the first one is -/
def IdxRes (p : Lbl → Bool) (l : List Lbl) (r : Int) : Prop := (r = -1 ∧ ∀ x ∈ l, p x = false) ∨ ∃ (i : Nat) (x : Lbl), r = i ∧ l[i]? = some x ∧ p x = true ∧ ∀ y ∈ l.take i, p y = false

set_option maxHeartbeats 1600000 in
theorem index_any (A : Option Addr) (n c : Nat) (l : List Lbl) (f : FuncId) (cb : Array Value) (p : Lbl → Bool) (w : World) (eg : ∀ args w, (callFunc f args).run Tryz.prog w = .ok (.enter f args) w) (hp : PredOk f cb p l (fun W => Below w.heap.size w W)) (hr : Row w w.heap.size 2 A n (l.flatMap Lbl.cells)) (hl : l.length = n) (hn : n ≤ 4611686018427387904) :
    Calls Tryz.prog 242 #[.slice A n c, .func (.func f) #[] cb] w
      fun e w' => ∃ r : Int, e = .returned (.int .i64 r) ∧ IdxRes p l r ∧ Below w.heap.size w w' := by
  have hL := hidden hl
  have HR := hidden hr
  have HP := hidden hp
  clear hl hr hp
  go_enter Tryz.func242, Tryz.ntmps242
  go_wp2
  go_loopw [8] (fun i wr => ∃ k : Nat, k ≤ n ∧ i = .int .i64 k ∧ Hid (∀ y ∈ l.take k, p y = false) ∧ Below w.heap.size w wr) (fun i _ => n - (intOf i).toNat)
  case atStart => exact ⟨0, Nat.zero_le _, rfl, hidden (by simp), Below.refl _ _⟩
  case round =>
    obtain ⟨k, hk1, rfl, hall, hb⟩ := hrel
    by_cases hlt : k < n
    · obtain ⟨gs, o, x, rfl, hgs, hx, hcl⟩ := row_at hk (HR.out.below hb) hL.out k hlt
      have d0 : wr.cell? ⟨gs, o + k * 2, none⟩ = some (.string x.name) := hcl 0 (by omega)
      have d1 : wr.cell? ⟨gs, o + k * 2 + 1, none⟩ = some (.string x.value) := hcl 1 (by omega)
      have hcon := HP.out x (List.mem_of_getElem? hx) wr hb
      have hT := hidden (take_snoc? hx)
      have HX := hidden hx
      have HCON := hidden hcon
      have hltz : (k : Int) < (n : Int) := by omega
      have hk0 : (0 : Int) ≤ (k : Int) := by omega
      clear hx hcl hcon
      go_wp2_with fail
      refine HCON.out.mono ?_
      rintro e w1 ⟨rfl, hb1⟩
      have hB1 := hb.trans (hb1.mono hb.size)
      clear HCON hb1 d0 d1
      obtain ⟨b, hv⟩ : ∃ b, p x = b := ⟨_, rfl⟩
      rw [hv]
      have HV := hidden hv
      clear hv
      cases b with
      | false =>
        go_wp2_with fail
        go_roundw
        case rel => exact ⟨k + 1, by omega, by go_num, hidden (by
          intro y hy
          rw [hT.out] at hy
          rcases List.mem_append.1 hy with h | h
          · exact hall.out y h
          · rw [List.mem_singleton.1 h]; exact HV.out), hB1⟩
        case measure => simp [intOf]; omega
      | true =>
        go_wp2_with fail
        go_ret
        exact ⟨_, rfl, .inr ⟨k, x, rfl, HX.out, HV.out, hall.out⟩, hB1⟩
    · obtain rfl : n = k := by omega
      have hall2 := hall.out
      rw [List.take_of_length_le (by rw [hL.out]; exact Nat.le_refl _)] at hall2
      have HA := hidden hall2
      clear hall2
      go_wp2
      go_ret
      exact ⟨-1, rfl, .inl ⟨rfl, HA.out⟩, hb⟩


set_option maxHeartbeats 1600000 in
theorem contains_any (A : Option Addr) (n c : Nat) (l : List Lbl) (f : FuncId) (cb : Array Value) (p : Lbl → Bool) (w : World) (eg : ∀ args w, (callFunc f args).run Tryz.prog w = .ok (.enter f args) w) (hp : PredOk f cb p l (fun W => Below w.heap.size w W)) (hr : Row w w.heap.size 2 A n (l.flatMap Lbl.cells)) (hl : l.length = n) (hn : n ≤ 4611686018427387904) :
    Calls Tryz.prog 187 #[.slice A n c, .func (.func f) #[] cb] w
      fun e w' => e = .returned (.bool (l.any p)) ∧ Below w.heap.size w w' := by
  have S1 := hidden (index_any A n c l f cb p w eg hp hr hl hn)
  clear hp hr
  go_enter Tryz.func187, Tryz.ntmps187
  go_wp2_with fail
  refine S1.out.mono ?_
  rintro e w1 ⟨r, rfl, hres, hb⟩
  have HB := hidden hb
  have hd : l.any p = decide (0 ≤ r) := by
    rcases hres with ⟨rfl, h⟩ | ⟨i, x, rfl, hx, hpx, _⟩
    · rw [show decide ((0 : Int) ≤ -1) = false from rfl, List.any_eq_false]
      intro x hx
      rw [h x hx]; simp
    · rw [decide_eq_true (by omega), List.any_eq_true]
      exact ⟨x, List.mem_of_getElem? hx, hpx⟩
  have HD := hidden hd
  clear hb hres hd S1
  go_wp2_with fail
  go_ret
  exact ⟨ret_bool HD.out.symm, HB.out⟩
end Go.Proofs.YtbijjjhfekkfaaaGreat.IdxLbl
