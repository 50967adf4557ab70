/- The sorted list's keys, plainly. No condition. -/
import Derived.Test.YtohocdbneopooaaPlanSwk
namespace Go.Proofs.Ytohocdbneopooaa
set_option maxRecDepth 100000
open Go.Shelf Go.RowKit Go.Lib Go.Sort

abbrev Key := Int × Int × Int
def Inf.key (x : Inf) : Key := (x.frm, x.til, x.id)
def ltK (a b : Key) : Bool := decide (a.1 < b.1 ∨ (a.1 = b.1 ∧ (a.2.1 < b.2.1 ∨ (a.2.1 = b.2.1 ∧ a.2.2 < b.2.2))))
theorem swoK : SWO ltK where
  irrefl x := by unfold ltK; simp
  trans x y z h1 h2 := by unfold ltK at *; simp only [decide_eq_true_eq] at *; omega
  ntrans x y z h1 h2 := by unfold ltK at *; simp only [decide_eq_false_iff_not] at *; omega
theorem antiK (x y : Key) (h1 : ltK x y = false) (h2 : ltK y x = false) : x = y := by
  unfold ltK at *
  simp only [decide_eq_false_iff_not] at *
  obtain ⟨a, b, c⟩ := x
  obtain ⟨a', b', c'⟩ := y
  simp only at h1 h2
  obtain rfl : a = a' := by omega
  obtain rfl : b = b' := by omega
  obtain rfl : c = c' := by omega
  rfl

theorem cmpI_cases (x y : Int) : (x < y ∧ cmpI x y = -1) ∨ (x = y ∧ cmpI x y = 0) ∨ (y < x ∧ cmpI x y = 1) := by
  unfold cmpI
  rcases Int.lt_trichotomy x y with h | h | h
  · left; exact ⟨h, if_pos h⟩
  · right; left; subst h; simp
  · right; right; exact ⟨h, by rw [if_neg (by omega), if_pos h]⟩
theorem infCmp_lt (x y : Inf) : decide (infCmp x y < 0) = ltK x.key y.key := by
  unfold ltK infCmp or3 Inf.key
  simp only
  rcases cmpI_cases x.frm y.frm with ⟨h1, e1⟩ | ⟨h1, e1⟩ | ⟨h1, e1⟩ <;> rcases cmpI_cases x.til y.til with ⟨h2, e2⟩ | ⟨h2, e2⟩ | ⟨h2, e2⟩ <;> rcases cmpI_cases x.id y.id with ⟨h3, e3⟩ | ⟨h3, e3⟩ | ⟨h3, e3⟩ <;> rw [e1, e2, e3] <;> simp <;> omega
theorem ltOf_tcf (u v : TInf) : ltOf tcf u v = ltK u.1.key v.1.key := infCmp_lt u.1 v.1
theorem swoT : SWO (ltOf tcf) where
  irrefl x := by rw [ltOf_tcf]; exact swoK.irrefl _
  trans x y z h1 h2 := by rw [ltOf_tcf] at *; exact swoK.trans _ _ _ h1 h2
  ntrans x y z h1 h2 := by rw [ltOf_tcf] at *; exact swoK.ntrans _ _ _ h1 h2

/-- the keys of the sorted list: the one sorted list of the keys -/
theorem keys_sorted (l : List Inf) : (sortedI l).map Inf.key = (l.map Inf.key).mergeSort (fun x y => !ltK y x) ∧ (sortedI l).length = l.length ∧ (sortedI l).Perm l := by
  obtain ⟨hp, hs⟩ := stable_ok (lt := ltOf tcf) (R := ltOf tcf) swoT (tag l) (fun _ _ _ _ => rfl)
  rw [tag_size] at hp hs
  have hsz : (stable (ltOf tcf) l.length (tag l)).size = l.length := by rw [hp.1, tag_size]
  have hperm : (stable (ltOf tcf) l.length (tag l)).toList.Perm (tag l).toList := by
    have := hp.2.2
    have full : ∀ d : Array TInf, d.size = l.length → d.extract 0 l.length = d := fun d hd => by rw [← hd]; simp
    rwa [full _ hsz, full _ (tag_size l)] at this
  have htl : (tag l).toList.map Prod.fst = l := by unfold tag; simp
  have hP : (sortedI l).Perm l := by
    have := hperm.map Prod.fst
    rwa [htl] at this
  have hlen : (sortedI l).length = l.length := hP.length_eq
  refine ⟨?_, hlen, hP⟩
  have h1 := sorted_unique_holds (lt := ltK) swoK antiK (l.map Inf.key).toArray ((sortedI l).map Inf.key).toArray ?_ ?_
  · simpa using h1
  · refine ⟨by simp [hlen], fun i hi => ?_, ?_⟩
    · have hi' : l.length ≤ i := by simpa using hi
      rw [getElem!_neg _ i (by simp [hlen]; omega), getElem!_neg _ i (by simp; omega)]
    · have h2 := hP.map Inf.key
      have e1 : (((sortedI l).map Inf.key).toArray.extract 0 (l.map Inf.key).toArray.size).toList = (sortedI l).map Inf.key := by
        simp only [List.size_toArray, List.length_map]
        rw [← hlen]
        simp [List.take_of_length_le]
      have e2 : ((l.map Inf.key).toArray.extract 0 (l.map Inf.key).toArray.size).toList = l.map Inf.key := by simp [List.take_of_length_le]
      rw [e1, e2]
      exact h2
  · intro i j _ hij hj
    have hj' : j < l.length := by simpa using hj
    have hq : ∀ q, q < l.length → ((sortedI l).map Inf.key).toArray[q]! = ((stable (ltOf tcf) l.length (tag l))[q]!).1.key := fun q hq => by
      rw [getElem!_pos _ q (by simp [hlen]; exact hq), getElem!_pos _ q (by rw [hsz]; exact hq)]
      simp [sortedI]
    rw [hq i (by omega), hq j hj', ← ltOf_tcf]
    exact hs i j (Nat.zero_le _) hij hj'
end Go.Proofs.Ytohocdbneopooaa
