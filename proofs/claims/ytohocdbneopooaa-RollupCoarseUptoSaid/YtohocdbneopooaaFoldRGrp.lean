/- Grouping by windows as the reference does it: plain laws. No program. -/
import Derived.Test.YtohocdbneopooaaFoldGrp
namespace Go.Proofs.Ytohocdbneopooaa
set_option maxRecDepth 100000
open Go.RowKit

section
variable {α : Type} (at_ : α → Int) (bad : α → Int) (d : Int)

theorem scan_same (cl : List (Int × List α)) (a : Int) : ∀ (B cur : List α), cur ≠ [] → (∀ x ∈ B, at_ x / d * d = a) → B.foldl (grpStep at_ d) (cl, cur, a) = (cl, cur ++ B, a)
  | [], cur, _, _ => by simp
  | x :: B, cur, hc, hB => by
    have hx := hB x (by simp)
    rw [List.foldl_cons]
    have : grpStep at_ d (cl, cur, a) x = (cl, cur ++ [x], a) := by
      unfold grpStep
      simp only [hc, hx, if_false, if_true]
    rw [this, scan_same cl a B (cur ++ [x]) (by simp) (fun y hy => hB y (by simp [hy]))]
    simp

/-- a group more, behind a boundary -/
theorem grp_block {A B : List α} {a : Int} (hB : B ≠ []) (ha : ∀ x ∈ B, at_ x / d * d = a) (hbd : (grpScan at_ d A).2.1 = [] ∨ (grpScan at_ d A).2.2 ≠ a) :
    grpScan at_ d (A ++ B) = (groupsOf at_ d A, B, a) := by
  cases B with
  | nil => exact absurd rfl hB
  | cons x B =>
    have hx := ha x (by simp)
    have h1 : grpScan at_ d (A ++ x :: B) = B.foldl (grpStep at_ d) (grpStep at_ d (grpScan at_ d A) x) := by
      simp [grpScan]
    rw [h1]
    have h2 : grpStep at_ d (grpScan at_ d A) x = (groupsOf at_ d A, [x], a) := by
      unfold grpStep groupsOf
      simp only [hx]
      by_cases hc : (grpScan at_ d A).2.1 = []
      · simp [hc]
      · rcases hbd with h | h
        · exact absurd h hc
        · simp only [hc, if_false, if_neg (Ne.symm h)]
    rw [h2, scan_same _ _ _ a B [x] (by simp) (fun y hy => ha y (by simp [hy]))]
    rfl

theorem groups_block {A B : List α} {a : Int} (hB : B ≠ []) (ha : ∀ x ∈ B, at_ x / d * d = a) (hbd : (grpScan at_ d A).2.1 = [] ∨ (grpScan at_ d A).2.2 ≠ a) :
    groupsOf at_ d (A ++ B) = groupsOf at_ d A ++ [(a, B)] ∧ (grpScan at_ d (A ++ B)).2.2 = a := by
  have := grp_block at_ d hB ha hbd
  unfold groupsOf at this ⊢
  rw [this]
  simp [hB]

/-- no error up to k: the times are in range and rise -/
theorem valid_at {l : List α} {k : Nat} {x : α} (h : stepErr at_ bad d l k = 0) (hx : l[k]? = some x) (hd : ¬(d < 1 ∨ 1099511627776 < d)) :
    0 ≤ at_ x ∧ at_ x ≤ 1125899906842624 ∧ ordB at_ l k (at_ x) = false ∧ beginOf (at_ x) d = (at_ x / d * d, 0) := by
  by_cases ht : at_ x < 0 ∨ 1125899906842624 < at_ x
  · have hb := beginOf_time (at_ x) d hd ht
    rw [stepErr_eq at_ bad d hx hb, if_pos (by decide)] at h
    cases h
  · have hb := beginOf_ok (at_ x) d hd ht
    rw [stepErr_eq at_ bad d hx hb, if_neg (by decide)] at h
    refine ⟨by omega, by omega, ?_, hb⟩
    cases ho : ordB at_ l k (at_ x)
    · rfl
    · rw [ho, if_pos rfl] at h; cases h

theorem times_rise {l : List α} (hd : ¬(d < 1 ∨ 1099511627776 < d)) (h : ∀ j, j < l.length → stepErr at_ bad d l j = 0) {i : Nat} {x : α} (hx : l[i]? = some x) : ∀ (k : Nat) (y : α), i ≤ k → l[k]? = some y → at_ x ≤ at_ y := by
  intro k
  induction k with
  | zero =>
    intro y hik hy
    have : i = 0 := by omega
    subst this
    rw [hx] at hy; injection hy with hy; subst hy; exact Int.le_refl _
  | succ k ih =>
    intro y hik hy
    rcases Nat.lt_or_ge i (k + 1) with h1 | h1
    · have hk : k + 1 < l.length := (List.getElem?_eq_some_iff.1 hy).1
      have hz : l[k]? = some l[k] := List.getElem?_eq_getElem (by omega)
      have h2 := ih l[k] (by omega) hz
      obtain ⟨_, _, h3, _⟩ := valid_at at_ bad d (h _ hk) hy hd
      rw [ordB_succ at_ hz, decide_eq_false_iff_not] at h3
      omega
    · have : i = k + 1 := by omega
      subst this
      rw [hx] at hy; injection hy with hy; subst hy; exact Int.le_refl _

/-- In the window of its beginning lies a later time if and only if it is less than a width behind. -/
theorem same_window {d t u : Int} (hd : 1 ≤ d) (hu : t ≤ u) : u < t / d * d + d ↔ u / d * d = t / d * d := by
  have h1 := Int.mul_ediv_add_emod u d
  have h2 := Int.emod_lt_of_pos u (show 0 < d by omega)
  have h3 := Int.emod_nonneg u (show d ≠ 0 by omega)
  have h4 := Int.mul_ediv_add_emod t d
  have h5 := Int.emod_lt_of_pos t (show 0 < d by omega)
  have h6 := Int.emod_nonneg t (show d ≠ 0 by omega)
  have h7 : t / d ≤ u / d := Int.ediv_le_ediv (by omega) hu
  constructor
  · intro h
    have : u / d < t / d + 1 := by
      rw [Int.ediv_lt_iff_lt_mul (by omega), Int.add_mul]
      omega
    have : u / d = t / d := by omega
    rw [this]
  · intro h
    rw [Int.mul_comm] at h1
    omega
end
end Go.Proofs.Ytohocdbneopooaa
