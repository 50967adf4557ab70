/- Groups by windows, plainly: they are the list, none is empty, each lies in its window, windows lie apart. No program. -/
import Derived.Test.YtfcpphfiickpoaaFoldRGrp
namespace Go.Proofs.Ytfcpphfiickpoaa
open Go.RowKit

section
variable {α : Type} (at_ : α → Int) (d : Int)

/-- the times don't fall -/
def Rising (l : List α) : Prop := ∀ (i j : Nat) (x y : α), i ≤ j → l[i]? = some x → l[j]? = some y → at_ x ≤ at_ y

/-- the groups that a scan has, the open one too -/
def allGrps (s : List (Int × List α) × List α × Int) : List (Int × List α) := if s.2.1 = [] then s.1 else s.1 ++ [(s.2.2, s.2.1)]

theorem allGrps_scan (l : List α) : allGrps (grpScan at_ d l) = groupsOf at_ d l := rfl

/-- what is true of groups -/
structure GoodGrps (G : List (Int × List α)) : Prop where
  full : ∀ g ∈ G, g.2 ≠ [] ∧ ∀ x ∈ g.2, at_ x / d * d = g.1
  apart : ∀ (i : Nat) (g h : Int × List α), G[i]? = some g → G[i + 1]? = some h → g.1 + d ≤ h.1

theorem good_groups (hd : 1 ≤ d) {l : List α} (hr : Rising at_ l) : GoodGrps at_ d (groupsOf at_ d l) := by
  suffices H : ∀ m : List α, Rising at_ m.reverse → GoodGrps at_ d (allGrps (grpScan at_ d m.reverse)) ∧ ((grpScan at_ d m.reverse).2.1 = [] → (grpScan at_ d m.reverse).1 = []) by
    have := H l.reverse
    rw [List.reverse_reverse] at this
    exact (this hr).1
  intro m
  induction m with
  | nil => intro _; exact ⟨⟨fun g hg => by simp [grpScan, allGrps] at hg, fun i g h hg => by simp [grpScan, allGrps] at hg⟩, fun _ => rfl⟩
  | cons x m ih =>
    intro hr
    rw [List.reverse_cons] at hr ⊢
    have hr0 : Rising at_ m.reverse := fun i j a b hij ha hb => hr i j a b hij (by rw [List.getElem?_append_left (List.getElem?_eq_some_iff.1 ha).1]; exact ha) (by rw [List.getElem?_append_left (List.getElem?_eq_some_iff.1 hb).1]; exact hb)
    obtain ⟨h1, h2⟩ := ih hr0
    have hfl := (grpScan_flat at_ d m.reverse).1
    rw [grpScan_snoc]
    have hlast : ∀ y ∈ m.reverse, at_ y ≤ at_ x := by
      intro y hy
      obtain ⟨i, hi, hy⟩ := List.mem_iff_getElem.1 hy
      exact hr i m.reverse.length y x (by omega) (by rw [List.getElem?_append_left hi, List.getElem?_eq_getElem hi, hy]) (by simp)
    generalize grpScan at_ d m.reverse = s at *
    obtain ⟨cl, cur, bg⟩ := s
    simp only at h2 hfl
    unfold grpStep
    simp only
    by_cases hc : cur = []
    · have := h2 hc
      subst hc this
      simp only [if_true, allGrps]
      simp only [List.cons_ne_self, if_false, List.nil_append]
      refine ⟨⟨fun g hg => ?_, fun i g h hg hh => by simp at hh⟩, fun h => by simp at h⟩
      simp only [List.mem_singleton] at hg
      subst hg
      exact ⟨by simp, fun y hy => by simp only [List.mem_singleton] at hy; rw [hy]⟩
    · simp only [hc, if_false]
      have hA : allGrps (cl, cur, bg) = cl ++ [(bg, cur)] := by simp [allGrps, hc]
      rw [hA] at h1
      obtain ⟨f1, f2⟩ := h1.full (bg, cur) (by simp)
      split
      · rename_i hb
        refine ⟨?_, fun h => by simp at h⟩
        have hA2 : allGrps (cl, cur ++ [x], bg) = cl ++ [(bg, cur ++ [x])] := by simp [allGrps]
        rw [hA2]
        refine ⟨fun g hg => ?_, fun i g h hg hh => ?_⟩
        · rcases List.mem_append.1 hg with hg | hg
          · exact h1.full g (List.mem_append_left _ hg)
          · simp only [List.mem_singleton] at hg
            subst hg
            refine ⟨by simp, fun y hy => ?_⟩
            rcases List.mem_append.1 hy with hy | hy
            · exact f2 y hy
            · simp only [List.mem_singleton] at hy
              rw [hy]; exact hb
        · have hil : i < cl.length := by
            have := (List.getElem?_eq_some_iff.1 hh).1
            simp at this
            omega
          rw [List.getElem?_append_left hil] at hg
          have hg' : (cl ++ [(bg, cur)])[i]? = some g := by rw [List.getElem?_append_left hil]; exact hg
          rcases Nat.lt_or_ge (i + 1) cl.length with h3 | h3
          · rw [List.getElem?_append_left h3] at hh
            exact h1.apart i g h hg' (by rw [List.getElem?_append_left h3]; exact hh)
          · have h4 : i + 1 = cl.length := by omega
            rw [h4] at hh
            simp at hh
            have := h1.apart i g (bg, cur) hg' (by rw [h4]; simp)
            rw [← hh]; exact this
      · rename_i hb
        refine ⟨?_, fun h => by simp at h⟩
        have hA2 : allGrps (cl ++ [(bg, cur)], [x], at_ x / d * d) = cl ++ [(bg, cur)] ++ [(at_ x / d * d, [x])] := by simp [allGrps]
        rw [hA2]
        obtain ⟨y, hy⟩ := List.exists_mem_of_ne_nil cur hc
        have hyx := hlast y (by rw [← hfl]; exact List.mem_append_right _ hy)
        have hyb := f2 y hy
        have hnew : bg + d ≤ at_ x / d * d := by
          have h7 : at_ y / d ≤ at_ x / d := Int.ediv_le_ediv (by omega) hyx
          have h8 : at_ y / d ≠ at_ x / d := fun e => hb (by rw [← e]; exact hyb)
          have h9 : at_ y / d + 1 ≤ at_ x / d := by omega
          have h10 := Int.mul_le_mul_of_nonneg_right h9 (show 0 ≤ d by omega)
          rw [Int.add_mul, Int.one_mul, hyb] at h10
          exact h10
        refine ⟨fun g hg => ?_, fun i g h hg hh => ?_⟩
        · rcases List.mem_append.1 hg with hg | hg
          · exact h1.full g hg
          · simp only [List.mem_singleton] at hg
            subst hg
            exact ⟨by simp, fun z hz => by simp only [List.mem_singleton] at hz; rw [hz]⟩
        · rcases Nat.lt_or_ge (i + 1) (cl ++ [(bg, cur)]).length with h3 | h3
          · rw [List.getElem?_append_left h3] at hh
            rw [List.getElem?_append_left (by omega)] at hg
            exact h1.apart i g h hg hh
          · have h4 : i + 1 = (cl ++ [(bg, cur)]).length := by
              have := (List.getElem?_eq_some_iff.1 hh).1
              simp at this h3 ⊢
              omega
            rw [h4, List.getElem?_append_right (Nat.le_refl _)] at hh
            simp at hh
            have h5 : i = cl.length := by simp at h4; omega
            rw [List.getElem?_append_left (by omega), h5] at hg
            simp at hg
            rw [← hg, ← hh]
            exact hnew

theorem groups_flat (l : List α) : (groupsOf at_ d l).flatMap (·.2) = l := by
  have h := (grpScan_flat at_ d l).1
  unfold groupsOf
  simp only
  split
  · rename_i hc; rw [hc, List.append_nil] at h; exact h
  · rw [List.flatMap_append]; simpa using h

/-- how many elements lie ahead of group i -/
def ahead (G : List (Int × List α)) (i : Nat) : Nat := ((G.take i).flatMap (·.2)).length

theorem ahead_succ {G : List (Int × List α)} {i : Nat} {g : Int × List α} (h : G[i]? = some g) : ahead G (i + 1) = ahead G i + g.2.length := by
  obtain ⟨hi, rfl⟩ := List.getElem?_eq_some_iff.1 h
  unfold ahead
  rw [List.take_succ_eq_append_getElem hi, List.flatMap_append, List.length_append]
  simp

theorem ahead_at {G : List (Int × List α)} {i : Nat} {g : Int × List α} (h : G[i]? = some g) (j : Nat) (hj : j < g.2.length) : (G.flatMap (·.2))[ahead G i + j]? = g.2[j]? := by
  obtain ⟨hi, rfl⟩ := List.getElem?_eq_some_iff.1 h
  have : G = G.take i ++ G[i] :: G.drop (i + 1) := by
    rw [← List.drop_eq_getElem_cons hi, List.take_append_drop]
  have h2 : G.flatMap (·.2) = (G.take i).flatMap (·.2) ++ (G[i].2 ++ (G.drop (i + 1)).flatMap (·.2)) := by
    conv => lhs; rw [this]
    rw [List.flatMap_append, List.flatMap_cons]
  rw [h2, List.getElem?_append_right (by unfold ahead; omega)]
  unfold ahead
  rw [Nat.add_sub_cancel_left, List.getElem?_append_left hj]

theorem ahead_le (G : List (Int × List α)) (i : Nat) : ahead G i ≤ (G.flatMap (·.2)).length := by
  unfold ahead
  conv => rhs; rw [← List.take_append_drop i G, List.flatMap_append, List.length_append]
  omega
theorem ahead_all (G : List (Int × List α)) : ahead G G.length = (G.flatMap (·.2)).length := by
  unfold ahead; rw [List.take_length]
end
end Go.Proofs.Ytfcpphfiickpoaa
