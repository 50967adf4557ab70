/- Groups by windows, plainly: they are the list, none is empty, each lies in its window, windows lie apart. No program. Windows of windows, plainly: the groups of a wider width, once of samples and once of their windows. No program. -/
import Derived.Test.YtohocdbneopooaaFoldRWiden
import Derived.Test.YtohocdbneopooaaFoldCalls
namespace Go.Proofs.Ytohocdbneopooaa
set_option maxRecDepth 100000
open Go.RowKit

section
variable {α : Type} (at_ : α → Int) (d : Int)

/-- the times don't fall -/
def Rising (l : List α) : Prop := ∀ (i j : Nat) (x y : α), i ≤ j → l[i]? = some x → l[j]? = some y → at_ x ≤ at_ y

/-- the groups that a scan has, the open one too -/
def allGrps (s : List (Int × List α) × List α × Int) : List (Int × List α) := if s.2.1 = [] then s.1 else s.1 ++ [(s.2.2, s.2.1)]

theorem allGrps_scan (l : List α) : allGrps (grpScan at_ d l) = groupsOf at_ d l := rfl

/-- what is true of groups -/
structure GoodGrps (G : List (Int × List α)) : Prop where
  full : ∀ g ∈ G, g.2 ≠ [] ∧ ∀ x ∈ g.2, at_ x / d * d = g.1
  apart : ∀ (i : Nat) (g h : Int × List α), G[i]? = some g → G[i + 1]? = some h → g.1 + d ≤ h.1

theorem good_groups (hd : 1 ≤ d) {l : List α} (hr : Rising at_ l) : GoodGrps at_ d (groupsOf at_ d l) := by
  suffices H : ∀ m : List α, Rising at_ m.reverse → GoodGrps at_ d (allGrps (grpScan at_ d m.reverse)) ∧ ((grpScan at_ d m.reverse).2.1 = [] → (grpScan at_ d m.reverse).1 = []) by
    have := H l.reverse
    rw [List.reverse_reverse] at this
    exact (this hr).1
  intro m
  induction m with
  | nil => intro _; exact ⟨⟨fun g hg => by simp [grpScan, allGrps] at hg, fun i g h hg => by simp [grpScan, allGrps] at hg⟩, fun _ => rfl⟩
  | cons x m ih =>
    intro hr
    rw [List.reverse_cons] at hr ⊢
    have hr0 : Rising at_ m.reverse := fun i j a b hij ha hb => hr i j a b hij (by rw [List.getElem?_append_left (List.getElem?_eq_some_iff.1 ha).1]; exact ha) (by rw [List.getElem?_append_left (List.getElem?_eq_some_iff.1 hb).1]; exact hb)
    obtain ⟨h1, h2⟩ := ih hr0
    have hfl := (grpScan_flat at_ d m.reverse).1
    rw [grpScan_snoc]
    have hlast : ∀ y ∈ m.reverse, at_ y ≤ at_ x := by
      intro y hy
      obtain ⟨i, hi, hy⟩ := List.mem_iff_getElem.1 hy
      exact hr i m.reverse.length y x (by omega) (by rw [List.getElem?_append_left hi, List.getElem?_eq_getElem hi, hy]) (by simp)
    generalize grpScan at_ d m.reverse = s at *
    obtain ⟨cl, cur, bg⟩ := s
    simp only at h2 hfl
    unfold grpStep
    simp only
    by_cases hc : cur = []
    · have := h2 hc
      subst hc this
      simp only [if_true, allGrps]
      simp only [List.cons_ne_self, if_false, List.nil_append]
      refine ⟨⟨fun g hg => ?_, fun i g h hg hh => by simp at hh⟩, fun h => by simp at h⟩
      simp only [List.mem_singleton] at hg
      subst hg
      exact ⟨by simp, fun y hy => by simp only [List.mem_singleton] at hy; rw [hy]⟩
    · simp only [hc, if_false]
      have hA : allGrps (cl, cur, bg) = cl ++ [(bg, cur)] := by simp [allGrps, hc]
      rw [hA] at h1
      obtain ⟨f1, f2⟩ := h1.full (bg, cur) (by simp)
      split
      · rename_i hb
        refine ⟨?_, fun h => by simp at h⟩
        have hA2 : allGrps (cl, cur ++ [x], bg) = cl ++ [(bg, cur ++ [x])] := by simp [allGrps]
        rw [hA2]
        refine ⟨fun g hg => ?_, fun i g h hg hh => ?_⟩
        · rcases List.mem_append.1 hg with hg | hg
          · exact h1.full g (List.mem_append_left _ hg)
          · simp only [List.mem_singleton] at hg
            subst hg
            refine ⟨by simp, fun y hy => ?_⟩
            rcases List.mem_append.1 hy with hy | hy
            · exact f2 y hy
            · simp only [List.mem_singleton] at hy
              rw [hy]; exact hb
        · have hil : i < cl.length := by
            have := (List.getElem?_eq_some_iff.1 hh).1
            simp at this
            omega
          rw [List.getElem?_append_left hil] at hg
          have hg' : (cl ++ [(bg, cur)])[i]? = some g := by rw [List.getElem?_append_left hil]; exact hg
          rcases Nat.lt_or_ge (i + 1) cl.length with h3 | h3
          · rw [List.getElem?_append_left h3] at hh
            exact h1.apart i g h hg' (by rw [List.getElem?_append_left h3]; exact hh)
          · have h4 : i + 1 = cl.length := by omega
            rw [h4] at hh
            simp at hh
            have := h1.apart i g (bg, cur) hg' (by rw [h4]; simp)
            rw [← hh]; exact this
      · rename_i hb
        refine ⟨?_, fun h => by simp at h⟩
        have hA2 : allGrps (cl ++ [(bg, cur)], [x], at_ x / d * d) = cl ++ [(bg, cur)] ++ [(at_ x / d * d, [x])] := by simp [allGrps]
        rw [hA2]
        obtain ⟨y, hy⟩ := List.exists_mem_of_ne_nil cur hc
        have hyx := hlast y (by rw [← hfl]; exact List.mem_append_right _ hy)
        have hyb := f2 y hy
        have hnew : bg + d ≤ at_ x / d * d := by
          have h7 : at_ y / d ≤ at_ x / d := Int.ediv_le_ediv (by omega) hyx
          have h8 : at_ y / d ≠ at_ x / d := fun e => hb (by rw [← e]; exact hyb)
          have h9 : at_ y / d + 1 ≤ at_ x / d := by omega
          have h10 := Int.mul_le_mul_of_nonneg_right h9 (show 0 ≤ d by omega)
          rw [Int.add_mul, Int.one_mul, hyb] at h10
          exact h10
        refine ⟨fun g hg => ?_, fun i g h hg hh => ?_⟩
        · rcases List.mem_append.1 hg with hg | hg
          · exact h1.full g hg
          · simp only [List.mem_singleton] at hg
            subst hg
            exact ⟨by simp, fun z hz => by simp only [List.mem_singleton] at hz; rw [hz]⟩
        · rcases Nat.lt_or_ge (i + 1) (cl ++ [(bg, cur)]).length with h3 | h3
          · rw [List.getElem?_append_left h3] at hh
            rw [List.getElem?_append_left (by omega)] at hg
            exact h1.apart i g h hg hh
          · have h4 : i + 1 = (cl ++ [(bg, cur)]).length := by
              have := (List.getElem?_eq_some_iff.1 hh).1
              simp at this h3 ⊢
              omega
            rw [h4, List.getElem?_append_right (Nat.le_refl _)] at hh
            simp at hh
            have h5 : i = cl.length := by simp at h4; omega
            rw [List.getElem?_append_left (by omega), h5] at hg
            simp at hg
            rw [← hg, ← hh]
            exact hnew

theorem groups_flat (l : List α) : (groupsOf at_ d l).flatMap (·.2) = l := by
  have h := (grpScan_flat at_ d l).1
  unfold groupsOf
  simp only
  split
  · rename_i hc; rw [hc, List.append_nil] at h; exact h
  · rw [List.flatMap_append]; simpa using h

/-- how many elements lie ahead of group i -/
def ahead (G : List (Int × List α)) (i : Nat) : Nat := ((G.take i).flatMap (·.2)).length

theorem ahead_succ {G : List (Int × List α)} {i : Nat} {g : Int × List α} (h : G[i]? = some g) : ahead G (i + 1) = ahead G i + g.2.length := by
  obtain ⟨hi, rfl⟩ := List.getElem?_eq_some_iff.1 h
  unfold ahead
  rw [List.take_succ_eq_append_getElem hi, List.flatMap_append, List.length_append]
  simp

theorem ahead_at {G : List (Int × List α)} {i : Nat} {g : Int × List α} (h : G[i]? = some g) (j : Nat) (hj : j < g.2.length) : (G.flatMap (·.2))[ahead G i + j]? = g.2[j]? := by
  obtain ⟨hi, rfl⟩ := List.getElem?_eq_some_iff.1 h
  have : G = G.take i ++ G[i] :: G.drop (i + 1) := by
    rw [← List.drop_eq_getElem_cons hi, List.take_append_drop]
  have h2 : G.flatMap (·.2) = (G.take i).flatMap (·.2) ++ (G[i].2 ++ (G.drop (i + 1)).flatMap (·.2)) := by
    conv => lhs; rw [this]
    rw [List.flatMap_append, List.flatMap_cons]
  rw [h2, List.getElem?_append_right (by unfold ahead; omega)]
  unfold ahead
  rw [Nat.add_sub_cancel_left, List.getElem?_append_left hj]

theorem ahead_le (G : List (Int × List α)) (i : Nat) : ahead G i ≤ (G.flatMap (·.2)).length := by
  unfold ahead
  conv => rhs; rw [← List.take_append_drop i G, List.flatMap_append, List.length_append]
  omega
theorem ahead_all (G : List (Int × List α)) : ahead G G.length = (G.flatMap (·.2)).length := by
  unfold ahead; rw [List.take_length]
end
end Go.Proofs.Ytohocdbneopooaa

namespace Go.Proofs.Ytohocdbneopooaa
set_option maxRecDepth 100000
open Go.RowKit

/-- a window of samples, by what the law asks of it -/
theorem smpWin_of {g : Int × List Smp} (h : g.2 ≠ []) : smpWin g = ⟨g.1, g.2.length, csum (vals g.2), (leastOf (vals g.2)).2, (greatOf (vals g.2)).2, lastV g.2⟩ := by
  unfold smpWin refWin
  rw [if_neg (by simpa [vals] using h)]

theorem lastV_at {l : List Smp} {m : Nat} (h : l.length = m + 1) : ∃ s, l[m]? = some s ∧ s.v = lastV l := by
  refine ⟨l[m], List.getElem?_eq_getElem (by omega), ?_⟩
  unfold lastV
  rw [List.getLast?_eq_getElem?, show l.length - 1 = m from by omega, List.getElem?_eq_getElem (by omega)]

theorem rising_of {d : Int} {l : List Smp} (hd : ¬(d < 1 ∨ 1099511627776 < d)) (h : ∀ j, j < l.length → stepErr Smp.t (fun _ => 0) d l j = 0) : Rising Smp.t l :=
  fun _ j _ y hij hx hy => times_rise Smp.t (fun _ => 0) d hd h hx j y hij hy

theorem noErr {d : Int} {l : List Smp} (h : errOf Smp.t (fun _ => 0) d l = 0) : ¬(d < 1 ∨ 1099511627776 < d) ∧ ∀ j, j < l.length → stepErr Smp.t (fun _ => 0) d l j = 0 := by
  have hd : ¬(d < 1 ∨ 1099511627776 < d) := fun hd => by rw [errOf_width _ _ _ _ hd] at h; cases h
  refine ⟨hd, fun j hj => ?_⟩
  have H : ∀ n, (∀ i, i < n → stepErr Smp.t (fun _ => 0) d l i = 0) ∨ ∃ i, i < n ∧ (∀ j, j < i → stepErr Smp.t (fun _ => 0) d l j = 0) ∧ stepErr Smp.t (fun _ => 0) d l i ≠ 0 := by
    intro n
    induction n with
    | zero => exact .inl (fun i hi => absurd hi (by omega))
    | succ n ih =>
      rcases ih with ih | ⟨i, hi, h1, h2⟩
      · by_cases hz : stepErr Smp.t (fun _ => 0) d l n = 0
        · refine .inl (fun i hi => ?_)
          rcases Nat.lt_or_ge i n with h | h
          · exact ih i h
          · have : i = n := by omega
            subst this; exact hz
        · exact .inr ⟨n, by omega, ih, hz⟩
      · exact .inr ⟨i, by omega, h1, h2⟩
  rcases H l.length with H | ⟨i, hi, h1, h2⟩
  · exact H j hj
  · rw [errOf_at _ _ _ hd hi h1 h2] at h
    exact absurd h h2

theorem grp_start {d : Int} (hd : 1 ≤ d) {G : List (Int × List Smp)} {l : List Smp} (good : GoodGrps Smp.t d G) (flat : G.flatMap (·.2) = l) (hv : ∀ x ∈ l, 0 ≤ x.t ∧ x.t ≤ 1125899906842624) {g : Int × List Smp} (hg : g ∈ G) :
    0 ≤ g.1 ∧ g.1 ≤ 1125899906842624 := by
  obtain ⟨gne, gin⟩ := good.full g hg
  obtain ⟨y, hy⟩ := List.exists_mem_of_ne_nil _ gne
  have h1 := hv y (by rw [← flat]; exact List.mem_flatMap.2 ⟨g, hg, hy⟩)
  rw [← gin y hy]
  exact ⟨Int.mul_nonneg (Int.ediv_nonneg h1.1 (by omega)) (by omega), by have := Int.ediv_mul_le y.t (show d ≠ 0 by omega); omega⟩

theorem leastOf_mem (l : List Nat) : ((leastOf l).1 = true → (leastOf l).2 ∈ l ∧ nanN (leastOf l).2 = false) ∧ ((leastOf l).1 = l.any (fun v => !nanN v)) ∧ ((leastOf l).1 = false → (leastOf l).2 = 9221120237041090560) := by
  suffices H : ∀ (m : List Nat), ((leastOf m.reverse).1 = true → (leastOf m.reverse).2 ∈ m.reverse ∧ nanN (leastOf m.reverse).2 = false) ∧ ((leastOf m.reverse).1 = m.reverse.any (fun v => !nanN v)) ∧ ((leastOf m.reverse).1 = false → (leastOf m.reverse).2 = 9221120237041090560) by
    have := H l.reverse
    rwa [List.reverse_reverse] at this
  intro m
  induction m with
  | nil => exact ⟨fun h => (by cases h), rfl, fun _ => rfl⟩
  | cons v m ih =>
    rw [List.reverse_cons, leastOf_snoc, List.any_append]
    obtain ⟨h1, h2, h3⟩ := ih
    generalize leastOf m.reverse = s at *
    obtain ⟨any, out⟩ := s
    simp only at h1 h2 h3
    unfold leastStep
    cases hN : nanN v
    · simp only [Bool.false_eq_true, if_false]
      refine ⟨fun _ => ?_, by simp [hN], fun h => (by cases h)⟩
      split
      · exact ⟨by simp, hN⟩
      · rename_i hc
        have ha : any = true := by cases any <;> simp_all
        obtain ⟨i1, i2⟩ := h1 ha
        exact ⟨List.mem_append_left _ i1, i2⟩
    · simp only [if_true]
      refine ⟨fun h => ⟨List.mem_append_left _ (h1 h).1, (h1 h).2⟩, by simp [hN, h2], h3⟩

theorem greatOf_mem (l : List Nat) : ((greatOf l).1 = true → (greatOf l).2 ∈ l ∧ nanN (greatOf l).2 = false) ∧ ((greatOf l).1 = l.any (fun v => !nanN v)) ∧ ((greatOf l).1 = false → (greatOf l).2 = 9221120237041090560) := by
  suffices H : ∀ (m : List Nat), ((greatOf m.reverse).1 = true → (greatOf m.reverse).2 ∈ m.reverse ∧ nanN (greatOf m.reverse).2 = false) ∧ ((greatOf m.reverse).1 = m.reverse.any (fun v => !nanN v)) ∧ ((greatOf m.reverse).1 = false → (greatOf m.reverse).2 = 9221120237041090560) by
    have := H l.reverse
    rwa [List.reverse_reverse] at this
  intro m
  induction m with
  | nil => exact ⟨fun h => (by cases h), rfl, fun _ => rfl⟩
  | cons v m ih =>
    rw [List.reverse_cons, greatOf_snoc, List.any_append]
    obtain ⟨h1, h2, h3⟩ := ih
    generalize greatOf m.reverse = s at *
    obtain ⟨any, out⟩ := s
    simp only at h1 h2 h3
    unfold greatStep
    cases hN : nanN v
    · simp only [Bool.false_eq_true, if_false]
      refine ⟨fun _ => ?_, by simp [hN], fun h => (by cases h)⟩
      split
      · exact ⟨by simp, hN⟩
      · rename_i hc
        have ha : any = true := by cases any <;> simp_all
        obtain ⟨i1, i2⟩ := h1 ha
        exact ⟨List.mem_append_left _ i1, i2⟩
    · simp only [if_true]
      refine ⟨fun h => ⟨List.mem_append_left _ (h1 h).1, (h1 h).2⟩, by simp [hN, h2], h3⟩

section
variable {α β : Type} (at_ : α → Int) (d : Int)

/-- the groups of what is made of each element -/
theorem groups_map (f : β → α) (l : List β) : groupsOf at_ d (l.map f) = (groupsOf (fun x => at_ (f x)) d l).map (fun g => (g.1, g.2.map f)) := by
  have H : ∀ (l : List β) (s : List (Int × List β) × List β × Int), (l.map f).foldl (grpStep at_ d) (s.1.map (fun g => (g.1, g.2.map f)), s.2.1.map f, s.2.2) =
      (fun s : List (Int × List β) × List β × Int => (s.1.map (fun g => (g.1, g.2.map f)), s.2.1.map f, s.2.2)) (l.foldl (grpStep (fun x => at_ (f x)) d) s) := by
    intro l
    induction l with
    | nil => intro s; rfl
    | cons x l ih =>
      intro s
      rw [List.map_cons, List.foldl_cons, List.foldl_cons, ← ih]
      congr 1
      unfold grpStep
      by_cases h1 : s.2.1 = []
      · simp [h1]
      · have h2 : ¬ s.2.1.map f = [] := by simpa using h1
        simp only [h1, h2, if_false]
        split <;> simp
  have := H l ([], [], 0)
  unfold groupsOf grpScan
  simp only [List.map_nil] at this
  rw [this]
  simp only [List.map_eq_nil_iff]
  split <;> simp

/-- the groups of a list of groups, each whole in one window, are the groups of all their elements -/
theorem groups_join (key : β → Int) (part : β → List α) (G : List β) (h : ∀ g ∈ G, part g ≠ [] ∧ ∀ x ∈ part g, at_ x / d * d = key g / d * d) :
    groupsOf at_ d (G.flatMap part) = (groupsOf key d G).map (fun g => (g.1, g.2.flatMap part)) := by
  suffices H : ∀ G : List β, (∀ g ∈ G, part g ≠ [] ∧ ∀ x ∈ part g, at_ x / d * d = key g / d * d) →
      grpScan at_ d (G.reverse.flatMap part) = ((grpScan key d G.reverse).1.map (fun g => (g.1, g.2.flatMap part)), (grpScan key d G.reverse).2.1.flatMap part, (grpScan key d G.reverse).2.2) ∧
      ((grpScan key d G.reverse).2.1.flatMap part = [] → (grpScan key d G.reverse).2.1 = []) by
    obtain ⟨h1, h2⟩ := H G.reverse (fun g hg => h g (List.mem_reverse.1 hg))
    rw [List.reverse_reverse] at h1 h2
    unfold groupsOf
    rw [h1]
    simp only
    generalize grpScan key d G = s at *
    by_cases hc : s.2.1 = []
    · rw [hc]; simp
    · rw [if_neg (fun h => hc (h2 h)), if_neg hc]; simp
  intro G
  induction G with
  | nil => intro _; exact ⟨rfl, fun _ => rfl⟩
  | cons x G ih =>
    intro hG
    obtain ⟨i1, i2⟩ := ih (fun g hg => hG g (List.mem_cons_of_mem _ hg))
    obtain ⟨p1, p2⟩ := hG x (by simp)
    rw [List.reverse_cons, List.flatMap_append, grpScan_snoc]
    simp only [List.flatMap_cons, List.flatMap_nil, List.append_nil]
    have hA := (grpScan_flat at_ d (G.reverse.flatMap part))
    by_cases hc : (grpScan key d G.reverse).2.1 = []
    · have hb := grp_block at_ d p1 p2 (.inl (show (grpScan at_ d (G.reverse.flatMap part)).2.1 = [] by rw [i1]; simp [hc]))
      rw [hb]
      unfold groupsOf grpStep
      rw [i1]
      simp only [hc, if_true, List.flatMap_nil]
      simp [p1]
    · by_cases hk : key x / d * d = (grpScan key d G.reverse).2.2
      · have hs : grpScan at_ d (G.reverse.flatMap part ++ part x) = (part x).foldl (grpStep at_ d) (grpScan at_ d (G.reverse.flatMap part)) := by simp [grpScan]
        rw [hs, i1, scan_same at_ d _ _ _ _ (fun e => hc (i2 e)) (fun y hy => (p2 y hy).trans hk)]
        unfold grpStep
        simp only [hc, hk, if_false, if_true]
        refine ⟨by simp, fun h => ?_⟩
        simp [p1] at h
      · have hb := grp_block at_ d p1 p2 (.inr (show (grpScan at_ d (G.reverse.flatMap part)).2.2 ≠ key x / d * d by rw [i1]; exact fun e => hk e.symm))
        rw [hb]
        unfold groupsOf grpStep
        rw [i1]
        simp only [hc, hk, if_false]
        rw [if_neg (fun h => hc (i2 h))]
        simp [p1]

/-- the groups of groups, put together, are the groups -/
theorem group_mem {l : List α} {g : Int × List α} (hg : g ∈ groupsOf at_ d l) {x : α} (hx : x ∈ g.2) : x ∈ l := by
  rw [← groups_flat at_ d l]; exact List.mem_flatMap.2 ⟨g, hg, hx⟩
end

/-- each element lies in its group's window -/
theorem groups_in {α : Type} (at_ : α → Int) (d : Int) (l : List α) : ∀ g ∈ groupsOf at_ d l, ∀ x ∈ g.2, at_ x / d * d = g.1 := by
  suffices H : ∀ m : List α, (∀ g ∈ (grpScan at_ d m.reverse).1, ∀ x ∈ g.2, at_ x / d * d = g.1) ∧ ∀ x ∈ (grpScan at_ d m.reverse).2.1, at_ x / d * d = (grpScan at_ d m.reverse).2.2 by
    have := H l.reverse
    rw [List.reverse_reverse] at this
    intro g hg
    unfold groupsOf at hg
    simp only at hg
    split at hg
    · exact this.1 g hg
    · rcases List.mem_append.1 hg with h | h
      · exact this.1 g h
      · simp only [List.mem_singleton] at h
        subst h; exact this.2
  intro m
  induction m with
  | nil => exact ⟨fun g hg => by simp [grpScan] at hg, fun x hx => by simp [grpScan] at hx⟩
  | cons x m ih =>
    rw [List.reverse_cons, grpScan_snoc]
    unfold grpStep
    split
    · exact ⟨ih.1, fun y hy => by simp only [List.mem_singleton] at hy; rw [hy]⟩
    · split
      · rename_i hb
        refine ⟨ih.1, fun y hy => ?_⟩
        rcases List.mem_append.1 hy with h | h
        · exact ih.2 y h
        · simp only [List.mem_singleton] at h
          rw [h]; exact hb
      · refine ⟨fun g hg => ?_, fun y hy => by simp only [List.mem_singleton] at hy; rw [hy]⟩
        rcases List.mem_append.1 hg with h | h
        · exact ih.1 g h
        · simp only [List.mem_singleton] at h
          subst h; exact ih.2

/-- no error at one width, none at another -/
theorem err_same {d D : Int} (l : List Smp) (hd : ¬(d < 1 ∨ 1099511627776 < d)) (hD : ¬(D < 1 ∨ 1099511627776 < D)) : errOf Smp.t (fun _ => 0) d l = errOf Smp.t (fun _ => 0) D l := by
  have : stepErr Smp.t (fun _ => 0) d l = stepErr Smp.t (fun _ => 0) D l := by
    funext k
    unfold stepErr
    cases l[k]? with
    | none => rfl
    | some x =>
      simp only
      by_cases h : x.t < 0 ∨ 1125899906842624 < x.t
      · rw [beginOf_time _ _ hd h, beginOf_time _ _ hD h]
      · rw [beginOf_ok _ _ hd h, beginOf_ok _ _ hD h]
  unfold errOf
  rw [if_neg hd, if_neg hD, this]

theorem begin_wide {d m t : Int} (hd : 1 ≤ d) : t / d * d / (d * m) * (d * m) = t / (d * m) * (d * m) := by
  rw [Int.mul_comm (t / d) d, Int.mul_ediv_mul_of_pos _ _ (by omega), ← Int.ediv_ediv_of_nonneg (by omega)]

/-! ### the least of leasts -/
theorem leastOf_nan (l : List Nat) : nanN (leastOf l).2 = !(leastOf l).1 := by
  obtain ⟨h1, _, h3⟩ := leastOf_mem l
  cases hb : (leastOf l).1
  · rw [h3 hb]; rfl
  · exact (h1 hb).2
theorem greatOf_nan (l : List Nat) : nanN (greatOf l).2 = !(greatOf l).1 := by
  obtain ⟨h1, _, h3⟩ := greatOf_mem l
  cases hb : (greatOf l).1
  · rw [h3 hb]; rfl
  · exact (h1 hb).2

theorem leastOf_app (A B : List Nat) : leastOf (A ++ B) = leastStep (leastOf A) (leastOf B).2 := by
  suffices H : ∀ B : List Nat, leastOf (A ++ B.reverse) = leastStep (leastOf A) (leastOf B.reverse).2 by
    have := H B.reverse
    rwa [List.reverse_reverse] at this
  intro B
  induction B with
  | nil => rw [List.reverse_nil, List.append_nil]; unfold leastStep; rw [if_pos (by decide)]
  | cons x B ih =>
    rw [List.reverse_cons, ← List.append_assoc, leastOf_snoc, leastOf_snoc, ih]
    have hn := leastOf_nan B.reverse
    generalize leastOf A = a
    generalize leastOf B.reverse = b at *
    obtain ⟨a1, a2⟩ := a
    obtain ⟨b1, b2⟩ := b
    simp only at hn
    cases hx : nanN x
    · cases b1
      · simp [leastStep, hx, hn]
      · simp only [leastStep, hx, hn, Bool.not_true, Bool.false_eq_true, if_false, Bool.false_or]
        cases a1
        · simp only [Bool.not_false, Bool.true_or, if_true]
          by_cases h : ordN x < ordN b2 <;> simp [h, hx, hn]
        · simp only [Bool.not_true, Bool.false_or]
          by_cases h1 : ordN b2 < ordN a2 <;> by_cases h2 : ordN x < ordN b2 <;> by_cases h3 : ordN x < ordN a2 <;> simp [h1, h2, h3, hx, hn] <;> omega
    · simp [leastStep, hx]

theorem greatOf_app (A B : List Nat) : greatOf (A ++ B) = greatStep (greatOf A) (greatOf B).2 := by
  suffices H : ∀ B : List Nat, greatOf (A ++ B.reverse) = greatStep (greatOf A) (greatOf B.reverse).2 by
    have := H B.reverse
    rwa [List.reverse_reverse] at this
  intro B
  induction B with
  | nil => rw [List.reverse_nil, List.append_nil]; unfold greatStep; rw [if_pos (by decide)]
  | cons x B ih =>
    rw [List.reverse_cons, ← List.append_assoc, greatOf_snoc, greatOf_snoc, ih]
    have hn := greatOf_nan B.reverse
    generalize greatOf A = a
    generalize greatOf B.reverse = b at *
    obtain ⟨a1, a2⟩ := a
    obtain ⟨b1, b2⟩ := b
    simp only at hn
    cases hx : nanN x
    · cases b1
      · simp [greatStep, hx, hn]
      · simp only [greatStep, hx, hn, Bool.not_true, Bool.false_eq_true, if_false, Bool.false_or]
        cases a1
        · simp only [Bool.not_false, Bool.true_or, if_true]
          by_cases h : ordN b2 < ordN x <;> simp [h, hx, hn]
        · simp only [Bool.not_true, Bool.false_or]
          by_cases h1 : ordN a2 < ordN b2 <;> by_cases h2 : ordN b2 < ordN x <;> by_cases h3 : ordN a2 < ordN x <;> simp [h1, h2, h3, hx, hn] <;> omega
    · simp [greatStep, hx]

theorem least_join {γ : Type} (f : γ → List Nat) (ls : List γ) : leastOf (ls.map fun l => (leastOf (f l)).2) = leastOf (ls.flatMap f) := by
  suffices H : ∀ ls : List γ, leastOf (ls.reverse.map fun l => (leastOf (f l)).2) = leastOf (ls.reverse.flatMap f) by
    have := H ls.reverse
    rwa [List.reverse_reverse] at this
  intro ls
  induction ls with
  | nil => rfl
  | cons x ls ih => rw [List.reverse_cons, List.map_append, List.flatMap_append, List.map_cons, List.map_nil, leastOf_snoc, ih, leastOf_app]; simp
theorem great_join {γ : Type} (f : γ → List Nat) (ls : List γ) : greatOf (ls.map fun l => (greatOf (f l)).2) = greatOf (ls.flatMap f) := by
  suffices H : ∀ ls : List γ, greatOf (ls.reverse.map fun l => (greatOf (f l)).2) = greatOf (ls.reverse.flatMap f) by
    have := H ls.reverse
    rwa [List.reverse_reverse] at this
  intro ls
  induction ls with
  | nil => rfl
  | cons x ls ih => rw [List.reverse_cons, List.map_append, List.flatMap_append, List.map_cons, List.map_nil, greatOf_snoc, ih, greatOf_app]; simp

/-! ### bits of a sum -/
theorem word_lt (s : Bool) (r : Nat) (h : r ≤ 9218868437227405312) : Ieee.double.word s r < 18446744073709551616 := by
  unfold Ieee.Format.word
  rw [dbl_sign]
  cases s
  · simp only [Bool.false_eq_true, if_false]; omega
  · simp only [if_true]; omega
theorem write_lt (d : Ieee.Datum) (h : d.isNaN = false) : Ieee.double.write d < 18446744073709551616 := by
  cases d with
  | number s m e =>
    simp only [Ieee.Format.write, Ieee.Format.nearest]
    split
    · exact word_lt _ _ (Nat.zero_le _)
    · refine word_lt _ _ ?_
      rw [← dbl_inf]
      exact Nat.min_le_right _ _
  | infinity s =>
    simp only [Ieee.Format.write]
    exact word_lt _ _ (by rw [dbl_inf]; exact Nat.le_refl _)
  | nan s f => simp [Ieee.Datum.isNaN] at h
theorem cadd_lt (x y : Nat) : cadd x y < 18446744073709551616 := by
  unfold cadd Ieee.Format.add
  cases hs : (Ieee.double.read x).sum (Ieee.double.read y) with
  | none => simp
  | some d => exact write_lt d (sum_nan hs)
theorem canonN_lt {x : Nat} (h : x < 18446744073709551616) : canonN x < 18446744073709551616 := by
  unfold canonN; split
  · decide
  · exact h
theorem csum_lt {l : List Nat} (h : ∀ x ∈ l, x < 18446744073709551616) : csum l < 18446744073709551616 := by
  cases l with
  | nil => simp [csum]
  | cons x l =>
    unfold csum
    have H : ∀ (l : List Nat) (s : Nat), s < 18446744073709551616 → l.foldl cadd s < 18446744073709551616 := by
      intro l
      induction l with
      | nil => intro s hs; exact hs
      | cons y l ih => intro s _; exact ih _ (cadd_lt s y)
    exact H l _ (canonN_lt (h x (by simp)))

/-! ### windows of windows -/
theorem groups_ne {α : Type} (at_ : α → Int) (d : Int) (l : List α) : ∀ g ∈ groupsOf at_ d l, g.2 ≠ [] := by
  suffices H : ∀ m : List α, ∀ g ∈ (grpScan at_ d m.reverse).1, g.2 ≠ [] by
    have := H l.reverse
    rw [List.reverse_reverse] at this
    intro g hg
    unfold groupsOf at hg
    simp only at hg
    split at hg
    · exact this g hg
    · rename_i hc
      rcases List.mem_append.1 hg with h | h
      · exact this g h
      · simp only [List.mem_singleton] at h
        subst h; exact hc
  intro m
  induction m with
  | nil => intro g hg; simp [grpScan] at hg
  | cons x m ih =>
    rw [List.reverse_cons, grpScan_snoc]
    unfold grpStep
    split
    · exact ih
    · split
      · exact ih
      · rename_i hc _
        intro g hg
        rcases List.mem_append.1 hg with h | h
        · exact ih g h
        · simp only [List.mem_singleton] at h
          subst h; exact hc

theorem smpWin_start (g : Int × List Smp) : (smpWin g).start = g.1 := by
  unfold smpWin refWin; split <;> rfl

theorem wrap64_id {x : Int} (h0 : -9223372036854775808 ≤ x) (h1 : x < 9223372036854775808) : wrap64 x = x := by
  unfold wrap64; omega

theorem lastV_app (A : List Smp) {B : List Smp} (h : B ≠ []) : lastV (A ++ B) = lastV B := by
  obtain ⟨C, x, rfl⟩ : ∃ C x, B = C ++ [x] := ⟨B.dropLast, B.getLast h, (List.dropLast_concat_getLast h).symm⟩
  rw [← List.append_assoc, lastV_snoc, lastV_snoc]

theorem live_smp {gs : List (Int × List Smp)} (hf : ∀ g ∈ gs, g.2 ≠ []) : liveW (gs.map smpWin) = gs.map smpWin := by
  unfold liveW
  rw [List.filter_eq_self]
  intro x hx
  obtain ⟨g, hg, rfl⟩ := List.mem_map.1 hx
  rw [smpWin_of (hf g hg)]
  have : g.2.length ≠ 0 := fun h => hf g hg (List.eq_nil_of_length_eq_zero h)
  simp only [bne_iff_ne, ne_eq]
  omega

theorem cnt_smp {gs : List (Int × List Smp)} (hf : ∀ g ∈ gs, g.2 ≠ []) (hn : (gs.flatMap (·.2)).length < 9223372036854775808) : cntOf (gs.map smpWin) = ((gs.flatMap (·.2)).length : Nat) := by
  unfold cntOf
  rw [live_smp hf]
  have H : ∀ (gs : List (Int × List Smp)) (a : Nat), (∀ g ∈ gs, g.2 ≠ []) → a + (gs.flatMap (·.2)).length < 9223372036854775808 → (gs.map smpWin).foldl (fun a x => wrap64 (a + x.count)) (a : Int) = ((a + (gs.flatMap (·.2)).length : Nat) : Int) := by
    intro gs
    induction gs with
    | nil => intro a _ _; simp
    | cons g gs ih =>
      intro a hf hn
      rw [List.flatMap_cons, List.length_append] at hn ⊢
      rw [List.map_cons, List.foldl_cons, smpWin_of (hf g (by simp))]
      simp only
      rw [wrap64_id (by omega) (by omega), ← Int.natCast_add, ih (a + g.2.length) (fun g hg => hf g (by simp [hg])) (by omega)]
      congr 1; omega
  have := H gs 0 hf (by omega)
  simpa using this

theorem last_smp {gs : List (Int × List Smp)} (hne : gs ≠ []) (hf : ∀ g ∈ gs, g.2 ≠ []) : lastOfW (gs.map smpWin) = lastV (gs.flatMap (·.2)) := by
  unfold lastOfW
  rw [live_smp hf, ← List.dropLast_concat_getLast hne]
  have hl := hf _ (List.getLast_mem hne)
  generalize gs.getLast hne = g at *
  rw [List.map_append, List.flatMap_append]
  simp only [List.map_cons, List.map_nil, List.flatMap_cons, List.flatMap_nil, List.append_nil, List.getLast?_concat]
  rw [lastV_app _ hl, smpWin_of hl]

/-- A window of windows is the window of their samples, but for the sum. -/
theorem twice_win (b : Int) {gs : List (Int × List Smp)} (hne : gs ≠ []) (hf : ∀ g ∈ gs, g.2 ≠ []) (hn : (gs.flatMap (·.2)).length < 9223372036854775808) :
    ∃ s, winWin (b, gs.map smpWin) = { smpWin (b, gs.flatMap (·.2)) with sum := s } := by
  have hflat : gs.flatMap (·.2) ≠ [] := by
    intro h
    rw [List.flatMap_eq_nil_iff] at h
    obtain ⟨g, hg⟩ := List.exists_mem_of_ne_nil _ hne
    exact hf g hg (h g hg)
  have e1 : gs.map (fun g => (smpWin g).min) = gs.map (fun g => (leastOf (vals g.2)).2) := List.map_congr_left fun g hg => by rw [smpWin_of (hf g hg)]
  have e2 : gs.map (fun g => (smpWin g).max) = gs.map (fun g => (greatOf (vals g.2)).2) := List.map_congr_left fun g hg => by rw [smpWin_of (hf g hg)]
  have e3 : gs.flatMap (fun g => vals g.2) = vals (gs.flatMap (·.2)) := by unfold vals; rw [List.map_flatMap]
  refine ⟨csum ((gs.map smpWin).map Win.sum), ?_⟩
  rw [smpWin_of (by exact hflat)]
  unfold winWin mergeWin refWin
  simp only
  rw [live_smp hf, cnt_smp hf hn, last_smp hne hf, if_neg (by simpa using hne)]
  simp only [List.map_map]
  have e4 : leastOf (gs.map (Win.min ∘ smpWin)) = leastOf (vals (gs.flatMap (·.2))) := by rw [← e3, ← least_join]; exact congrArg leastOf e1
  have e5 : greatOf (gs.map (Win.max ∘ smpWin)) = greatOf (vals (gs.flatMap (·.2))) := by rw [← e3, ← great_join]; exact congrArg greatOf e2
  rw [e4, e5]

/-- what the law compares, of each window -/
def AlikeW (x y : Win) : Prop := x.start = y.start ∧ x.count = y.count ∧ x.min = y.min ∧ x.max = y.max ∧ x.last = y.last

theorem twice_law {d m : Int} (hd : 1 ≤ d) (l : List Smp) (hn : l.length < 9223372036854775808) :
    ∃ got want : List Win, (groupsOf Win.start (d * m) ((groupsOf Smp.t d l).map smpWin)).map winWin = got ∧ (groupsOf Smp.t (d * m) l).map smpWin = want ∧ got.length = want.length ∧
      ∀ (k : Nat) (x y : Win), got[k]? = some x → want[k]? = some y → AlikeW x y := by
  have hG : ∀ g ∈ groupsOf Smp.t d l, g.2 ≠ [] ∧ ∀ x ∈ g.2, x.t / (d * m) * (d * m) = g.1 / (d * m) * (d * m) := by
    intro g hg
    refine ⟨groups_ne _ _ _ g hg, fun x hx => ?_⟩
    rw [← groups_in Smp.t d l g hg x hx, begin_wide hd]
  have hfl := groups_flat Smp.t d l
  generalize groupsOf Smp.t d l = G at *
  have h1 : groupsOf Win.start (d * m) (G.map smpWin) = (groupsOf (fun g : Int × List Smp => g.1) (d * m) G).map (fun g => (g.1, g.2.map smpWin)) := by
    rw [groups_map]
    congr 2
    funext g
    exact smpWin_start g
  have h2 : groupsOf Smp.t (d * m) l = (groupsOf (fun g : Int × List Smp => g.1) (d * m) G).map (fun g => (g.1, g.2.flatMap (·.2))) := by
    have := groups_join Smp.t (d * m) (fun g : Int × List Smp => g.1) (fun g => g.2) G hG
    rw [hfl] at this
    exact this
  have hGG := groups_ne (fun g : Int × List Smp => g.1) (d * m) G
  have hmem := fun g hg x hx => group_mem (fun g : Int × List Smp => g.1) (d * m) (l := G) (g := g) hg (x := x) hx
  have hlen : ∀ g ∈ groupsOf (fun g : Int × List Smp => g.1) (d * m) G, (g.2.flatMap (·.2)).length ≤ l.length := by
    intro g hg
    have : g.2.flatMap (·.2) ∈ (groupsOf Smp.t (d * m) l).map (·.2) := by
      rw [h2, List.map_map]
      exact List.mem_map.2 ⟨g, hg, rfl⟩
    obtain ⟨h, hh, he⟩ := List.mem_map.1 this
    rw [← he]
    have := groups_flat Smp.t (d * m) l
    have hle : h.2.length ≤ ((groupsOf Smp.t (d * m) l).flatMap (·.2)).length := by
      obtain ⟨i, hi, rfl⟩ := List.mem_iff_getElem.1 hh
      have h3 := ahead_succ (List.getElem?_eq_getElem hi)
      have h4 := ahead_le (groupsOf Smp.t (d * m) l) (i + 1)
      omega
    rw [this] at hle
    exact hle
  rw [h1, h2]
  generalize groupsOf (fun g : Int × List Smp => g.1) (d * m) G = GG at *
  refine ⟨_, _, rfl, rfl, by simp, fun k x y hx hy => ?_⟩
  simp only [List.map_map, List.getElem?_map] at hx hy
  cases hk : GG[k]? with
  | none => rw [hk] at hx; cases hx
  | some g =>
    have hg := List.mem_of_getElem? hk
    rw [hk] at hx hy
    simp only [Option.map_some, Option.some.injEq, Function.comp_apply] at hx hy
    obtain ⟨s, hs⟩ := twice_win g.1 (hGG g hg) (fun x hx => (hG x (hmem g hg x hx)).1) (Nat.lt_of_le_of_lt (hlen g hg) hn)
    rw [← hx, hs, hy]
    exact ⟨rfl, rfl, rfl, rfl, rfl⟩

theorem smps_ok {d : Int} {l : List Smp} (hok : ∀ s ∈ l, s.ok) (hn : l.length < 9223372036854775808) : ∀ x ∈ (groupsOf Smp.t d l).map smpWin, x.ok := by
  intro x hx
  obtain ⟨g, hg, rfl⟩ := List.mem_map.1 hx
  have hne := groups_ne _ _ _ g hg
  have hv : ∀ y ∈ vals g.2, y < 18446744073709551616 := by
    intro y hy
    obtain ⟨s, hs, rfl⟩ := List.mem_map.1 hy
    exact hok s (group_mem _ _ hg hs)
  have hle : g.2.length ≤ l.length := by
    obtain ⟨i, hi, rfl⟩ := List.mem_iff_getElem.1 hg
    have h3 := ahead_succ (List.getElem?_eq_getElem hi)
    have h4 := ahead_le (groupsOf Smp.t d l) (i + 1)
    rw [groups_flat] at h4
    omega
  rw [smpWin_of hne]
  refine ⟨⟨by simp only; omega, by simp only; omega⟩, csum_lt hv, leastOf_lt hv, greatOf_lt hv, ?_⟩
  obtain ⟨C, z, hz⟩ : ∃ C x, g.2 = C ++ [x] := ⟨g.2.dropLast, g.2.getLast hne, (List.dropLast_concat_getLast hne).symm⟩
  simp only [hz, lastV_snoc]
  exact hv z.v (by unfold vals; rw [hz]; simp)

theorem err_wide {d D : Int} {l : List Smp} (hD : ¬(D < 1 ∨ 1099511627776 < D)) (h : errOf Smp.t (fun _ => 0) d l = 0) : errOf Win.start badWin D ((groupsOf Smp.t d l).map smpWin) = 0 := by
  obtain ⟨hd, herr⟩ := noErr h
  have good := good_groups Smp.t d (by omega) (rising_of hd herr)
  have hvalid : ∀ x ∈ l, 0 ≤ x.t ∧ x.t ≤ 1125899906842624 := by
    intro x hx
    obtain ⟨i, hi, hx⟩ := List.mem_iff_getElem.1 hx
    have := valid_at Smp.t (fun _ => 0) d (herr i hi) (by rw [List.getElem?_eq_getElem hi, hx]) hd
    exact ⟨this.1, this.2.1⟩
  have hfl := groups_flat Smp.t d l
  generalize groupsOf Smp.t d l = G at *
  refine errOf_none Win.start badWin D hD (fun k hk => ?_)
  rw [List.length_map] at hk
  have hgk : G[k]? = some G[k] := List.getElem?_eq_getElem hk
  have hx : (G.map smpWin)[k]? = some (smpWin G[k]) := by rw [List.getElem?_map, hgk]; rfl
  have hs := grp_start (by omega) good hfl hvalid (List.getElem_mem hk)
  have hst := smpWin_start G[k]
  have hb := beginOf_ok (smpWin G[k]).start D hD (by rw [hst]; omega)
  rw [stepErr_eq Win.start badWin D hx hb, if_neg (by decide)]
  have ho : ordB Win.start (G.map smpWin) k (smpWin G[k]).start = false := by
    cases k with
    | zero => rfl
    | succ j =>
      have hgj : G[j]? = some G[j] := List.getElem?_eq_getElem (by omega)
      rw [ordB_succ Win.start (y := smpWin G[j]) (by rw [List.getElem?_map, hgj]; rfl), decide_eq_false_iff_not, hst, smpWin_start]
      have := good.apart j _ _ hgj hgk
      omega
  rw [if_neg (by rw [ho]; decide)]
  have hne := (good.full _ (List.getElem_mem hk)).1
  rw [smpWin_of hne]
  have : G[k].2.length ≠ 0 := fun h => hne (List.eq_nil_of_length_eq_zero h)
  exact if_neg (by simp only; omega)

end Go.Proofs.Ytohocdbneopooaa
