/- Grouping by windows, plainly: the first error of a list, and its groups; the two ways to group are one. And the four small functions that grouped is handed. No condition. -/
import Derived.Test.YtohocdbneopooaaFoldRMerge
namespace Go.Proofs.Ytohocdbneopooaa
set_option maxRecDepth 100000
open Go.RowKit

set_option maxHeartbeats 400000 in
theorem sampleTime_any (x : Smp) (w : World) :
    Calls Try.prog 93 #[.agg #[.int .i64 x.t, .int .u64 (x.v : Nat)]] w fun e w' => e = .returned (.int .i64 x.t) ∧ Below w.heap.size w w' := by
  go_enter Try.func93, Try.ntmps93
  go_wp2
  go_ret
  exact ⟨rfl, (Below.refl _ _).alloc (Nat.le_refl _) _⟩

set_option maxHeartbeats 400000 in
theorem okSample_any (x : Smp) (w : World) :
    Calls Try.prog 94 #[.agg #[.int .i64 x.t, .int .u64 (x.v : Nat)]] w fun e w' => e = .returned (.int .i64 0) ∧ Below w.heap.size w w' := by
  go_enter Try.func94, Try.ntmps94
  go_wp2
  go_ret
  exact ⟨rfl, (Below.refl _ _).alloc (Nat.le_refl _) _⟩

set_option maxHeartbeats 400000 in
theorem windowTime_any (x : Win) (w : World) :
    Calls Try.prog 98 #[.agg #[.int .i64 x.start, .int .i64 x.count, .int .u64 (x.sum : Nat), .int .u64 (x.min : Nat), .int .u64 (x.max : Nat), .int .u64 (x.last : Nat)]] w fun e w' => e = .returned (.int .i64 x.start) ∧ Below w.heap.size w w' := by
  go_enter Try.func98, Try.ntmps98
  go_wp2
  go_ret
  exact ⟨rfl, (Below.refl _ _).alloc (Nat.le_refl _) _⟩

def badWin (x : Win) : Int := if x.count < 1 then 110 else 0

set_option maxHeartbeats 400000 in
theorem counted_any (x : Win) (w : World) :
    Calls Try.prog 99 #[.agg #[.int .i64 x.start, .int .i64 x.count, .int .u64 (x.sum : Nat), .int .u64 (x.min : Nat), .int .u64 (x.max : Nat), .int .u64 (x.last : Nat)]] w fun e w' => e = .returned (.int .i64 (badWin x)) ∧ Below w.heap.size w w' := by
  by_cases h : x.count < 1
  · have hb : Hid (badWin x = 110) := if_pos h
    go_enter Try.func99, Try.ntmps99
    go_wp2
    go_ret
    exact ⟨ret_int hb.out.symm, (Below.refl _ _).alloc (Nat.le_refl _) _⟩
  · have hb : Hid (badWin x = 0) := if_neg h
    go_enter Try.func99, Try.ntmps99
    go_wp2
    go_ret
    exact ⟨ret_int hb.out.symm, (Below.refl _ _).alloc (Nat.le_refl _) _⟩

/-! ### plain -/
section
variable {α : Type} (at_ : α → Int) (bad : α → Int) (d : Int)

/-- does the time at place k not rise? -/
def ordB (l : List α) (k : Nat) (t : Int) : Bool := match k with | 0 => false | j + 1 => match l[j]? with | some y => decide (t ≤ at_ y) | none => false

theorem ordB_succ {l : List α} {j : Nat} {y : α} (h : l[j]? = some y) (t : Int) : ordB at_ l (j + 1) t = decide (t ≤ at_ y) := by simp [ordB, h]

/-- The error at place k, if it is the first. -/
def stepErr (l : List α) (k : Nat) : Int :=
  match l[k]? with
  | none => 0
  | some x => if (beginOf (at_ x) d).2 ≠ 0 then (beginOf (at_ x) d).2 else if ordB at_ l k (at_ x) = true then 90 else bad x

theorem stepErr_eq {l : List α} {k : Nat} {x : α} (h : l[k]? = some x) {b e : Int} (hb : beginOf (at_ x) d = (b, e)) : stepErr at_ bad d l k = if e ≠ 0 then e else if ordB at_ l k (at_ x) = true then 90 else bad x := by
  unfold stepErr; rw [h]; simp only [hb]

/-- The list's first error. -/
def errOf (l : List α) : Int := if d < 1 ∨ 1099511627776 < d then 100 else (((List.range l.length).map (stepErr at_ bad d l)).find? (fun e => e != 0)).getD 0

theorem find_first {f : Nat → Int} : ∀ (n k : Nat), k < n → (∀ j, j < k → f j = 0) → f k ≠ 0 → (((List.range n).map f).find? (fun e => e != 0)) = some (f k) := by
  intro n
  induction n with
  | zero => intro k h; omega
  | succ n ih =>
    intro k hk h0 h1
    rw [List.range_succ, List.map_append, List.find?_append]
    rcases Nat.lt_or_ge k n with h | h
    · rw [ih k h h0 h1]; rfl
    · have : k = n := by omega
      subst this
      have hn : ((List.range k).map f).find? (fun e => e != 0) = none := by
        rw [List.find?_eq_none]
        intro x hx
        obtain ⟨j, hj, rfl⟩ := List.mem_map.1 hx
        simp [h0 j (List.mem_range.1 hj)]
      rw [hn]
      simp [h1]

theorem errOf_width (l : List α) (h : d < 1 ∨ 1099511627776 < d) : errOf at_ bad d l = 100 := if_pos h
theorem errOf_at {l : List α} {k : Nat} (hd : ¬(d < 1 ∨ 1099511627776 < d)) (hk : k < l.length) (h0 : ∀ j, j < k → stepErr at_ bad d l j = 0) (h1 : stepErr at_ bad d l k ≠ 0) : errOf at_ bad d l = stepErr at_ bad d l k := by
  unfold errOf; rw [if_neg hd, find_first _ _ hk h0 h1]; rfl
theorem errOf_none {l : List α} (hd : ¬(d < 1 ∨ 1099511627776 < d)) (h0 : ∀ j, j < l.length → stepErr at_ bad d l j = 0) : errOf at_ bad d l = 0 := by
  unfold errOf; rw [if_neg hd]
  have hn : ((List.range l.length).map (stepErr at_ bad d l)).find? (fun e => e != 0) = none := by
    rw [List.find?_eq_none]
    intro x hx
    obtain ⟨j, hj, rfl⟩ := List.mem_map.1 hx
    simp [h0 j (List.mem_range.1 hj)]
  rw [hn]; rfl

/-- What lies in one window with its neighbours, from the left: the groups that are closed, and the open one. -/
def grpStep (s : List (Int × List α) × List α × Int) (x : α) : List (Int × List α) × List α × Int :=
  if s.2.1 = [] then (s.1, [x], at_ x / d * d) else if at_ x / d * d = s.2.2 then (s.1, s.2.1 ++ [x], s.2.2) else (s.1 ++ [(s.2.2, s.2.1)], [x], at_ x / d * d)

def grpScan (l : List α) : List (Int × List α) × List α × Int := l.foldl (grpStep at_ d) ([], [], 0)

/-- The groups. -/
def groupsOf (l : List α) : List (Int × List α) := let s := grpScan at_ d l; if s.2.1 = [] then s.1 else s.1 ++ [(s.2.2, s.2.1)]

theorem grpScan_snoc (l : List α) (x : α) : grpScan at_ d (l ++ [x]) = grpStep at_ d (grpScan at_ d l) x := by simp [grpScan]

/-- the groups, put together, are the list; the open group is empty of an empty list alone -/
theorem grpScan_flat (l : List α) : ((grpScan at_ d l).1.flatMap (·.2)) ++ (grpScan at_ d l).2.1 = l ∧ ((grpScan at_ d l).2.1 = [] → l = []) := by
  suffices H : ∀ m : List α, ((grpScan at_ d m.reverse).1.flatMap (·.2)) ++ (grpScan at_ d m.reverse).2.1 = m.reverse ∧ ((grpScan at_ d m.reverse).2.1 = [] → m.reverse = []) by
    have := H l.reverse
    rwa [List.reverse_reverse] at this
  intro m
  induction m with
  | nil => exact ⟨rfl, fun _ => rfl⟩
  | cons x m ih =>
    rw [List.reverse_cons, grpScan_snoc]
    obtain ⟨h1, h2⟩ := ih
    generalize grpScan at_ d m.reverse = s at *
    obtain ⟨a, b, c⟩ := s
    simp only at h1 h2
    unfold grpStep
    by_cases hb : b = []
    · subst hb
      simp only [if_true]
      refine ⟨?_, fun h => by simp at h⟩
      have := h2 rfl
      rw [this] at h1 ⊢
      simpa using h1
    · simp only [hb, if_false]
      split
      · refine ⟨?_, fun h => by simp at h⟩
        simp only
        rw [← List.append_assoc, h1]
      · refine ⟨?_, fun h => by simp at h⟩
        simp only [List.flatMap_append, List.flatMap_cons, List.flatMap_nil, List.append_nil]
        rw [h1]

theorem grpScan_cur (l : List α) : (grpScan at_ d l).2.1.length ≤ l.length ∧ (grpScan at_ d l).2.1 = l.drop (l.length - (grpScan at_ d l).2.1.length) := by
  have h := (grpScan_flat at_ d l).1
  generalize (grpScan at_ d l).1.flatMap (·.2) = a at h
  generalize (grpScan at_ d l).2.1 = c at *
  subst h
  simp

theorem grp_count (l : List α) : (groupsOf at_ d l).length ≤ l.length := by
  suffices H : ∀ m : List α, (grpScan at_ d m.reverse).1.length + (if (grpScan at_ d m.reverse).2.1 = [] then 0 else 1) ≤ m.reverse.length by
    have := H l.reverse
    rw [List.reverse_reverse] at this
    unfold groupsOf
    simp only
    split
    · rename_i h; rw [if_pos h] at this; omega
    · rename_i h; rw [if_neg h] at this; rw [List.length_append, List.length_singleton]; omega
  intro m
  induction m with
  | nil => simp [grpScan]
  | cons x m ih =>
    rw [List.reverse_cons, grpScan_snoc, List.length_append, List.length_reverse]
    rw [List.length_reverse] at ih
    generalize grpScan at_ d m.reverse = s at *
    obtain ⟨a, b, c⟩ := s
    unfold grpStep
    simp only [List.length_cons, List.length_nil] at ih ⊢
    by_cases hb : b = []
    · simp only [hb, if_true] at ih ⊢; simp; omega
    · simp only [hb, if_false] at ih ⊢
      split
      · simp; omega
      · simp; omega
theorem grpScan_len (l : List α) : (grpScan at_ d l).1.length ≤ l.length := by
  have := grp_count at_ d l
  unfold groupsOf at this
  simp only at this
  split at this
  · exact this
  · rw [List.length_append] at this; omega
end
end Go.Proofs.Ytohocdbneopooaa
