/- Rolling up, plainly: what a list of series is rolled up into; and such a list in memory. No condition. -/
import Derived.Test.YtohocdbneopooaaSerMem
import Derived.Test.YtohocdbneopooaaClone
import Derived.Test.YtohocdbneopooaaFoldCalls
import Derived.Test.YtohocdbneopooaaFoldRWiden
namespace Go.Proofs.Ytohocdbneopooaa
set_option maxRecDepth 100000
open Go.RowKit

section
variable {α : Type} (item : Ser → List α) (at_ : α → Int) (bad : α → Int) (wn : Int × List α → Win) (d f t : Int)
/-- what of a list lies in the range -/
def inRange (l : List α) : List α := l.filter fun x => decide (f ≤ at_ x) && decide (at_ x < t)
theorem inRange_snoc (l : List α) (x : α) : inRange at_ f t (l ++ [x]) = if f ≤ at_ x ∧ at_ x < t then inRange at_ f t l ++ [x] else inRange at_ f t l := by
  unfold inRange
  rw [List.filter_append]
  by_cases h : f ≤ at_ x ∧ at_ x < t
  · rw [if_pos h]; simp [h.1, h.2]
  · rw [if_neg h]
    have : (decide (f ≤ at_ x) && decide (at_ x < t)) = false := by
      by_cases h1 : f ≤ at_ x
      · have : ¬ at_ x < t := fun h2 => h ⟨h1, h2⟩
        simp [this]
      · simp [h1]
    simp [this]
theorem inRange_le (l : List α) : (inRange at_ f t l).length ≤ l.length := List.length_filter_le _ _
theorem inRange_mem {l : List α} {x : α} (h : x ∈ inRange at_ f t l) : x ∈ l := (List.mem_filter.1 h).1

/-- the rows that come out, and the error -/
def rollGo : List Ser → List (List Lbl × List Win) → List (List Lbl × List Win) × Int
  | [], out => (out, 0)
  | x :: r, out =>
    if errOf at_ bad d (inRange at_ f t (item x)) = 0 then rollGo r (if groupsOf at_ d (inRange at_ f t (item x)) = [] then out else out ++ [(x.lab.l, (groupsOf at_ d (inRange at_ f t (item x))).map wn)])
    else ([], errOf at_ bad d (inRange at_ f t (item x)))
def rollAll (ss : List Ser) : List (List Lbl × List Win) × Int := if errOf at_ bad d [] = 0 then rollGo item at_ bad wn d f t ss [] else ([], errOf at_ bad d [])

theorem rollGo_at {ss : List Ser} {k : Nat} {x : Ser} (h : ss[k]? = some x) (out : List (List Lbl × List Win)) :
    rollGo item at_ bad wn d f t (ss.drop k) out = if errOf at_ bad d (inRange at_ f t (item x)) = 0 then rollGo item at_ bad wn d f t (ss.drop (k + 1)) (if groupsOf at_ d (inRange at_ f t (item x)) = [] then out else out ++ [(x.lab.l, (groupsOf at_ d (inRange at_ f t (item x))).map wn)])
    else ([], errOf at_ bad d (inRange at_ f t (item x))) := by
  have hl := (List.getElem?_eq_some_iff.1 h)
  obtain ⟨hlt, he⟩ := hl
  rw [List.drop_eq_getElem_cons hlt, rollGo, he]
theorem rollGo_end (ss : List Ser) (k : Nat) (h : ss.length ≤ k) (out : List (List Lbl × List Win)) : rollGo item at_ bad wn d f t (ss.drop k) out = (out, 0) := by
  rw [List.drop_eq_nil_of_le h, rollGo]
end

/-- series in memory show these rows -/
structure Shows (L : List Ser) (R : List (List Lbl × List Win)) : Prop where
  eq : L.map (fun y => (y.lab.l, y.win.l)) = R
  no : ∀ y ∈ L, y.smp.l = []
theorem Shows.nil : Shows [] [] := ⟨rfl, fun _ h => by cases h⟩
theorem Shows.snoc {L : List Ser} {R : List (List Lbl × List Win)} (h : Shows L R) (y : Ser) (hs : y.smp.l = []) {r : List Lbl × List Win} (he : (y.lab.l, y.win.l) = r) : Shows (L ++ [y]) (R ++ [r]) :=
  ⟨by rw [List.map_append, h.eq, List.map_cons, List.map_nil, he], fun z hz => by
    rcases List.mem_append.1 hz with h1 | h1
    · exact h.no z h1
    · simp only [List.mem_singleton] at h1; rw [h1]; exact hs⟩
theorem Shows.len {L : List Ser} {R : List (List Lbl × List Win)} (h : Shows L R) : L.length = R.length := by rw [← h.eq, List.length_map]
/-- two lists that show the same rows are alike -/
theorem Shows.same {L M : List Ser} {R : List (List Lbl × List Win)} (h : Shows L R) (k : Shows M R) (i : Nat) (x y : Ser) (hx : L[i]? = some x) (hy : M[i]? = some y) : y.Same x := by
  have h1 : (L.map (fun y => (y.lab.l, y.win.l)))[i]? = (M.map (fun y => (y.lab.l, y.win.l)))[i]? := by rw [h.eq, k.eq]
  rw [List.getElem?_map, List.getElem?_map, hx, hy] at h1
  simp only [Option.map_some, Option.some.injEq, Prod.mk.injEq] at h1
  exact ⟨h1.1.symm, by rw [h.no x (List.mem_of_getElem? hx), k.no y (List.mem_of_getElem? hy)], h1.2.symm⟩

/-- a list of the call's own in memory that shows these rows -/
def RollAt (w : World) (base : Nat) (ty : TypeId) (v : Value) (R : List (List Lbl × List Win)) (L : List Ser) : Prop :=
  w.ownsRow base ty 3 v R.length (serCells L) ∧ Shows L R ∧ (∀ y ∈ L, y.At w w.heap.size) ∧ ∀ y ∈ L, y.Off v.ownBlock
theorem RollAt.start (w : World) (base : Nat) (ty : TypeId) : RollAt w base ty (.slice none 0 0) [] [] := ⟨World.ownsRow_nil _ _ _ _, Shows.nil, by simp, by simp⟩

theorem RollAt.below {w w' : World} {base : Nat} {ty : TypeId} {v : Value} {R : List (List Lbl × List Win)} {L : List Ser} (h : RollAt w base ty v R L) (hb : Below w.heap.size w w') : RollAt w' base ty v R L :=
  ⟨own_below h.1 hb (Nat.le_refl _), h.2.1, fun y hy => ((h.2.2.1 y hy).below hb).more hb.size, h.2.2.2⟩

/-- one series more, appended -/
theorem roll_more {wo W2 w9 : World} {base : Nat} {ty : TypeId} {vo v9 : Value} {L : List Ser} {R : List (List Lbl × List Win)} {y : Ser} {r : List Lbl × List Win} {c : Obj} (hA : RollAt wo base ty vo R L) (hb : Below wo.heap.size wo W2) (hs : y.smp.l = []) (he : (y.lab.l, y.win.l) = r)
    (hy : y.At W2 W2.heap.size) (hyo : y.Off vo.ownBlock) (hg9 : (W2.alloc c).grownBy w9 vo.ownBlock) (hat9 : v9.ownBlock = vo.ownBlock ∨ v9.ownBlock = some (W2.alloc c).heap.size) (ho : w9.ownsRow base ty 3 v9 (R.length + 1) (serCells L ++ [y.lab.val, y.smp.val, y.win.val])) :
    RollAt w9 base ty v9 (R ++ [r]) (L ++ [y]) := by
  obtain ⟨h1, h2, h3, h4⟩ := hA
  have hall : ∀ z ∈ L ++ [y], z.At W2 W2.heap.size ∧ z.Off vo.ownBlock := by
    intro z hz
    rcases List.mem_append.1 hz with h | h
    · exact ⟨((h3 z h).below hb).more hb.size, h4 z h⟩
    · simp only [List.mem_singleton] at h
      subst h
      exact ⟨hy, hyo⟩
  have hs9 := hg9.size
  simp only [World.size_alloc] at hs9
  refine ⟨by rw [serCells_snoc, List.length_append]; exact ho, h2.snoc y hs he, fun z hz => ?_, fun z hz => ?_⟩
  · obtain ⟨a, b⟩ := hall z hz
    exact ((a.alloc (Nat.le_refl _) c).grown hg9 b (by simp)).more (by omega)
  · obtain ⟨a, b⟩ := hall z hz
    rcases hat9 with h | h
    · rw [h]; exact b
    · rw [h]; exact a.off (by simp)

/-! slices.Clone at labels -/
theorem info_lbl : (Try.prog.info? 57).map (fun i => (i.zero, i.size, i.bytes)) = some (some (.agg #[.string ByteArray.empty, .string ByteArray.empty]), 2, 32) := by kernel_rfl
theorem lblCells_one (l : List Lbl) : ∀ u ∈ lblCells l, u.oneCell' = true := by
  intro u hu
  simp only [lblCells, Lbl.cells, List.mem_flatMap, List.mem_cons, List.not_mem_nil, or_false] at hu
  obtain ⟨s, _, rfl | rfl⟩ := hu <;> rfl

set_option maxHeartbeats 1600000 in
theorem cloneL_any (A : Option Addr) (n c : Nat) (l : List Lbl) (w : World) (hr : Row w w.heap.size 2 A n (lblCells l)) (hl : l.length = n) (hn : n * 32 ≤ 140737488351232) :
    Calls Try.prog 57 #[.slice A n c] w fun e w' => ∃ s : Sl Lbl, e = .returned s.val ∧ s.l = l ∧ s.n = n ∧ s.At w' w'.heap.size 2 Lbl.cells ∧ (∀ j, j < w.heap.size → s.Off (some j)) ∧ Below w.heap.size w w' := by
  obtain ⟨i0, hi, hz0, hz1, hz2⟩ := info_parts info_lbl
  have hL := hidden hl
  clear hl
  cases A with
  | none =>
    have hn0 : n = 0 := by
      rcases Nat.eq_zero_or_pos n with h | h
      · exact h
      · obtain ⟨_, _, h', _⟩ := hr.at_ h
        cases h'
    subst hn0
    have h1 := fun w : World => Lib.run_eql_slice_nil (P := Try.prog) w 42 57 none 0 c 0 0 Try.underlying42
    go_enter Try.func57, Try.ntmps57
    go_wp2
    go_ret
    exact ⟨⟨none, 0, 0, l⟩, rfl, rfl, rfl, ⟨Nat.le_refl _, hL.out, hr⟩, fun j _ hn => by simp at hn, Below.refl _ _⟩
  | some a =>
    have h1 := fun w : World => Lib.run_eql_slice_nil (P := Try.prog) w 42 57 (some a) n c 0 0 Try.underlying42
    go_enter Try.func57, Try.ntmps57
    go_wp2_with (at_builtin; refine wpList_clone _ rfl _ _ 42 rfl 57 i0 _ 2 32 Try.underlying42 hi hz0 hz1 hz2 rfl (by decide) _ rfl w.heap.size _ _ _ _ rfl (hr.alloc (Nat.le_refl _) _) (lblCells_one l) (by unfold maxLen; omega) (by omega) ?_; intro v1 w1 hg1 hown1)
    go_ret
    have hb1 : Below w.heap.size w w1 := ((Below.refl _ _).alloc (Nat.le_refl _) _).grown hg1 (by simp) (fun j hj => by cases hj)
    rcases hown1 with ⟨rfl, rfl⟩ | hown1
    · have hl0 : l = [] := List.eq_nil_of_length_eq_zero hL.out
      subst hl0
      exact ⟨⟨_, 0, 0, []⟩, rfl, rfl, rfl, ⟨Nat.le_refl _, rfl, ⟨rfl, fun h => absurd h (by simp)⟩⟩, fun j _ hn => by simp at hn, hb1⟩
    · obtain ⟨A1, c1, rfl, hc1, hr1⟩ := own_shape hown1
      exact ⟨⟨A1, n, c1, l⟩, rfl, rfl, rfl, ⟨hc1, hL.out, hr1⟩, fun j hj => Sl.off_own hown1 (by simp; omega), hb1⟩
end Go.Proofs.Ytohocdbneopooaa
