/- Rolling up: like lists roll up alike; how long what comes out is; rollup.Fine, Coarse, Until; the law's wakes. No condition but the bound. The law's own helper wakes returns true in every world. No condition. -/
import Derived.Test.YtohocdbneopooaaRollRW
import Derived.Test.YtohocdbneopooaaSerRef24
import Derived.Test.YtohocdbneopooaaRSeries
namespace Go.Proofs.Ytohocdbneopooaa
set_option maxRecDepth 100000
open Go.RowKit

/-- what a series shows -/
def Ser.key (x : Ser) : List Lbl × List Smp × List Win := (x.lab.l, x.smp.l, x.win.l)
theorem Ser.Same.key {x y : Ser} (h : y.Same x) : y.key = x.key := by unfold Ser.key; rw [h.lab, h.smp, h.win]
theorem Ser.same_of_key {x y : Ser} (h : y.key = x.key) : y.Same x := by
  unfold Ser.key at h
  simp only [Prod.mk.injEq] at h
  exact ⟨h.1, h.2.1, h.2.2⟩
theorem SersAs.keys {w : World} {base : Nat} {ss L : List Ser} (h : SersAs w base ss L) : L.map Ser.key = ss.map Ser.key := by
  apply List.ext_getElem?
  intro i
  rw [List.getElem?_map, List.getElem?_map]
  rcases Nat.lt_or_ge i ss.length with hi | hi
  · have hi' : i < L.length := by rw [h.len]; exact hi
    rw [List.getElem?_eq_getElem hi, List.getElem?_eq_getElem hi', Option.map_some, Option.map_some, (h.same i _ _ (List.getElem?_eq_getElem hi) (List.getElem?_eq_getElem hi')).key]
  · rw [List.getElem?_eq_none hi, List.getElem?_eq_none (by rw [h.len]; exact hi)]
theorem same_of_keys {L M : List Ser} (h : L.map Ser.key = M.map Ser.key) (i : Nat) (x y : Ser) (hx : L[i]? = some x) (hy : M[i]? = some y) : y.Same x := by
  have h1 : (L.map Ser.key)[i]? = (M.map Ser.key)[i]? := by rw [h]
  rw [List.getElem?_map, List.getElem?_map, hx, hy] at h1
  simp only [Option.map_some, Option.some.injEq] at h1
  exact Ser.same_of_key h1.symm
theorem len_of_keys {L M : List Ser} (h : L.map Ser.key = M.map Ser.key) : L.length = M.length := by
  have := congrArg List.length h
  simpa using this
theorem Shows.keys {L M : List Ser} {R : List (List Lbl × List Win)} (h : Shows L R) (k : Shows M R) : L.map Ser.key = M.map Ser.key := by
  apply List.ext_getElem?
  intro i
  have hl : L.length = M.length := h.len.trans k.len.symm
  rw [List.getElem?_map, List.getElem?_map]
  rcases Nat.lt_or_ge i L.length with hi | hi
  · have hi' : i < M.length := by omega
    rw [List.getElem?_eq_getElem hi, List.getElem?_eq_getElem hi', Option.map_some, Option.map_some, (h.same k i _ _ (List.getElem?_eq_getElem hi) (List.getElem?_eq_getElem hi')).key]
  · rw [List.getElem?_eq_none hi, List.getElem?_eq_none (by omega)]

section
variable {α : Type} (it : List Lbl × List Smp × List Win → List α) (at_ : α → Int) (bad : α → Int) (wn : Int × List α → Win) (d f t : Int)
theorem rollGo_congr : ∀ (L M : List Ser) (out : List (List Lbl × List Win)), L.map Ser.key = M.map Ser.key → rollGo (fun x => it x.key) at_ bad wn d f t L out = rollGo (fun x => it x.key) at_ bad wn d f t M out
  | [], [], _, _ => rfl
  | [], _ :: _, _, h => by simp at h
  | _ :: _, [], _, h => by simp at h
  | x :: L, y :: M, out, h => by
    simp only [List.map_cons, List.cons.injEq] at h
    have hl : x.lab.l = y.lab.l := congrArg Prod.fst h.1
    rw [rollGo, rollGo, h.1, hl]
    split
    · exact rollGo_congr L M _ h.2
    · rfl
theorem rollAll_congr (L M : List Ser) (h : L.map Ser.key = M.map Ser.key) : rollAll (fun x => it x.key) at_ bad wn d f t L = rollAll (fun x => it x.key) at_ bad wn d f t M := by
  unfold rollAll
  rw [rollGo_congr it at_ bad wn d f t L M [] h]
end

section
variable {α : Type} (item : Ser → List α) (at_ : α → Int) (bad : α → Int) (wn : Int × List α → Win) (d f t : Int)
theorem rollGo_small (b : Nat) : ∀ (L : List Ser) (out : List (List Lbl × List Win)), (∀ x ∈ L, x.lab.l.length ≤ b ∧ (item x).length ≤ b) → (∀ r ∈ out, r.1.length ≤ b ∧ r.2.length ≤ b) →
    (∀ r ∈ (rollGo item at_ bad wn d f t L out).1, r.1.length ≤ b ∧ r.2.length ≤ b) ∧ (rollGo item at_ bad wn d f t L out).1.length ≤ out.length + L.length
  | [], out, _, h => ⟨h, by simp [rollGo]⟩
  | x :: L, out, hL, h => by
    rw [rollGo]
    split
    · have hx := hL x (List.mem_cons_self ..)
      have hsmall : ∀ r ∈ (if groupsOf at_ d (inRange at_ f t (item x)) = [] then out else out ++ [(x.lab.l, (groupsOf at_ d (inRange at_ f t (item x))).map wn)]), r.1.length ≤ b ∧ r.2.length ≤ b := by
        split
        · exact h
        · intro r hr
          rcases List.mem_append.1 hr with h1 | h1
          · exact h r h1
          · simp only [List.mem_singleton] at h1
            subst h1
            have h2 := grp_count at_ d (inRange at_ f t (item x))
            have h3 := inRange_le at_ f t (item x)
            exact ⟨hx.1, by simp only [List.length_map]; omega⟩
      obtain ⟨i1, i2⟩ := rollGo_small b L _ (fun y hy => hL y (List.mem_cons_of_mem _ hy)) hsmall
      refine ⟨i1, Nat.le_trans i2 ?_⟩
      split <;> simp <;> omega
    · exact ⟨(fun r hr => (List.not_mem_nil hr).elim), by simp⟩
theorem rollAll_small (b : Nat) (L : List Ser) (hL : ∀ x ∈ L, x.lab.l.length ≤ b ∧ (item x).length ≤ b) :
    (∀ r ∈ (rollAll item at_ bad wn d f t L).1, r.1.length ≤ b ∧ r.2.length ≤ b) ∧ (rollAll item at_ bad wn d f t L).1.length ≤ L.length := by
  unfold rollAll
  split
  · have := rollGo_small item at_ bad wn d f t b L [] hL (by simp)
    simpa using this
  · exact ⟨fun r hr => (List.not_mem_nil hr).elim, Nat.zero_le _⟩
end
/-- what shows rows of few labels and windows fits -/
theorem Shows.fit {L : List Ser} {R : List (List Lbl × List Win)} {w : World} {B : Nat} (h : Shows L R) (ha : ∀ y ∈ L, y.At w B) (hs : ∀ r ∈ R, r.1.length ≤ 1048576 ∧ r.2.length ≤ 1048576) (y : Ser) (hy : y ∈ L) : y.Fit := by
  have h1 : (y.lab.l, y.win.l) ∈ R := by rw [← h.eq]; exact List.mem_map.2 ⟨y, hy, rfl⟩
  have h2 := hs _ h1
  have h3 := ha y hy
  have e1 := h3.lab.2.1
  have e2 := h3.smp.2.1
  have e3 := h3.win.2.1
  have h4 := h.no y hy
  rw [h4] at e2
  simp only [List.length_nil] at e2 h2
  exact ⟨by simp only [reachBytes]; omega, by simp only [reachBytes]; omega, by simp only [reachBytes]; omega⟩

set_option maxHeartbeats 1600000 in
theorem fine_any (d f t : Int) (A : Option Addr) (n cap : Nat) (ss : List Ser) (w : World) (hr : Row w w.heap.size 3 A n (serCells ss)) (hl : ss.length = n) (hn : n ≤ 1048576) (hat : ∀ x ∈ ss, x.At w w.heap.size) (hok : ∀ x ∈ ss, x.Ok 1048576) :
    Calls Try.prog 15 #[.int .i64 d, .int .i64 f, .int .i64 t, .slice A n cap] w
      fun e w' => ∃ v L, e = .returned (.tuple #[v, .int .i64 (rollAllS d f t ss).2]) ∧ RollAt w' w.heap.size 46 v (rollAllS d f t ss).1 L ∧ Below w.heap.size w w' := by
  have HC := hidden (rolledS_any d f t A n cap ss w hr hl hn hat hok)
  clear hr hl hat hok
  go_enter Try.func15, Try.ntmps15
  go_wp2_with fail
  refine HC.out.mono ?_
  rintro e w1 ⟨v, L, rfl, hA, hb⟩
  have HA := hidden hA
  clear hA
  go_wp2
  go_ret2
  exact ⟨_, L, rfl, HA.out, hb⟩

set_option maxHeartbeats 1600000 in
theorem coarse_any (d f t : Int) (A : Option Addr) (n cap : Nat) (ss : List Ser) (w : World) (hr : Row w w.heap.size 3 A n (serCells ss)) (hl : ss.length = n) (hn : n ≤ 1048576) (hat : ∀ x ∈ ss, x.At w w.heap.size) (hok : ∀ x ∈ ss, x.Ok 1048576) :
    Calls Try.prog 19 #[.int .i64 d, .int .i64 f, .int .i64 t, .slice A n cap] w
      fun e w' => ∃ v L, e = .returned (.tuple #[v, .int .i64 (rollAllW d f t ss).2]) ∧ RollAt w' w.heap.size 46 v (rollAllW d f t ss).1 L ∧ Below w.heap.size w w' := by
  have HC := hidden (rolledW_any d f t A n cap ss w hr hl hn hat hok)
  clear hr hl hat hok
  go_enter Try.func19, Try.ntmps19
  go_wp2_with fail
  refine HC.out.mono ?_
  rintro e w1 ⟨v, L, rfl, hA, hb⟩
  have HA := hidden hA
  clear hA
  go_wp2
  go_ret2
  exact ⟨_, L, rfl, HA.out, hb⟩

set_option maxHeartbeats 1600000 in
theorem until_any (d t : Int) (w : World) :
    Calls Try.prog 21 #[.int .i64 d, .int .i64 t] w fun e w' => e = .returned (.tuple #[.int .i64 (beginOf t d).1, .int .i64 (beginOf t d).2]) ∧ w = w' := by
  go_enter Try.func21, Try.ntmps21
  go_wp2_with fail
  refine (start_any _ _ _).mono ?_
  rintro e w' ⟨rfl, rfl⟩
  go_wp2
  go_ret2
  exact ⟨rfl, rfl⟩
end Go.Proofs.Ytohocdbneopooaa

namespace Go.Proofs.Ytohocdbneopooaa
set_option maxRecDepth 100000
open Go.RowKit

def wakeLbl : Lbl := ⟨⟨#[97]⟩, ⟨#[120]⟩⟩
def wakeSmps : List Smp := [⟨3, 0⟩, ⟨9, 0⟩, ⟨25, 0⟩]
theorem wakeR (g0 g1 : Nat) : rollAllS 10 0 20 [⟨⟨some ⟨g0, 0, none⟩, 1, 1, [wakeLbl]⟩, ⟨some ⟨g1, 0, none⟩, 3, 3, wakeSmps⟩, ⟨none, 0, 0, []⟩⟩] = ([([wakeLbl], [smpWin (0, [⟨3, 0⟩, ⟨9, 0⟩])])], 0) := by rfl
theorem wakeW : (smpWin (0, [⟨3, 0⟩, ⟨9, 0⟩])).count = 2 := by rfl

set_option maxHeartbeats 3200000 in
theorem rollWakes_any (w : World) : Calls Try.prog 17 #[] w fun e w' => e = .returned (.bool true) ∧ Below w.heap.size w w' := by
  go_enter Try.func17, Try.ntmps17
  go_wp2_with fail
  obtain ⟨h, hh⟩ : ∃ h, w.heap.size = h := ⟨_, rfl⟩
  have r0 := Row.fresh w 57 2 1 (lblCells [wakeLbl]) rfl
  have r1 := Row.fresh (w.alloc (.cells (lblCells [wakeLbl]).toArray 57)) 55 2 3 (smpCells wakeSmps) rfl
  have r2 := Row.fresh ((w.alloc (.cells (lblCells [wakeLbl]).toArray 57)).alloc (.cells (smpCells wakeSmps).toArray 55)) 46 3 1 (serCells [⟨⟨some ⟨w.heap.size, 0, none⟩, 1, 1, [wakeLbl]⟩, ⟨some ⟨w.heap.size + 1, 0, none⟩, 3, 3, wakeSmps⟩, ⟨none, 0, 0, []⟩⟩]) rfl
  have r0' := (r0.alloc (by simp) (.cells (smpCells wakeSmps).toArray 55)).alloc (by simp) (.cells (serCells [⟨⟨some ⟨w.heap.size, 0, none⟩, 1, 1, [wakeLbl]⟩, ⟨some ⟨w.heap.size + 1, 0, none⟩, 3, 3, wakeSmps⟩, ⟨none, 0, 0, []⟩⟩]).toArray 46)
  have r1' := r1.alloc (by simp) (.cells (serCells [⟨⟨some ⟨w.heap.size, 0, none⟩, 1, 1, [wakeLbl]⟩, ⟨some ⟨w.heap.size + 1, 0, none⟩, 3, 3, wakeSmps⟩, ⟨none, 0, 0, []⟩⟩]).toArray 46)
  rw [World.size_alloc] at r1'
  rw [World.size_alloc, World.size_alloc] at r2
  have hbb : Below w.heap.size w (((w.alloc (.cells (lblCells [wakeLbl]).toArray 57)).alloc (.cells (smpCells wakeSmps).toArray 55)).alloc (.cells (serCells [⟨⟨some ⟨w.heap.size, 0, none⟩, 1, 1, [wakeLbl]⟩, ⟨some ⟨w.heap.size + 1, 0, none⟩, 3, 3, wakeSmps⟩, ⟨none, 0, 0, []⟩⟩]).toArray 46)) :=
    (((Below.refl _ _).alloc (Nat.le_refl _) _).alloc (by simp) _).alloc (by simp; omega) _
  have hsz : (((w.alloc (.cells (lblCells [wakeLbl]).toArray 57)).alloc (.cells (smpCells wakeSmps).toArray 55)).alloc (.cells (serCells [⟨⟨some ⟨w.heap.size, 0, none⟩, 1, 1, [wakeLbl]⟩, ⟨some ⟨w.heap.size + 1, 0, none⟩, 3, 3, wakeSmps⟩, ⟨none, 0, 0, []⟩⟩]).toArray 46)).heap.size = w.heap.size + 1 + 1 + 1 := by simp
  refine (fine_any 10 0 20 (some ⟨w.heap.size + 1 + 1, 0, none⟩) 1 1 [⟨⟨some ⟨w.heap.size, 0, none⟩, 1, 1, [wakeLbl]⟩, ⟨some ⟨w.heap.size + 1, 0, none⟩, 3, 3, wakeSmps⟩, ⟨none, 0, 0, []⟩⟩] _ ?a1 rfl (by omega) ?a2 ?a3).mono ?_
  case a1 => exact r2.more (Nat.le_trans (by omega) (Nat.le_of_eq hsz.symm))
  case a2 =>
    intro x hx
    simp only [List.mem_singleton] at hx
    subst hx
    exact ⟨⟨Nat.le_refl _, rfl, r0'.more (Nat.le_trans (by omega) (Nat.le_of_eq hsz.symm))⟩, ⟨Nat.le_refl _, rfl, r1'.more (Nat.le_trans (by omega) (Nat.le_of_eq hsz.symm))⟩, ⟨Nat.le_refl _, rfl, Row.nil⟩⟩
  case a3 =>
    intro x hx
    simp only [List.mem_singleton] at hx
    subst hx
    refine ⟨fun s hs => ?_, by simp, by show 1 * 32 ≤ 140737488351232; omega, by show 3 * 16 ≤ 140737488351232; omega, by show 0 * 48 ≤ 140737488351232; omega, by show 1 ≤ 1048576 ∧ 3 ≤ 1048576 ∧ 0 ≤ 1048576; omega⟩
    simp only [wakeSmps, List.mem_cons, List.not_mem_nil, or_false] at hs
    rcases hs with rfl | rfl | rfl <;> (refine ⟨?_, ?_, ?_⟩ <;> (try show (_ : Nat) < _) <;> decide)
  rw [wakeR]
  rintro e w4 ⟨v, L, rfl, ⟨hown, hsh, hat, _⟩, hb4⟩
  have hb4' := hbb.trans (hb4.mono hbb.size)
  match L, hsh.len with
  | [y], _ =>
    have hk := hsh.eq
    simp only [List.map_cons, List.map_nil, List.cons.injEq, and_true, Prod.mk.injEq] at hk
    have hy := hat y (List.mem_singleton.2 rfl)
    obtain ⟨⟨Al, nl, cl, ll⟩, ⟨As, ns, cs, ls⟩, ⟨Aw, nw, cw, lw⟩⟩ := y
    obtain ⟨_, _, ⟨_, hwl, hwr⟩⟩ := hy
    simp only at hk hwl hwr
    obtain ⟨rfl, rfl⟩ := hk
    obtain rfl : nw = 1 := hwl.symm
    obtain ⟨g6, c6, rfl, hg6, hg6', hc6, hq⟩ := own_at hown (by simp)
    have q2 : w4.cell? ⟨g6, 2, none⟩ = some (.slice Aw 1 cw) := hq 2 (by simp)
    obtain ⟨g7, o7, rfl, hg7, hq7⟩ := hwr.at_ (by omega)
    have q3 : w4.cell? ⟨g7, o7 + 1, none⟩ = some (.int .i64 2) := (hq7 1 (by omega)).trans (by rw [← wakeW]; rfl)
    clear hq hq7 hown hsh hat r0 r1 r2 r0' r1' hbb hsz hb4
    go_wp2_with fail
    refine (until_any _ _ _).mono ?_
    rw [show beginOf 25 10 = (20, 0) from by decide]
    rintro e w5 ⟨rfl, rfl⟩
    go_wp2_with fail
    go_ret
    exact ⟨rfl, hb4'⟩
end Go.Proofs.Ytohocdbneopooaa
