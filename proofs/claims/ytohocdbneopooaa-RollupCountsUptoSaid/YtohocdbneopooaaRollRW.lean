/- Rolling up, plainly: what a list of series is rolled up into; and such a list in memory. No condition. rollup.rolled and the reference's Fine | Coarse: what they return. Condition: the lists are within the bound. rollup.rolled at windows: what it returns. Condition: the lists are within the bound. The reference's Fine: what it returns. Condition: the lists are within the bound. The reference's Coarse: what it returns. Condition: the lists are within the bound. -/
import Derived.Test.YtohocdbneopooaaSerMem
import Derived.Test.YtohocdbneopooaaCloneL
import Derived.Test.YtohocdbneopooaaFoldCalls
import Derived.Test.YtohocdbneopooaaFoldRWiden
namespace Go.Proofs.Ytohocdbneopooaa
set_option maxRecDepth 100000
open Go.RowKit

section
variable {α : Type} (item : Ser → List α) (at_ : α → Int) (bad : α → Int) (wn : Int × List α → Win) (d f t : Int)
/-- what of a list lies in the range -/
def inRange (l : List α) : List α := l.filter fun x => decide (f ≤ at_ x) && decide (at_ x < t)
theorem inRange_snoc (l : List α) (x : α) : inRange at_ f t (l ++ [x]) = if f ≤ at_ x ∧ at_ x < t then inRange at_ f t l ++ [x] else inRange at_ f t l := by
  unfold inRange
  rw [List.filter_append]
  by_cases h : f ≤ at_ x ∧ at_ x < t
  · rw [if_pos h]; simp [h.1, h.2]
  · rw [if_neg h]
    have : (decide (f ≤ at_ x) && decide (at_ x < t)) = false := by
      by_cases h1 : f ≤ at_ x
      · have : ¬ at_ x < t := fun h2 => h ⟨h1, h2⟩
        simp [this]
      · simp [h1]
    simp [this]
theorem inRange_le (l : List α) : (inRange at_ f t l).length ≤ l.length := List.length_filter_le _ _
theorem inRange_mem {l : List α} {x : α} (h : x ∈ inRange at_ f t l) : x ∈ l := (List.mem_filter.1 h).1

/-- the rows that come out, and the error -/
def rollGo : List Ser → List (List Lbl × List Win) → List (List Lbl × List Win) × Int
  | [], out => (out, 0)
  | x :: r, out =>
    if errOf at_ bad d (inRange at_ f t (item x)) = 0 then rollGo r (if groupsOf at_ d (inRange at_ f t (item x)) = [] then out else out ++ [(x.lab.l, (groupsOf at_ d (inRange at_ f t (item x))).map wn)])
    else ([], errOf at_ bad d (inRange at_ f t (item x)))
def rollAll (ss : List Ser) : List (List Lbl × List Win) × Int := if errOf at_ bad d [] = 0 then rollGo item at_ bad wn d f t ss [] else ([], errOf at_ bad d [])

theorem rollGo_at {ss : List Ser} {k : Nat} {x : Ser} (h : ss[k]? = some x) (out : List (List Lbl × List Win)) :
    rollGo item at_ bad wn d f t (ss.drop k) out = if errOf at_ bad d (inRange at_ f t (item x)) = 0 then rollGo item at_ bad wn d f t (ss.drop (k + 1)) (if groupsOf at_ d (inRange at_ f t (item x)) = [] then out else out ++ [(x.lab.l, (groupsOf at_ d (inRange at_ f t (item x))).map wn)])
    else ([], errOf at_ bad d (inRange at_ f t (item x))) := by
  have hl := (List.getElem?_eq_some_iff.1 h)
  obtain ⟨hlt, he⟩ := hl
  rw [List.drop_eq_getElem_cons hlt, rollGo, he]
theorem rollGo_end (ss : List Ser) (k : Nat) (h : ss.length ≤ k) (out : List (List Lbl × List Win)) : rollGo item at_ bad wn d f t (ss.drop k) out = (out, 0) := by
  rw [List.drop_eq_nil_of_le h, rollGo]
end

/-- series in memory show these rows -/
structure Shows (L : List Ser) (R : List (List Lbl × List Win)) : Prop where
  eq : L.map (fun y => (y.lab.l, y.win.l)) = R
  no : ∀ y ∈ L, y.smp.l = []
theorem Shows.nil : Shows [] [] := ⟨rfl, fun _ h => by cases h⟩
theorem Shows.snoc {L : List Ser} {R : List (List Lbl × List Win)} (h : Shows L R) (y : Ser) (hs : y.smp.l = []) {r : List Lbl × List Win} (he : (y.lab.l, y.win.l) = r) : Shows (L ++ [y]) (R ++ [r]) :=
  ⟨by rw [List.map_append, h.eq, List.map_cons, List.map_nil, he], fun z hz => by
    rcases List.mem_append.1 hz with h1 | h1
    · exact h.no z h1
    · simp only [List.mem_singleton] at h1; rw [h1]; exact hs⟩
theorem Shows.len {L : List Ser} {R : List (List Lbl × List Win)} (h : Shows L R) : L.length = R.length := by rw [← h.eq, List.length_map]
/-- two lists that show the same rows are alike -/
theorem Shows.same {L M : List Ser} {R : List (List Lbl × List Win)} (h : Shows L R) (k : Shows M R) (i : Nat) (x y : Ser) (hx : L[i]? = some x) (hy : M[i]? = some y) : y.Same x := by
  have h1 : (L.map (fun y => (y.lab.l, y.win.l)))[i]? = (M.map (fun y => (y.lab.l, y.win.l)))[i]? := by rw [h.eq, k.eq]
  rw [List.getElem?_map, List.getElem?_map, hx, hy] at h1
  simp only [Option.map_some, Option.some.injEq, Prod.mk.injEq] at h1
  exact ⟨h1.1.symm, by rw [h.no x (List.mem_of_getElem? hx), k.no y (List.mem_of_getElem? hy)], h1.2.symm⟩

/-- a list of the call's own in memory that shows these rows -/
def RollAt (w : World) (base : Nat) (ty : TypeId) (v : Value) (R : List (List Lbl × List Win)) (L : List Ser) : Prop :=
  w.ownsRow base ty 3 v R.length (serCells L) ∧ Shows L R ∧ (∀ y ∈ L, y.At w w.heap.size) ∧ ∀ y ∈ L, y.Off v.ownBlock
theorem RollAt.start (w : World) (base : Nat) (ty : TypeId) : RollAt w base ty (.slice none 0 0) [] [] := ⟨World.ownsRow_nil _ _ _ _, Shows.nil, by simp, by simp⟩

theorem RollAt.below {w w' : World} {base : Nat} {ty : TypeId} {v : Value} {R : List (List Lbl × List Win)} {L : List Ser} (h : RollAt w base ty v R L) (hb : Below w.heap.size w w') : RollAt w' base ty v R L :=
  ⟨own_below h.1 hb (Nat.le_refl _), h.2.1, fun y hy => ((h.2.2.1 y hy).below hb).more hb.size, h.2.2.2⟩

/-- one series more, appended -/
theorem roll_more {wo W2 w9 : World} {base : Nat} {ty : TypeId} {vo v9 : Value} {L : List Ser} {R : List (List Lbl × List Win)} {y : Ser} {r : List Lbl × List Win} {c : Obj} (hA : RollAt wo base ty vo R L) (hb : Below wo.heap.size wo W2) (hs : y.smp.l = []) (he : (y.lab.l, y.win.l) = r)
    (hy : y.At W2 W2.heap.size) (hyo : y.Off vo.ownBlock) (hg9 : (W2.alloc c).grownBy w9 vo.ownBlock) (hat9 : v9.ownBlock = vo.ownBlock ∨ v9.ownBlock = some (W2.alloc c).heap.size) (ho : w9.ownsRow base ty 3 v9 (R.length + 1) (serCells L ++ [y.lab.val, y.smp.val, y.win.val])) :
    RollAt w9 base ty v9 (R ++ [r]) (L ++ [y]) := by
  obtain ⟨h1, h2, h3, h4⟩ := hA
  have hall : ∀ z ∈ L ++ [y], z.At W2 W2.heap.size ∧ z.Off vo.ownBlock := by
    intro z hz
    rcases List.mem_append.1 hz with h | h
    · exact ⟨((h3 z h).below hb).more hb.size, h4 z h⟩
    · simp only [List.mem_singleton] at h
      subst h
      exact ⟨hy, hyo⟩
  have hs9 := hg9.size
  simp only [World.size_alloc] at hs9
  refine ⟨by rw [serCells_snoc, List.length_append]; exact ho, h2.snoc y hs he, fun z hz => ?_, fun z hz => ?_⟩
  · obtain ⟨a, b⟩ := hall z hz
    exact ((a.alloc (Nat.le_refl _) c).grown hg9 b (by simp)).more (by omega)
  · obtain ⟨a, b⟩ := hall z hz
    rcases hat9 with h | h
    · rw [h]; exact b
    · rw [h]; exact a.off (by simp)
end Go.Proofs.Ytohocdbneopooaa

namespace Go.Proofs.Ytohocdbneopooaa
set_option maxRecDepth 100000
open Go.RowKit

set_option maxHeartbeats 400000 in
theorem ofS_any (A B C : Option Addr) (n1 c1 n2 c2 n3 c3 : Nat) (w : World) :
    Calls Try.prog 42 #[.agg #[.slice A n1 c1, .slice B n2 c2, .slice C n3 c3]] w fun e w' => e = .returned (.slice B n2 c2) ∧ Below w.heap.size w w' := by
  go_enter Try.func42, Try.ntmps42
  go_wp2
  go_ret
  exact ⟨rfl, (Below.refl _ _).alloc (Nat.le_refl _) _⟩
set_option maxHeartbeats 400000 in
theorem timeS_any (x0 x1 : Int) (w : World) :
    Calls Try.prog 43 #[.agg #[.int .i64 x0, .int .u64 x1]] w fun e w' => e = .returned (.int .i64 x0) ∧ Below w.heap.size w w' := by
  go_enter Try.func43, Try.ntmps43
  go_wp2
  go_ret
  exact ⟨rfl, (Below.refl _ _).alloc (Nat.le_refl _) _⟩

abbrev rollS (d f t : Int) : List Ser → List (List Lbl × List Win) → List (List Lbl × List Win) × Int := rollGo (fun x => x.smp.l) Smp.t (fun _ => 0) smpWin d f t
abbrev rollAllS (d f t : Int) : List Ser → List (List Lbl × List Win) × Int := rollAll (fun x => x.smp.l) Smp.t (fun _ => 0) smpWin d f t

set_option maxRecDepth 100000 in
set_option maxHeartbeats 6400000 in
theorem rolledS_any (d f t : Int) (A : Option Addr) (n cap : Nat) (ss : List Ser) (w : World) (hr : Row w w.heap.size 3 A n (serCells ss)) (hl : ss.length = n) (hn : n ≤ 1048576) (hat : ∀ x ∈ ss, x.At w w.heap.size) (hok : ∀ x ∈ ss, x.Ok 1048576) :
    Calls Try.prog 41 #[.int .i64 d, .int .i64 f, .int .i64 t, .slice A n cap, .func (.func 42) #[] #[], .func (.func 43) #[] #[], .func (.func 44) #[] #[]] w
      fun e w' => ∃ v L, e = .returned (.tuple #[v, .int .i64 (rollAllS d f t ss).2]) ∧ RollAt w' w.heap.size 46 v (rollAllS d f t ss).1 L ∧ Below w.heap.size w w' := by
  obtain ⟨i0, hi, hz0, hz1, hz2⟩ := info_parts info_ser
  obtain ⟨i1, hi1, hz10, hz11, hz12⟩ := info_parts info_smp
  have hL := hidden hl
  clear hl
  go_enter Try.func41, Try.ntmps41
  go_wp2_with fail
  refine (windows_calls d none 0 0 [] _ Row.nil rfl (Nat.le_refl _) (by omega) (by simp)).mono ?_
  rintro e w1 ⟨v0, rfl, hG0, hb0⟩
  by_cases he0 : errOf Smp.t (fun _ => 0) d [] = 0
  · rw [he0]
    have hR : rollAllS d f t ss = rollS d f t ss [] := if_pos he0
    have HR := hidden hR
    clear hG0 he0 hR
    go_wp2_with fail
    go_loopw [18, 38] (fun v i wr => ∃ (k : Nat) (L : List Ser) (R : List (List Lbl × List Win)) (vo : Value), vo = v ∧ k ≤ n ∧ i = .int .i64 k ∧ Hid (rollS d f t (ss.drop k) R = rollS d f t ss []) ∧ RollAt wr w.heap.size 46 v R L ∧ R.length ≤ k ∧ Below w.heap.size w wr) (fun _ i _ => n - (intOf i).toNat)
    case atStart => exact ⟨0, [], [], _, rfl, Nat.zero_le _, rfl, rfl, RollAt.start _ _ _, Nat.le_refl _, hb0⟩
    case round =>
      obtain ⟨k, L, R, vo, rfl, hk, rfl, hgo, hA, hRk, hb⟩ := hrel
      by_cases hlt : k < n
      · obtain ⟨wo, rfl⟩ : ∃ wo : World, wo = wr := ⟨_, rfl⟩
        obtain ⟨gs, o, rfl, hgs, x, hx, c0, c1, c2⟩ := ser_cells_at hr hL.out hb k hlt
        have hxm := List.mem_of_getElem? hx
        have hxa := (hat x hxm).below hb
        have hxo := hok x hxm
        have hst := rollGo_at (fun x : Ser => x.smp.l) Smp.t (fun _ => 0) smpWin d f t hx R
        obtain ⟨⟨Al, nl, cl, ll⟩, ⟨As, ns, cs, ls⟩, ⟨Aw, nw, cw, lw⟩⟩ := x
        simp only [Sl.val] at c0 c1 c2
        obtain ⟨⟨hlc, hll, hrl⟩, ⟨hsc, hls, hrs⟩, _⟩ := hxa
        simp only at hlc hll hrl hsc hls hrs hst
        obtain ⟨oks, _, bl, bs, bw, fl, fs, fw⟩ := hxo
        simp only [reachBytes] at bl bs bw fl fs fw
        have hbs := hb.size
        have hr1 : Row w w.heap.size 2 As ns (smpCells ls) := (hat _ hxm).smp.2.2
        have hgoS : Hid _ := hidden (hst.symm.trans hgo.out)
        have HRS := hidden hr
        clear hst hgo hr
        go_wp2_with fail
        refine (ofS_any Al As Aw nl cl ns cs nw cw _).mono ?_
        rintro e w2 ⟨rfl, hb2⟩
        have hg5 : Whole1 w2 wo.heap.size 46 #[.slice Al nl cl, .slice As ns cs, .slice Aw nw cw] := (Whole1.new wo _ _).below hb2 (by simp)
        have hbw2 : Below wo.heap.size wo w2 := ((Below.refl _ _).alloc (Nat.le_refl _) _).trans (hb2.mono (by simp))
        have hw2s : wo.heap.size + 1 ≤ w2.heap.size := by have := hb2.size; simpa using this
        clear hb2 c0 c1 c2
        go_wp2_with fail
        go_loopw [21, 46] (fun v i wx => ∃ j : Nat, j ≤ ns ∧ i = .int .i64 j ∧ wx.ownsRow w2.heap.size 55 2 v (inRange Smp.t f t (ls.take j)).length (smpCells (inRange Smp.t f t (ls.take j))) ∧ Below w2.heap.size w2 wx) (fun _ i _ => ns - (intOf i).toNat)
        case atStart => exact ⟨0, Nat.zero_le _, rfl, World.ownsRow_nil _ _ _ _, Below.refl _ _⟩
        case round =>
          obtain ⟨j, hj, rfl, ho, hbx⟩ := hrel
          by_cases hjn : j < ns
          · obtain ⟨g7, o7, rfl, y, hy, d0, d1⟩ := smp_cells_at hr1 hls ((hb.trans (hbw2.mono hbs)).trans (hbx.mono (by omega))) j hjn
            have hT := hidden (take_snoc? hy)
            have hI := inRange_snoc Smp.t f t (ls.take j) y
            rw [← hT.out] at hI
            obtain ⟨y0, y1⟩ := y
            simp only at d0 d1 hI
            have hIl : (inRange Smp.t f t (ls.take j)).length ≤ j := Nat.le_trans (inRange_le _ _ _ _) (by rw [List.length_take]; omega)
            have hxs := hbx.size
            clear hy
            go_wp2_with fail
            refine (timeS_any y0 _ _).mono ?_
            rintro e w3 ⟨rfl, hb3⟩
            have h6 : Whole1 w3 wr.heap.size 55 #[.int .i64 y0, .int .u64 ((y1 : Nat) : Int)] := (Whole1.new wr _ _).below hb3 (by simp)
            have ho3 : w3.ownsRow w2.heap.size 55 2 _ _ _ := own_below (ho.alloc _) hb3 (Nat.le_refl _)
            have hb3' : Below w2.heap.size w2 w3 := (hbx.alloc hxs _).trans (hb3.mono (by simp; omega))
            have q0 := h6.cell 0
            have q1 := h6.cell 1
            have hIL := hidden hIl
            clear hb3 h6 d0 d1 hIl ho
            by_cases hin : f ≤ y0 ∧ y0 < t
            · obtain ⟨hin1, hin2⟩ := hin
              rw [if_pos ⟨hin1, hin2⟩] at hI
              have HI := hidden hI
              clear hI
              have hfr := Row.fresh w3 55 2 1 [.int .i64 y0, .int .u64 ((y1 : Nat) : Int)] rfl
              go_wp2_with (at_builtin; refine wpList_app _ rfl _ _ 43 rfl w2.heap.size 55 i1 _ 2 16 Try.underlying43 hi1 hz10 hz11 hz12 rfl (by decide) _ _ _ rfl (ho3.alloc _) _ _ _ _ _ rfl hfr (by simp [Value.oneCell']) (by have := hIL.out; unfold maxLen; omega) (by have := hIL.out; omega) (by have := hb3'.size; simp; omega) ?_; intro v9 w9 hown9 hg9 hat9)
              go_roundw
              case rel =>
                refine ⟨j + 1, by omega, by go_num, ?_, (hb3'.alloc hb3'.size _).grown hg9 (by have := hb3'.size; simp; omega) (fun q hq => (ho3.lt q hq).1)⟩
                rw [HI.out, List.length_append, List.length_singleton, smpCells_snoc]; exact hown9
              case measure => simp [intOf]; omega
            · rw [if_neg hin] at hI
              have HI := hidden hI
              clear hI
              by_cases hin1 : f ≤ y0
              · have hin2 : ¬ y0 < t := fun h => hin ⟨hin1, h⟩
                clear hin
                go_wp2_with fail
                go_roundw
                case rel => exact ⟨j + 1, by omega, by go_num, by rw [HI.out]; exact ho3, hb3'⟩
                case measure => simp [intOf]; omega
              · clear hin
                go_wp2_with fail
                go_roundw
                case rel => exact ⟨j + 1, by omega, by go_num, by rw [HI.out]; exact ho3, hb3'⟩
                case measure => simp [intOf]; omega
          · obtain rfl : ns = j := by omega
            obtain ⟨w4, rfl⟩ : ∃ w4 : World, w4 = wr := ⟨_, rfl⟩
            rw [List.take_of_length_le (by rw [hls]; exact Nat.le_refl _)] at ho
            have hIl : (inRange Smp.t f t ls).length ≤ 1048576 := Nat.le_trans (inRange_le _ _ _ _) (by omega)
            have hIo : ∀ s ∈ inRange Smp.t f t ls, s.ok := fun s hs => (oks s (inRange_mem _ _ _ hs)).1
            obtain ⟨A4, k4, rfl, hk4, hr4⟩ := own_shape ho
            have hbw4 := hbw2.trans (hbx.mono (by omega))
            have q5 := hg5.below hbx (by omega)
            generalize inRange Smp.t f t ls = I at *
            clear ho hbx
            go_wp2_with fail
            refine (windows_calls d A4 I.length k4 I _ hr4 rfl hk4 (by omega) hIo).mono ?_
            rintro e w5 ⟨v5, rfl, hG5, hb5⟩
            have hbw5 := hbw4.trans (hb5.mono hbw4.size)
            have q6 := q5.below hb5 (by have := hbw4.size; have := q5.lt; omega)
            by_cases he : errOf Smp.t (fun _ => 0) d I = 0
            · rw [he]
              unfold GrpResS at hG5
              rw [if_pos he] at hG5
              have hgo1 := hgoS.out
              rw [if_pos he] at hgo1
              obtain ⟨A5, k5, rfl, hk5, hr5⟩ := own_shape hG5
              generalize groupsOf Smp.t d I = G at *
              by_cases hg : G = []
              · rw [if_pos hg] at hgo1
                subst hg
                have HG := hidden hgo1
                clear hgo1 hG5 hr5 he hgoS
                go_wp2_with fail
                go_roundw
                case rel => exact ⟨k + 1, L, R, vo, rfl, by omega, by go_num, HG.out, hA.below hbw5, by omega, hb.trans (hbw5.mono hbs)⟩
                case measure => simp [intOf]; omega
              · rw [if_neg hg] at hgo1
                have hgl : 0 < G.length := List.length_pos_iff.2 hg
                have hglz : (0 : Int) < (G.length : Int) := by omega
                have HG := hidden hgo1
                have q7 := q6.cell 0
                have hr6 : Row w5 w5.heap.size 2 Al nl (lblCells ll) := (hrl.below (hbw5.mono hbs)).more (Nat.le_trans hbs hbw5.size)
                clear hgo1 he hgoS
                go_wp2_with fail
                refine (cloneL_any Al nl cl ll _ hr6 hll (by omega)).mono ?_
                rintro e w6 ⟨⟨A6, n6, c6, l6⟩, rfl, rfl, rfl, hsa, hso, hb6⟩
                have hbw6 := hbw5.trans (hb6.mono hbw5.size)
                have hA6 := hA.1.alloc
                have hfr := Row.fresh w6 46 3 1 [.slice A6 n6 c6, .slice none 0 0, .slice A5 G.length k5] rfl
                have hov := hA.below hbw6
                simp only [Sl.val]
                clear hr6 q7
                go_wp2_with (at_builtin; refine wpList_app _ rfl _ _ 24 rfl w.heap.size 46 i0 _ 3 72 Try.underlying24 hi hz0 hz1 hz2 rfl (by decide) _ _ _ rfl (hov.1.alloc _) _ _ _ _ _ rfl hfr (by simp [Value.oneCell']) (by unfold maxLen; omega) (by omega) (by have := hbw6.size; simp; omega) ?_; intro v9 w9 hown9 hg9 hat9)
                go_roundw
                case rel =>
                  have hm := roll_more (y := ⟨⟨A6, n6, c6, l6⟩, ⟨none, 0, 0, []⟩, ⟨A5, G.length, k5, G.map smpWin⟩⟩) (r := (l6, G.map smpWin)) hA hbw6 rfl rfl ⟨hsa, ⟨Nat.le_refl _, rfl, Row.nil⟩, ⟨hk5, by simp, (hr5.below hb6).more hb6.size⟩⟩ (by
                    cases hvb : vo.ownBlock with
                    | none => exact Ser.off_none _
                    | some q =>
                      have hq := (hA.1.lt q hvb).2
                      exact ⟨hso q (by have := hbw5.size; omega), fun h => absurd h (by simp), Sl.off_own hG5 (by have := hbw4.size; omega)⟩) hg9 hat9 hown9
                  exact ⟨k + 1, _, _, v9, rfl, by omega, by go_num, HG.out, hm, by simp; omega, ((hb.trans (hbw6.mono hbs)).alloc (by have := hbw6.size; omega) _).grown hg9 (by have := hbw6.size; simp; omega) (fun q hq => (hA.1.lt q hq).1)⟩
                case measure => simp [intOf]; omega
            · have hgo1 := hgoS.out
              rw [if_neg he] at hgo1
              have HG := hidden (HR.out.trans hgo1.symm)
              generalize errOf Smp.t (fun _ => 0) d I = ee at *
              have t1 : (ee != 0) = true := by simpa using he
              clear hgo1 hgoS hG5 he
              go_wp2_with fail
              go_ret2
              exact ⟨_, [], by rw [HG.out]; rfl, by rw [HG.out]; exact RollAt.start _ _ _, hb.trans (hbw5.mono hbs)⟩
      · obtain rfl : n = k := by omega
        have he := rollGo_end (fun x : Ser => x.smp.l) Smp.t (fun _ => 0) smpWin d f t ss n (by rw [hL.out]; exact Nat.le_refl _) R
        have HG := hidden (HR.out.trans (hgo.out.symm.trans he))
        clear he hgo
        go_wp2
        go_ret2
        exact ⟨_, L, by rw [HG.out]; rfl, by rw [HG.out]; exact hA, hb⟩
  · have hR : rollAllS d f t ss = ([], errOf Smp.t (fun _ => 0) d []) := if_neg he0
    have HR := hidden hR
    generalize errOf Smp.t (fun _ => 0) d [] = ee at *
    have t1 : (ee != 0) = true := by simpa using he0
    clear hG0 he0 hR
    go_wp2
    go_ret2
    exact ⟨_, [], by rw [HR.out]; rfl, by rw [HR.out]; exact RollAt.start _ _ _, hb0⟩
end Go.Proofs.Ytohocdbneopooaa

namespace Go.Proofs.Ytohocdbneopooaa
set_option maxRecDepth 100000
open Go.RowKit

set_option maxHeartbeats 400000 in
theorem ofW_any (A B C : Option Addr) (n1 c1 n2 c2 n3 c3 : Nat) (w : World) :
    Calls Try.prog 48 #[.agg #[.slice A n1 c1, .slice B n2 c2, .slice C n3 c3]] w fun e w' => e = .returned (.slice C n3 c3) ∧ Below w.heap.size w w' := by
  go_enter Try.func48, Try.ntmps48
  go_wp2
  go_ret
  exact ⟨rfl, (Below.refl _ _).alloc (Nat.le_refl _) _⟩
set_option maxHeartbeats 400000 in
theorem timeW_any (x0 x1 : Int) (x2 x3 x4 x5 : Nat) (w : World) :
    Calls Try.prog 49 #[.agg #[.int .i64 x0, .int .i64 x1, .int .u64 (x2 : Nat), .int .u64 (x3 : Nat), .int .u64 (x4 : Nat), .int .u64 (x5 : Nat)]] w fun e w' => e = .returned (.int .i64 x0) ∧ Below w.heap.size w w' := by
  go_enter Try.func49, Try.ntmps49
  go_wp2
  go_ret
  exact ⟨rfl, (Below.refl _ _).alloc (Nat.le_refl _) _⟩

abbrev rollW (d f t : Int) : List Ser → List (List Lbl × List Win) → List (List Lbl × List Win) × Int := rollGo (fun x => x.win.l) Win.start badWin winWin d f t
abbrev rollAllW (d f t : Int) : List Ser → List (List Lbl × List Win) × Int := rollAll (fun x => x.win.l) Win.start badWin winWin d f t

set_option maxRecDepth 100000 in
set_option maxHeartbeats 6400000 in
theorem rolledW_any (d f t : Int) (A : Option Addr) (n cap : Nat) (ss : List Ser) (w : World) (hr : Row w w.heap.size 3 A n (serCells ss)) (hl : ss.length = n) (hn : n ≤ 1048576) (hat : ∀ x ∈ ss, x.At w w.heap.size) (hok : ∀ x ∈ ss, x.Ok 1048576) :
    Calls Try.prog 47 #[.int .i64 d, .int .i64 f, .int .i64 t, .slice A n cap, .func (.func 48) #[] #[], .func (.func 49) #[] #[], .func (.func 50) #[] #[]] w
      fun e w' => ∃ v L, e = .returned (.tuple #[v, .int .i64 (rollAllW d f t ss).2]) ∧ RollAt w' w.heap.size 46 v (rollAllW d f t ss).1 L ∧ Below w.heap.size w w' := by
  obtain ⟨i0, hi, hz0, hz1, hz2⟩ := info_parts info_ser
  obtain ⟨i1, hi1, hz10, hz11, hz12⟩ := info_parts info_win
  have hL := hidden hl
  clear hl
  go_enter Try.func47, Try.ntmps47
  go_wp2_with fail
  refine (widen_calls d none 0 0 [] _ Row.nil rfl (Nat.le_refl _) (by omega) (by simp)).mono ?_
  rintro e w1 ⟨v0, rfl, hG0, hb0⟩
  by_cases he0 : errOf Win.start badWin d [] = 0
  · rw [he0]
    have hR : rollAllW d f t ss = rollW d f t ss [] := if_pos he0
    have HR := hidden hR
    clear hG0 he0 hR
    go_wp2_with fail
    go_loopw [18, 38] (fun v i wr => ∃ (k : Nat) (L : List Ser) (R : List (List Lbl × List Win)) (vo : Value), vo = v ∧ k ≤ n ∧ i = .int .i64 k ∧ Hid (rollW d f t (ss.drop k) R = rollW d f t ss []) ∧ RollAt wr w.heap.size 46 v R L ∧ R.length ≤ k ∧ Below w.heap.size w wr) (fun _ i _ => n - (intOf i).toNat)
    case atStart => exact ⟨0, [], [], _, rfl, Nat.zero_le _, rfl, rfl, RollAt.start _ _ _, Nat.le_refl _, hb0⟩
    case round =>
      obtain ⟨k, L, R, vo, rfl, hk, rfl, hgo, hA, hRk, hb⟩ := hrel
      by_cases hlt : k < n
      · obtain ⟨wo, rfl⟩ : ∃ wo : World, wo = wr := ⟨_, rfl⟩
        obtain ⟨gs, o, rfl, hgs, x, hx, c0, c1, c2⟩ := ser_cells_at hr hL.out hb k hlt
        have hxm := List.mem_of_getElem? hx
        have hxa := (hat x hxm).below hb
        have hxo := hok x hxm
        have hst := rollGo_at (fun x : Ser => x.win.l) Win.start badWin winWin d f t hx R
        obtain ⟨⟨Al, nl, cl, ll⟩, ⟨As, ns, cs, ls⟩, ⟨Aw, nw, cw, lw⟩⟩ := x
        simp only [Sl.val] at c0 c1 c2
        obtain ⟨⟨hlc, hll, hrl⟩, _, ⟨hsc, hls, hrs⟩⟩ := hxa
        simp only at hlc hll hrl hsc hls hrs hst
        obtain ⟨_, oks, bl, bs, bw, fl, fs, fw⟩ := hxo
        simp only [reachBytes] at bl bs bw fl fs fw
        have hbs := hb.size
        have hr1 : Row w w.heap.size 6 Aw nw (winCells lw) := (hat _ hxm).win.2.2
        have hgoS : Hid _ := hidden (hst.symm.trans hgo.out)
        have HRS := hidden hr
        clear hst hgo hr
        go_wp2_with fail
        refine (ofW_any Al As Aw nl cl ns cs nw cw _).mono ?_
        rintro e w2 ⟨rfl, hb2⟩
        have hg5 : Whole1 w2 wo.heap.size 46 #[.slice Al nl cl, .slice As ns cs, .slice Aw nw cw] := (Whole1.new wo _ _).below hb2 (by simp)
        have hbw2 : Below wo.heap.size wo w2 := ((Below.refl _ _).alloc (Nat.le_refl _) _).trans (hb2.mono (by simp))
        have hw2s : wo.heap.size + 1 ≤ w2.heap.size := by have := hb2.size; simpa using this
        clear hb2 c0 c1 c2
        go_wp2_with fail
        go_loopw [21, 46] (fun v i wx => ∃ j : Nat, j ≤ nw ∧ i = .int .i64 j ∧ wx.ownsRow w2.heap.size 88 6 v (inRange Win.start f t (lw.take j)).length (winCells (inRange Win.start f t (lw.take j))) ∧ Below w2.heap.size w2 wx) (fun _ i _ => nw - (intOf i).toNat)
        case atStart => exact ⟨0, Nat.zero_le _, rfl, World.ownsRow_nil _ _ _ _, Below.refl _ _⟩
        case round =>
          obtain ⟨j, hj, rfl, ho, hbx⟩ := hrel
          by_cases hjn : j < nw
          · obtain ⟨g7, o7, rfl, _, y, hy, d0, d1, d2, d3, d4, d5⟩ := win_cells_at hr1 hls ((hb.trans (hbw2.mono hbs)).trans (hbx.mono (by omega))) j hjn
            have hT := hidden (take_snoc? hy)
            have hI := inRange_snoc Win.start f t (lw.take j) y
            rw [← hT.out] at hI
            obtain ⟨y0, y1, y2, y3, y4, y5⟩ := y
            simp only at d0 d1 d2 d3 d4 d5 hI
            have hIl : (inRange Win.start f t (lw.take j)).length ≤ j := Nat.le_trans (inRange_le _ _ _ _) (by rw [List.length_take]; omega)
            have hxs := hbx.size
            clear hy
            go_wp2_with fail
            refine (timeW_any y0 _ _ _ _ _ _).mono ?_
            rintro e w3 ⟨rfl, hb3⟩
            have h6 : Whole1 w3 wr.heap.size 88 #[.int .i64 y0, .int .i64 y1, .int .u64 ((y2 : Nat) : Int), .int .u64 ((y3 : Nat) : Int), .int .u64 ((y4 : Nat) : Int), .int .u64 ((y5 : Nat) : Int)] := (Whole1.new wr _ _).below hb3 (by simp)
            have ho3 : w3.ownsRow w2.heap.size 88 6 _ _ _ := own_below (ho.alloc _) hb3 (Nat.le_refl _)
            have hb3' : Below w2.heap.size w2 w3 := (hbx.alloc hxs _).trans (hb3.mono (by simp; omega))
            have q0 := h6.cell 0
            have q1 := h6.cell 1
            have p2 := h6.cell 2
            have p3 := h6.cell 3
            have p4 := h6.cell 4
            have p5 := h6.cell 5
            have hIL := hidden hIl
            clear hb3 h6 d0 d1 d2 d3 d4 d5 hIl ho
            by_cases hin : f ≤ y0 ∧ y0 < t
            · obtain ⟨hin1, hin2⟩ := hin
              rw [if_pos ⟨hin1, hin2⟩] at hI
              have HI := hidden hI
              clear hI
              have hfr := Row.fresh w3 88 6 1 [.int .i64 y0, .int .i64 y1, .int .u64 ((y2 : Nat) : Int), .int .u64 ((y3 : Nat) : Int), .int .u64 ((y4 : Nat) : Int), .int .u64 ((y5 : Nat) : Int)] rfl
              go_wp2_with (at_builtin; refine wpList_app _ rfl _ _ 44 rfl w2.heap.size 88 i1 _ 6 48 Try.underlying44 hi1 hz10 hz11 hz12 rfl (by decide) _ _ _ rfl (ho3.alloc _) _ _ _ _ _ rfl hfr (by simp [Value.oneCell']) (by have := hIL.out; unfold maxLen; omega) (by have := hIL.out; omega) (by have := hb3'.size; simp; omega) ?_; intro v9 w9 hown9 hg9 hat9)
              go_roundw
              case rel =>
                refine ⟨j + 1, by omega, by go_num, ?_, (hb3'.alloc hb3'.size _).grown hg9 (by have := hb3'.size; simp; omega) (fun q hq => (ho3.lt q hq).1)⟩
                rw [HI.out, List.length_append, List.length_singleton, winCells_snoc]; exact hown9
              case measure => simp [intOf]; omega
            · rw [if_neg hin] at hI
              have HI := hidden hI
              clear hI
              by_cases hin1 : f ≤ y0
              · have hin2 : ¬ y0 < t := fun h => hin ⟨hin1, h⟩
                clear hin
                go_wp2_with fail
                go_roundw
                case rel => exact ⟨j + 1, by omega, by go_num, by rw [HI.out]; exact ho3, hb3'⟩
                case measure => simp [intOf]; omega
              · clear hin
                go_wp2_with fail
                go_roundw
                case rel => exact ⟨j + 1, by omega, by go_num, by rw [HI.out]; exact ho3, hb3'⟩
                case measure => simp [intOf]; omega
          · obtain rfl : nw = j := by omega
            obtain ⟨w4, rfl⟩ : ∃ w4 : World, w4 = wr := ⟨_, rfl⟩
            rw [List.take_of_length_le (by rw [hls]; exact Nat.le_refl _)] at ho
            have hIl : (inRange Win.start f t lw).length ≤ 1048576 := Nat.le_trans (inRange_le _ _ _ _) (by omega)
            have hIo : ∀ s ∈ inRange Win.start f t lw, s.ok := fun s hs => (oks s (inRange_mem _ _ _ hs)).1
            obtain ⟨A4, k4, rfl, hk4, hr4⟩ := own_shape ho
            have hbw4 := hbw2.trans (hbx.mono (by omega))
            have q5 := hg5.below hbx (by omega)
            generalize inRange Win.start f t lw = I at *
            clear ho hbx
            go_wp2_with fail
            refine (widen_calls d A4 I.length k4 I _ hr4 rfl hk4 (by omega) hIo).mono ?_
            rintro e w5 ⟨v5, rfl, hG5, hb5⟩
            have hbw5 := hbw4.trans (hb5.mono hbw4.size)
            have q6 := q5.below hb5 (by have := hbw4.size; have := q5.lt; omega)
            by_cases he : errOf Win.start badWin d I = 0
            · rw [he]
              unfold GrpResW at hG5
              rw [if_pos he] at hG5
              have hgo1 := hgoS.out
              rw [if_pos he] at hgo1
              obtain ⟨A5, k5, rfl, hk5, hr5⟩ := own_shape hG5
              generalize groupsOf Win.start d I = G at *
              by_cases hg : G = []
              · rw [if_pos hg] at hgo1
                subst hg
                have HG := hidden hgo1
                clear hgo1 hG5 hr5 he hgoS
                go_wp2_with fail
                go_roundw
                case rel => exact ⟨k + 1, L, R, vo, rfl, by omega, by go_num, HG.out, hA.below hbw5, by omega, hb.trans (hbw5.mono hbs)⟩
                case measure => simp [intOf]; omega
              · rw [if_neg hg] at hgo1
                have hgl : 0 < G.length := List.length_pos_iff.2 hg
                have hglz : (0 : Int) < (G.length : Int) := by omega
                have HG := hidden hgo1
                have q7 := q6.cell 0
                have hr6 : Row w5 w5.heap.size 2 Al nl (lblCells ll) := (hrl.below (hbw5.mono hbs)).more (Nat.le_trans hbs hbw5.size)
                clear hgo1 he hgoS
                go_wp2_with fail
                refine (cloneL_any Al nl cl ll _ hr6 hll (by omega)).mono ?_
                rintro e w6 ⟨⟨A6, n6, c6, l6⟩, rfl, rfl, rfl, hsa, hso, hb6⟩
                have hbw6 := hbw5.trans (hb6.mono hbw5.size)
                have hA6 := hA.1.alloc
                have hfr := Row.fresh w6 46 3 1 [.slice A6 n6 c6, .slice none 0 0, .slice A5 G.length k5] rfl
                have hov := hA.below hbw6
                simp only [Sl.val]
                clear hr6 q7
                go_wp2_with (at_builtin; refine wpList_app _ rfl _ _ 24 rfl w.heap.size 46 i0 _ 3 72 Try.underlying24 hi hz0 hz1 hz2 rfl (by decide) _ _ _ rfl (hov.1.alloc _) _ _ _ _ _ rfl hfr (by simp [Value.oneCell']) (by unfold maxLen; omega) (by omega) (by have := hbw6.size; simp; omega) ?_; intro v9 w9 hown9 hg9 hat9)
                go_roundw
                case rel =>
                  have hm := roll_more (y := ⟨⟨A6, n6, c6, l6⟩, ⟨none, 0, 0, []⟩, ⟨A5, G.length, k5, G.map winWin⟩⟩) (r := (l6, G.map winWin)) hA hbw6 rfl rfl ⟨hsa, ⟨Nat.le_refl _, rfl, Row.nil⟩, ⟨hk5, by simp, (hr5.below hb6).more hb6.size⟩⟩ (by
                    cases hvb : vo.ownBlock with
                    | none => exact Ser.off_none _
                    | some q =>
                      have hq := (hA.1.lt q hvb).2
                      exact ⟨hso q (by have := hbw5.size; omega), fun h => absurd h (by simp), Sl.off_own hG5 (by have := hbw4.size; omega)⟩) hg9 hat9 hown9
                  exact ⟨k + 1, _, _, v9, rfl, by omega, by go_num, HG.out, hm, by simp; omega, ((hb.trans (hbw6.mono hbs)).alloc (by have := hbw6.size; omega) _).grown hg9 (by have := hbw6.size; simp; omega) (fun q hq => (hA.1.lt q hq).1)⟩
                case measure => simp [intOf]; omega
            · have hgo1 := hgoS.out
              rw [if_neg he] at hgo1
              have HG := hidden (HR.out.trans hgo1.symm)
              generalize errOf Win.start badWin d I = ee at *
              have t1 : (ee != 0) = true := by simpa using he
              clear hgo1 hgoS hG5 he
              go_wp2_with fail
              go_ret2
              exact ⟨_, [], by rw [HG.out]; rfl, by rw [HG.out]; exact RollAt.start _ _ _, hb.trans (hbw5.mono hbs)⟩
      · obtain rfl : n = k := by omega
        have he := rollGo_end (fun x : Ser => x.win.l) Win.start badWin winWin d f t ss n (by rw [hL.out]; exact Nat.le_refl _) R
        have HG := hidden (HR.out.trans (hgo.out.symm.trans he))
        clear he hgo
        go_wp2
        go_ret2
        exact ⟨_, L, by rw [HG.out]; rfl, by rw [HG.out]; exact hA, hb⟩
  · have hR : rollAllW d f t ss = ([], errOf Win.start badWin d []) := if_neg he0
    have HR := hidden hR
    generalize errOf Win.start badWin d [] = ee at *
    have t1 : (ee != 0) = true := by simpa using he0
    clear hG0 he0 hR
    go_wp2
    go_ret2
    exact ⟨_, [], by rw [HR.out]; rfl, by rw [HR.out]; exact RollAt.start _ _ _, hb0⟩
end Go.Proofs.Ytohocdbneopooaa

namespace Go.Proofs.Ytohocdbneopooaa
set_option maxRecDepth 100000
open Go.RowKit

set_option maxRecDepth 100000 in
set_option maxHeartbeats 6400000 in
theorem rrollS_any (d f t : Int) (A : Option Addr) (n cap : Nat) (ss : List Ser) (w : World) (hr : Row w w.heap.size 3 A n (serCells ss)) (hl : ss.length = n) (hn : n ≤ 1048576) (hat : ∀ x ∈ ss, x.At w w.heap.size) (hok : ∀ x ∈ ss, x.Ok 1048576) :
    Calls Try.prog 16 #[.int .i64 d, .int .i64 f, .int .i64 t, .slice A n cap] w
      fun e w' => ∃ v L, e = .returned (.tuple #[v, .int .i64 (rollAllS d f t ss).2]) ∧ RollAt w' w.heap.size 85 v (rollAllS d f t ss).1 L ∧ Below w.heap.size w w' := by
  obtain ⟨i0, hi, hz0, hz1, hz2⟩ := info_parts info_rser
  obtain ⟨i1, hi1, hz10, hz11, hz12⟩ := info_parts info_rsmp
  have hL := hidden hl
  clear hl
  go_enter Try.func16, Try.ntmps16
  go_wp2_with fail
  refine (rwindows_any d none 0 0 [] _ Row.nil rfl (Nat.le_refl _) (by omega) (by simp)).mono ?_
  rintro e w1 ⟨v0, rfl, hG0, hb0⟩
  by_cases he0 : errOf Smp.t (fun _ => 0) d [] = 0
  · rw [he0]
    have hR : rollAllS d f t ss = rollS d f t ss [] := if_pos he0
    have HR := hidden hR
    clear hG0 he0 hR
    go_wp2_with fail
    go_loopw [12, 13] (fun v i wr => ∃ (k : Nat) (L : List Ser) (R : List (List Lbl × List Win)) (vo : Value), vo = v ∧ k ≤ n ∧ i = .int .i64 k ∧ Hid (rollS d f t (ss.drop k) R = rollS d f t ss []) ∧ RollAt wr w.heap.size 85 v R L ∧ R.length ≤ k ∧ Below w.heap.size w wr) (fun _ i _ => n - (intOf i).toNat)
    case atStart => exact ⟨0, [], [], _, rfl, Nat.zero_le _, rfl, rfl, RollAt.start _ _ _, Nat.le_refl _, hb0⟩
    case round =>
      obtain ⟨k, L, R, vo, rfl, hk, rfl, hgo, hA, hRk, hb⟩ := hrel
      by_cases hlt : k < n
      · obtain ⟨wo, rfl⟩ : ∃ wo : World, wo = wr := ⟨_, rfl⟩
        obtain ⟨gs, o, rfl, hgs, x, hx, c0, c1, c2⟩ := ser_cells_at hr hL.out (Below.refl _ w) k hlt
        have hxm := List.mem_of_getElem? hx
        have hxa := (hat x hxm).below hb
        have hxo := hok x hxm
        have hst := rollGo_at (fun x : Ser => x.smp.l) Smp.t (fun _ => 0) smpWin d f t hx R
        obtain ⟨⟨Al, nl, cl, ll⟩, ⟨As, ns, cs, ls⟩, ⟨Aw, nw, cw, lw⟩⟩ := x
        simp only [Sl.val] at c0 c1 c2
        obtain ⟨⟨hlc, hll, hrl⟩, ⟨hsc, hls, hrs⟩, _⟩ := hxa
        simp only at hlc hll hrl hsc hls hrs hst
        obtain ⟨oks, _, bl, bs, bw, fl, fs, fw⟩ := hxo
        simp only [reachBytes] at bl bs bw fl fs fw
        have hbs := hb.size
        have hr1 : Row w w.heap.size 2 As ns (smpCells ls) := (hat _ hxm).smp.2.2
        have hgoS : Hid _ := hidden (hst.symm.trans hgo.out)
        have HC0 := hidden c0
        have HC1 := hidden c1
        have hltz : (k : Int) < (n : Int) := by omega
        clear hst hgo c0 c1 c2
        go_wp2_with fail
        go_loopw [14, 15] (fun v i wx => ∃ j : Nat, j ≤ ns ∧ i = .int .i64 j ∧ wx.ownsRow wo.heap.size 86 2 v (inRange Smp.t f t (ls.take j)).length (smpCells (inRange Smp.t f t (ls.take j))) ∧ Below wo.heap.size wo wx) (fun _ i _ => ns - (intOf i).toNat)
        case atStart => exact ⟨0, Nat.zero_le _, rfl, World.ownsRow_nil _ _ _ _, Below.refl _ _⟩
        case round =>
          obtain ⟨j, hj, rfl, ho, hbx⟩ := hrel
          have hbX := hb.trans (hbx.mono hbs)
          have c1 : wr.cell? ⟨gs, o + k * 3 + 1, none⟩ = some (.slice As ns cs) := (hbX.cell (p := ⟨gs, o + k * 3 + 1, none⟩) hgs).trans HC1.out
          by_cases hjn : j < ns
          · obtain ⟨g7, o7, rfl, y, hy, d0, d1⟩ := smp_cells_at hr1 hls hbX j hjn
            have hT := hidden (take_snoc? hy)
            have hI := inRange_snoc Smp.t f t (ls.take j) y
            rw [← hT.out] at hI
            obtain ⟨y0, y1⟩ := y
            simp only at d0 d1 hI
            have hIl : (inRange Smp.t f t (ls.take j)).length ≤ j := Nat.le_trans (inRange_le _ _ _ _) (by rw [List.length_take]; omega)
            have hxs := hbx.size
            have hIL := hidden hIl
            clear hy hIl
            by_cases hin : f ≤ y0 ∧ y0 < t
            · obtain ⟨hin1, hin2⟩ := hin
              rw [if_pos ⟨hin1, hin2⟩] at hI
              have HI := hidden hI
              clear hI
              have hfr := Row.fresh (wr.alloc (.cells #[.int .i64 y0, .int .u64 ((y1 : Nat) : Int)] 86)) 86 2 1 [.int .i64 y0, .int .u64 ((y1 : Nat) : Int)] rfl
              rw [World.size_alloc] at hfr
              go_wp2_with (at_builtin; refine wpList_app _ rfl _ _ 82 rfl wo.heap.size 86 i1 _ 2 16 Try.underlying82 hi1 hz10 hz11 hz12 rfl (by decide) _ _ _ rfl ((ho.alloc _).alloc _) _ _ _ _ _ rfl hfr (by simp [Value.oneCell']) (by have := hIL.out; unfold maxLen; omega) (by have := hIL.out; omega) (by have := hbx.size; simp; omega) ?_; intro v9 w9 hown9 hg9 hat9)
              go_roundw
              case rel =>
                refine ⟨j + 1, by omega, by go_num, ?_, ((hbx.alloc hbx.size _).alloc (by simp; omega) _).grown hg9 (by have := hbx.size; simp; omega) (fun q hq => (ho.lt q hq).1)⟩
                rw [HI.out, List.length_append, List.length_singleton, smpCells_snoc]; exact hown9
              case measure => simp [intOf]; omega
            · rw [if_neg hin] at hI
              have HI := hidden hI
              clear hI
              by_cases hin1 : f ≤ y0
              · have hin2 : ¬ y0 < t := fun h => hin ⟨hin1, h⟩
                clear hin
                go_wp2_with fail
                go_roundw
                case rel => exact ⟨j + 1, by omega, by go_num, by rw [HI.out]; exact ho.alloc _, hbx.alloc hbx.size _⟩
                case measure => simp [intOf]; omega
              · clear hin
                go_wp2_with fail
                go_roundw
                case rel => exact ⟨j + 1, by omega, by go_num, by rw [HI.out]; exact ho.alloc _, hbx.alloc hbx.size _⟩
                case measure => simp [intOf]; omega
          · obtain rfl : ns = j := by omega
            obtain ⟨w4, rfl⟩ : ∃ w4 : World, w4 = wr := ⟨_, rfl⟩
            rw [List.take_of_length_le (by rw [hls]; exact Nat.le_refl _)] at ho
            have hIl : (inRange Smp.t f t ls).length ≤ 1048576 := Nat.le_trans (inRange_le _ _ _ _) (by omega)
            have hIo : ∀ s ∈ inRange Smp.t f t ls, s.ok := fun s hs => (oks s (inRange_mem _ _ _ hs)).1
            obtain ⟨A4, k4, rfl, hk4, hr4⟩ := own_shape ho
            generalize inRange Smp.t f t ls = I at *
            clear ho
            go_wp2_with fail
            refine (rwindows_any d A4 I.length k4 I _ hr4 rfl hk4 (by omega) hIo).mono ?_
            rintro e w5 ⟨v5, rfl, hG5, hb5⟩
            have hbw5 := hbx.trans (hb5.mono hbx.size)
            clear c1 hbX
            have q7 : w5.cell? ⟨gs, o + k * 3, none⟩ = some (.slice Al nl cl) := ((hb.trans (hbw5.mono hbs)).cell (p := ⟨gs, o + k * 3, none⟩) hgs).trans HC0.out
            by_cases he : errOf Smp.t (fun _ => 0) d I = 0
            · rw [he]
              unfold RefResS at hG5
              rw [if_pos he] at hG5
              have hgo1 := hgoS.out
              rw [if_pos he] at hgo1
              obtain ⟨A5, k5, rfl, hk5, hr5⟩ := own_shape hG5
              generalize groupsOf Smp.t d I = G at *
              by_cases hg : G = []
              · rw [if_pos hg] at hgo1
                subst hg
                have HG := hidden hgo1
                clear hgo1 hG5 hr5 he hgoS q7
                go_wp2_with fail
                go_roundw
                case rel => exact ⟨k + 1, L, R, vo, rfl, by omega, by go_num, HG.out, hA.below hbw5, by omega, hb.trans (hbw5.mono hbs)⟩
                case measure => simp [intOf]; omega
              · rw [if_neg hg] at hgo1
                have hgl : 0 < G.length := List.length_pos_iff.2 hg
                have hglz : (0 : Int) < (G.length : Int) := by omega
                have HG := hidden hgo1
                clear hgo1 he hgoS
                have hfr := Row.fresh w5 85 3 1 [.slice Al nl cl, .slice none 0 0, .slice A5 G.length k5] rfl
                have hov := hA.below hbw5
                go_wp2_with (at_builtin; refine wpList_app _ rfl _ _ 25 rfl w.heap.size 85 i0 _ 3 72 Try.underlying25 hi hz0 hz1 hz2 rfl (by decide) _ _ _ rfl (hov.1.alloc _) _ _ _ _ _ rfl hfr (by simp [Value.oneCell']) (by unfold maxLen; omega) (by omega) (by have := hbw5.size; simp; omega) ?_; intro v9 w9 hown9 hg9 hat9)
                go_roundw
                case rel =>
                  have hm := roll_more (y := ⟨⟨Al, nl, cl, ll⟩, ⟨none, 0, 0, []⟩, ⟨A5, G.length, k5, G.map smpWin⟩⟩) (r := (ll, G.map smpWin)) hA hbw5 rfl rfl ⟨⟨hlc, hll, (hrl.below (hbw5.mono hbs)).more (Nat.le_trans hbs hbw5.size)⟩, ⟨Nat.le_refl _, rfl, Row.nil⟩, ⟨hk5, by simp, hr5⟩⟩ (by
                    cases hvb : vo.ownBlock with
                    | none => exact Ser.off_none _
                    | some q =>
                      have hq := hA.1.lt q hvb
                      exact ⟨Sl.At.off (f := Lbl.cells) (B := w.heap.size) (w := wo) (size := 2) ⟨hlc, hll, hrl⟩ hq.1, fun h => absurd h (by simp), Sl.off_own hG5 (by have := hbx.size; omega)⟩) hg9 hat9 hown9
                  exact ⟨k + 1, _, _, v9, rfl, by omega, by go_num, HG.out, hm, by simp; omega, ((hb.trans (hbw5.mono hbs)).alloc (by have := hbw5.size; omega) _).grown hg9 (by have := hbw5.size; simp; omega) (fun q hq => (hA.1.lt q hq).1)⟩
                case measure => simp [intOf]; omega
            · have hgo1 := hgoS.out
              rw [if_neg he] at hgo1
              have HG := hidden (HR.out.trans hgo1.symm)
              generalize errOf Smp.t (fun _ => 0) d I = ee at *
              have t1 : (ee != 0) = true := by simpa using he
              clear hgo1 hgoS hG5 he q7
              go_wp2_with fail
              go_ret2
              exact ⟨_, [], by rw [HG.out]; rfl, by rw [HG.out]; exact RollAt.start _ _ _, hb.trans (hbw5.mono hbs)⟩
      · obtain rfl : n = k := by omega
        have he := rollGo_end (fun x : Ser => x.smp.l) Smp.t (fun _ => 0) smpWin d f t ss n (by rw [hL.out]; exact Nat.le_refl _) R
        have HG := hidden (HR.out.trans (hgo.out.symm.trans he))
        clear he hgo
        go_wp2
        go_ret2
        exact ⟨_, L, by rw [HG.out]; rfl, by rw [HG.out]; exact hA, hb⟩
  · have hR : rollAllS d f t ss = ([], errOf Smp.t (fun _ => 0) d []) := if_neg he0
    have HR := hidden hR
    generalize errOf Smp.t (fun _ => 0) d [] = ee at *
    have t1 : (ee != 0) = true := by simpa using he0
    clear hG0 he0 hR
    go_wp2
    go_ret2
    exact ⟨_, [], by rw [HR.out]; rfl, by rw [HR.out]; exact RollAt.start _ _ _, hb0⟩
end Go.Proofs.Ytohocdbneopooaa

namespace Go.Proofs.Ytohocdbneopooaa
set_option maxRecDepth 100000
open Go.RowKit

set_option maxRecDepth 100000 in
set_option maxHeartbeats 6400000 in
theorem rrollW_any (d f t : Int) (A : Option Addr) (n cap : Nat) (ss : List Ser) (w : World) (hr : Row w w.heap.size 3 A n (serCells ss)) (hl : ss.length = n) (hn : n ≤ 1048576) (hat : ∀ x ∈ ss, x.At w w.heap.size) (hok : ∀ x ∈ ss, x.Ok 1048576) :
    Calls Try.prog 20 #[.int .i64 d, .int .i64 f, .int .i64 t, .slice A n cap] w
      fun e w' => ∃ v L, e = .returned (.tuple #[v, .int .i64 (rollAllW d f t ss).2]) ∧ RollAt w' w.heap.size 85 v (rollAllW d f t ss).1 L ∧ Below w.heap.size w w' := by
  obtain ⟨i0, hi, hz0, hz1, hz2⟩ := info_parts info_rser
  obtain ⟨i1, hi1, hz10, hz11, hz12⟩ := info_parts info_rwin
  have hL := hidden hl
  clear hl
  go_enter Try.func20, Try.ntmps20
  go_wp2_with fail
  refine (rwiden_any d none 0 0 [] _ Row.nil rfl (Nat.le_refl _) (by omega) (by simp)).mono ?_
  rintro e w1 ⟨v0, rfl, hG0, hb0⟩
  by_cases he0 : errOf Win.start badWin d [] = 0
  · rw [he0]
    have hR : rollAllW d f t ss = rollW d f t ss [] := if_pos he0
    have HR := hidden hR
    clear hG0 he0 hR
    go_wp2_with fail
    go_loopw [12, 13] (fun v i wr => ∃ (k : Nat) (L : List Ser) (R : List (List Lbl × List Win)) (vo : Value), vo = v ∧ k ≤ n ∧ i = .int .i64 k ∧ Hid (rollW d f t (ss.drop k) R = rollW d f t ss []) ∧ RollAt wr w.heap.size 85 v R L ∧ R.length ≤ k ∧ Below w.heap.size w wr) (fun _ i _ => n - (intOf i).toNat)
    case atStart => exact ⟨0, [], [], _, rfl, Nat.zero_le _, rfl, rfl, RollAt.start _ _ _, Nat.le_refl _, hb0⟩
    case round =>
      obtain ⟨k, L, R, vo, rfl, hk, rfl, hgo, hA, hRk, hb⟩ := hrel
      by_cases hlt : k < n
      · obtain ⟨wo, rfl⟩ : ∃ wo : World, wo = wr := ⟨_, rfl⟩
        obtain ⟨gs, o, rfl, hgs, x, hx, c0, c1, c2⟩ := ser_cells_at hr hL.out (Below.refl _ w) k hlt
        have hxm := List.mem_of_getElem? hx
        have hxa := (hat x hxm).below hb
        have hxo := hok x hxm
        have hst := rollGo_at (fun x : Ser => x.win.l) Win.start badWin winWin d f t hx R
        obtain ⟨⟨Al, nl, cl, ll⟩, ⟨As, ns, cs, ls⟩, ⟨Aw, nw, cw, lw⟩⟩ := x
        simp only [Sl.val] at c0 c1 c2
        obtain ⟨⟨hlc, hll, hrl⟩, _, ⟨hsc, hls, hrs⟩⟩ := hxa
        simp only at hlc hll hrl hsc hls hrs hst
        obtain ⟨_, oks, bl, bs, bw, fl, fs, fw⟩ := hxo
        simp only [reachBytes] at bl bs bw fl fs fw
        have hbs := hb.size
        have hr1 : Row w w.heap.size 6 Aw nw (winCells lw) := (hat _ hxm).win.2.2
        have hgoS : Hid _ := hidden (hst.symm.trans hgo.out)
        have HC0 := hidden c0
        have HC1 := hidden c2
        have hltz : (k : Int) < (n : Int) := by omega
        clear hst hgo c0 c1 c2
        go_wp2_with fail
        go_loopw [14, 15] (fun v i wx => ∃ j : Nat, j ≤ nw ∧ i = .int .i64 j ∧ wx.ownsRow wo.heap.size 89 6 v (inRange Win.start f t (lw.take j)).length (winCells (inRange Win.start f t (lw.take j))) ∧ Below wo.heap.size wo wx) (fun _ i _ => nw - (intOf i).toNat)
        case atStart => exact ⟨0, Nat.zero_le _, rfl, World.ownsRow_nil _ _ _ _, Below.refl _ _⟩
        case round =>
          obtain ⟨j, hj, rfl, ho, hbx⟩ := hrel
          have hbX := hb.trans (hbx.mono hbs)
          have c1 : wr.cell? ⟨gs, o + k * 3 + 2, none⟩ = some (.slice Aw nw cw) := (hbX.cell (p := ⟨gs, o + k * 3 + 2, none⟩) hgs).trans HC1.out
          by_cases hjn : j < nw
          · obtain ⟨g7, o7, rfl, _, y, hy, d0, d1, d2, d3, d4, d5⟩ := win_cells_at hr1 hls hbX j hjn
            have hT := hidden (take_snoc? hy)
            have hI := inRange_snoc Win.start f t (lw.take j) y
            rw [← hT.out] at hI
            obtain ⟨y0, y1, y2, y3, y4, y5⟩ := y
            simp only at d0 d1 d2 d3 d4 d5 hI
            have hIl : (inRange Win.start f t (lw.take j)).length ≤ j := Nat.le_trans (inRange_le _ _ _ _) (by rw [List.length_take]; omega)
            have hxs := hbx.size
            have hIL := hidden hIl
            clear hy hIl
            by_cases hin : f ≤ y0 ∧ y0 < t
            · obtain ⟨hin1, hin2⟩ := hin
              rw [if_pos ⟨hin1, hin2⟩] at hI
              have HI := hidden hI
              clear hI
              have hfr := Row.fresh (wr.alloc (.cells #[.int .i64 y0, .int .i64 y1, .int .u64 ((y2 : Nat) : Int), .int .u64 ((y3 : Nat) : Int), .int .u64 ((y4 : Nat) : Int), .int .u64 ((y5 : Nat) : Int)] 89)) 89 6 1 [.int .i64 y0, .int .i64 y1, .int .u64 ((y2 : Nat) : Int), .int .u64 ((y3 : Nat) : Int), .int .u64 ((y4 : Nat) : Int), .int .u64 ((y5 : Nat) : Int)] rfl
              rw [World.size_alloc] at hfr
              go_wp2_with (at_builtin; refine wpList_app _ rfl _ _ 83 rfl wo.heap.size 89 i1 _ 6 48 Try.underlying83 hi1 hz10 hz11 hz12 rfl (by decide) _ _ _ rfl ((ho.alloc _).alloc _) _ _ _ _ _ rfl hfr (by simp [Value.oneCell']) (by have := hIL.out; unfold maxLen; omega) (by have := hIL.out; omega) (by have := hbx.size; simp; omega) ?_; intro v9 w9 hown9 hg9 hat9)
              go_roundw
              case rel =>
                refine ⟨j + 1, by omega, by go_num, ?_, ((hbx.alloc hbx.size _).alloc (by simp; omega) _).grown hg9 (by have := hbx.size; simp; omega) (fun q hq => (ho.lt q hq).1)⟩
                rw [HI.out, List.length_append, List.length_singleton, winCells_snoc]; exact hown9
              case measure => simp [intOf]; omega
            · rw [if_neg hin] at hI
              have HI := hidden hI
              clear hI
              by_cases hin1 : f ≤ y0
              · have hin2 : ¬ y0 < t := fun h => hin ⟨hin1, h⟩
                clear hin
                go_wp2_with fail
                go_roundw
                case rel => exact ⟨j + 1, by omega, by go_num, by rw [HI.out]; exact ho.alloc _, hbx.alloc hbx.size _⟩
                case measure => simp [intOf]; omega
              · clear hin
                go_wp2_with fail
                go_roundw
                case rel => exact ⟨j + 1, by omega, by go_num, by rw [HI.out]; exact ho.alloc _, hbx.alloc hbx.size _⟩
                case measure => simp [intOf]; omega
          · obtain rfl : nw = j := by omega
            obtain ⟨w4, rfl⟩ : ∃ w4 : World, w4 = wr := ⟨_, rfl⟩
            rw [List.take_of_length_le (by rw [hls]; exact Nat.le_refl _)] at ho
            have hIl : (inRange Win.start f t lw).length ≤ 1048576 := Nat.le_trans (inRange_le _ _ _ _) (by omega)
            have hIo : ∀ s ∈ inRange Win.start f t lw, s.ok := fun s hs => (oks s (inRange_mem _ _ _ hs)).1
            obtain ⟨A4, k4, rfl, hk4, hr4⟩ := own_shape ho
            generalize inRange Win.start f t lw = I at *
            clear ho
            go_wp2_with fail
            refine (rwiden_any d A4 I.length k4 I _ hr4 rfl hk4 (by omega) hIo).mono ?_
            rintro e w5 ⟨v5, rfl, hG5, hb5⟩
            have hbw5 := hbx.trans (hb5.mono hbx.size)
            clear c1 hbX
            have q7 : w5.cell? ⟨gs, o + k * 3, none⟩ = some (.slice Al nl cl) := ((hb.trans (hbw5.mono hbs)).cell (p := ⟨gs, o + k * 3, none⟩) hgs).trans HC0.out
            by_cases he : errOf Win.start badWin d I = 0
            · rw [he]
              unfold RefResW at hG5
              rw [if_pos he] at hG5
              have hgo1 := hgoS.out
              rw [if_pos he] at hgo1
              obtain ⟨A5, k5, rfl, hk5, hr5⟩ := own_shape hG5
              generalize groupsOf Win.start d I = G at *
              by_cases hg : G = []
              · rw [if_pos hg] at hgo1
                subst hg
                have HG := hidden hgo1
                clear hgo1 hG5 hr5 he hgoS q7
                go_wp2_with fail
                go_roundw
                case rel => exact ⟨k + 1, L, R, vo, rfl, by omega, by go_num, HG.out, hA.below hbw5, by omega, hb.trans (hbw5.mono hbs)⟩
                case measure => simp [intOf]; omega
              · rw [if_neg hg] at hgo1
                have hgl : 0 < G.length := List.length_pos_iff.2 hg
                have hglz : (0 : Int) < (G.length : Int) := by omega
                have HG := hidden hgo1
                clear hgo1 he hgoS
                have hfr := Row.fresh w5 85 3 1 [.slice Al nl cl, .slice none 0 0, .slice A5 G.length k5] rfl
                have hov := hA.below hbw5
                go_wp2_with (at_builtin; refine wpList_app _ rfl _ _ 25 rfl w.heap.size 85 i0 _ 3 72 Try.underlying25 hi hz0 hz1 hz2 rfl (by decide) _ _ _ rfl (hov.1.alloc _) _ _ _ _ _ rfl hfr (by simp [Value.oneCell']) (by unfold maxLen; omega) (by omega) (by have := hbw5.size; simp; omega) ?_; intro v9 w9 hown9 hg9 hat9)
                go_roundw
                case rel =>
                  have hm := roll_more (y := ⟨⟨Al, nl, cl, ll⟩, ⟨none, 0, 0, []⟩, ⟨A5, G.length, k5, G.map winWin⟩⟩) (r := (ll, G.map winWin)) hA hbw5 rfl rfl ⟨⟨hlc, hll, (hrl.below (hbw5.mono hbs)).more (Nat.le_trans hbs hbw5.size)⟩, ⟨Nat.le_refl _, rfl, Row.nil⟩, ⟨hk5, by simp, hr5⟩⟩ (by
                    cases hvb : vo.ownBlock with
                    | none => exact Ser.off_none _
                    | some q =>
                      have hq := hA.1.lt q hvb
                      exact ⟨Sl.At.off (f := Lbl.cells) (B := w.heap.size) (w := wo) (size := 2) ⟨hlc, hll, hrl⟩ hq.1, fun h => absurd h (by simp), Sl.off_own hG5 (by have := hbx.size; omega)⟩) hg9 hat9 hown9
                  exact ⟨k + 1, _, _, v9, rfl, by omega, by go_num, HG.out, hm, by simp; omega, ((hb.trans (hbw5.mono hbs)).alloc (by have := hbw5.size; omega) _).grown hg9 (by have := hbw5.size; simp; omega) (fun q hq => (hA.1.lt q hq).1)⟩
                case measure => simp [intOf]; omega
            · have hgo1 := hgoS.out
              rw [if_neg he] at hgo1
              have HG := hidden (HR.out.trans hgo1.symm)
              generalize errOf Win.start badWin d I = ee at *
              have t1 : (ee != 0) = true := by simpa using he
              clear hgo1 hgoS hG5 he q7
              go_wp2_with fail
              go_ret2
              exact ⟨_, [], by rw [HG.out]; rfl, by rw [HG.out]; exact RollAt.start _ _ _, hb.trans (hbw5.mono hbs)⟩
      · obtain rfl : n = k := by omega
        have he := rollGo_end (fun x : Ser => x.win.l) Win.start badWin winWin d f t ss n (by rw [hL.out]; exact Nat.le_refl _) R
        have HG := hidden (HR.out.trans (hgo.out.symm.trans he))
        clear he hgo
        go_wp2
        go_ret2
        exact ⟨_, L, by rw [HG.out]; rfl, by rw [HG.out]; exact hA, hb⟩
  · have hR : rollAllW d f t ss = ([], errOf Win.start badWin d []) := if_neg he0
    have HR := hidden hR
    generalize errOf Win.start badWin d [] = ee at *
    have t1 : (ee != 0) = true := by simpa using he0
    clear hG0 he0 hR
    go_wp2
    go_ret2
    exact ⟨_, [], by rw [HR.out]; rfl, by rw [HR.out]; exact RollAt.start _ _ _, hb0⟩
end Go.Proofs.Ytohocdbneopooaa
