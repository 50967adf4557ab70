/- plan.Plan: what it returns. Condition: the row is within the reach. -/
import Derived.Test.YtohocdbneopooaaPlanZero
namespace Go.Proofs.Ytohocdbneopooaa
set_option maxRecDepth 100000
open Go.Shelf Go.RowKit Go.Lib Go.Sort

theorem own_whole {w : World} {base n : Nat} {v : Value} {l : List Inf} (h : w.ownsRow base 71 5 v n (infCells l)) (hn : 0 < n) :
    ∃ g cap rest, v = .slice (some ⟨g, 0, none⟩) n cap ∧ base ≤ g ∧ Whole1 w g 71 (infCells l ++ rest).toArray ∧ n ≤ cap ∧ cap ≤ maxLen ∧ l.length = n := by
  obtain ⟨hl, h2⟩ := h
  rw [infCells_length] at hl
  rcases h2 with ⟨_, h0⟩ | ⟨g, cap, cur, rfl, hb, hg, hnc, hc, hs, ht⟩
  · omega
  · refine ⟨g, cap, cur.toList.drop (n * 5), rfl, hb, ?_, hnc, hc, by omega⟩
    rw [← ht, List.take_append_drop]
    exact hg

/-- rows of fewer than two: none -/
def rowsP (fan : Int) (l : List Inf) : List (List Int) := if 2 ≤ fan then rowsI fan.toNat l else []
set_option maxHeartbeats 1600000 in
theorem rows1_any (A : Option Addr) (n c : Nat) (fan : Int) (w : World) (hf : fan < 2) : Calls Try.prog 88 #[.slice A n c, .int .i64 fan] w fun e w' => e = .returned (.slice none 0 0) ∧ w = w' := by
  have hz : ¬ (1 : Int) < fan := by omega
  by_cases hn : (0 : Int) < (n : Int)
  · go_enter Try.func88, Try.ntmps88
    go_wp2_with fail
    refine wp_loop_rounds 1 ?_
    rw [rounds_succ]
    go_wp2
    go_ret
    exact ⟨rfl, rfl⟩
  · go_enter Try.func88, Try.ntmps88
    go_wp2_with fail
    refine wp_loop_rounds 1 ?_
    rw [rounds_succ]
    go_wp2
    go_ret
    exact ⟨rfl, rfl⟩

theorem rowsP_any (A : Option Addr) (n c : Nat) (fan : Int) (l : List Inf) (w : World) (hr : Row w w.heap.size 5 A n (infCells l)) (hl : l.length = n) (hnc : n ≤ c) (hc : c ≤ 9223372036854775807) (hn : n * 40 ≤ 140737488351232) (hf : fan ≤ 9223372036854775807) :
    Calls Try.prog 88 #[.slice A n c, .int .i64 fan] w fun e w' => ∃ v S, e = .returned v ∧ LLAt w' w.heap.size v (rowsP fan l) S ∧ RowKit.Below w.heap.size w w' := by
  unfold rowsP
  by_cases h : 2 ≤ fan
  · rw [if_pos h]
    have := rows_any A n c fan.toNat l w hr hl hnc hc hn (by omega) (by omega)
    rwa [show ((fan.toNat : Nat) : Int) = fan from by omega] at this
  · rw [if_neg h]
    refine (rows1_any A n c fan w (by omega)).mono ?_
    rintro e w' ⟨rfl, rfl⟩
    exact ⟨_, [], rfl, LLAt.start _ _, RowKit.Below.refl _ _⟩

def groupsAt (fan : Int) (l : List Inf) : List (List Int) := if chainsI l = [] then rowsP fan l else chainsI l
/-- the plan -/
def planI (fan : Int) (l : List Inf) : List (List Int) := (List.range 3).flatMap fun r => groupsAt fan (sortedI (sift (r : Nat) l))

/-- what the sifted list is, in memory -/
def SiftRes (base : Nat) (F : List Inf) (w' : World) (A : Option Addr) (m c : Nat) : Prop :=
  F.length = m ∧ m ≤ c ∧ c ≤ 9223372036854775807 ∧ (0 < m → ∃ g rest, A = some ⟨g, 0, none⟩ ∧ Whole1 w' g 71 (infCells F ++ rest).toArray ∧ base ≤ g)

theorem sift_any (n : Nat) (l : List Inf) (res : Int) (rb : Nat) (w0 w : World) (v : Value) (hcl : CloneRes n l w0 w v) (hb0 : w0.heap.size ≤ w.heap.size) (hl : l.length = n) (hn : n * 40 ≤ 140737488351232) (hc : w.cell? ⟨rb, 0, none⟩ = some (.int .i64 res)) (hrb : rb < w0.heap.size) :
    Calls Try.prog 82 #[v, .func (.func 84) #[] #[.pointer (some ⟨rb, 0, none⟩)]] w
      fun e w' => ∃ A m c, e = .returned (.slice A m c) ∧ SiftRes w0.heap.size (sift res l) w' A m c ∧ RowKit.Below w0.heap.size w w' := by
  rcases hcl with ⟨rfl, A', c', rfl, hcm, _⟩ | ⟨hp, hown⟩
  · have : l = [] := List.eq_nil_of_length_eq_zero hl
    subst this
    refine (delete0_any A' c' res rb w hc).mono ?_
    rintro e w' ⟨rfl, hb⟩
    exact ⟨A', 0, c', rfl, ⟨rfl, Nat.zero_le _, hcm, fun h => absurd h (by omega)⟩, hb.mono hb0⟩
  · obtain ⟨g, cap, rest, rfl, hg, hw, hnc, hcm, _⟩ := own_whole hown hp
    refine (deleteI_any g n cap l rest res rb w hc (by omega) hw hl hnc hn).mono ?_
    rintro e w' ⟨v', rfl, rest', rfl, hfc, hw', hgb⟩
    exact ⟨_, _, cap, rfl, ⟨rfl, hfc, by unfold maxLen at hcm; omega, fun _ => ⟨g, rest', rfl, hw', hg⟩⟩, below_gb (RowKit.Below.refl _ _) hgb hb0 hg⟩

theorem sortS_any {base m c : Nat} {A : Option Addr} {F : List Inf} {w : World} (h : SiftRes base F w A m c) (hb : base ≤ w.heap.size) (hm : m * 40 ≤ 140737488351232) :
    Calls Try.prog 85 #[.slice A m c, .func (.func 86) #[] #[]] w
      fun e w' => e = .returned (.tuple #[]) ∧ Row w' w'.heap.size 5 A m (infCells (sortedI F)) ∧ RowKit.Below base w w' := by
  obtain ⟨rfl, hmc, hc, hw⟩ := h
  rcases Nat.eq_zero_or_pos F.length with h0 | h0
  · have hF : F = [] := List.eq_nil_of_length_eq_zero h0
    subst hF
    refine (sort0_any A c _ w).mono ?_
    rintro e w' ⟨rfl, rfl⟩
    exact ⟨rfl, row_zero rfl (List.eq_nil_of_length_eq_zero (keys_sorted []).2.1), RowKit.Below.refl _ _⟩
  · obtain ⟨g, rest, rfl, hw', hg⟩ := hw h0
    refine (sortW_any g c F rest w hw' hm).mono ?_
    rintro e w' ⟨rfl, hr, hgb⟩
    exact ⟨rfl, hr, below_gb (RowKit.Below.refl _ _) hgb hb hg⟩

def planTo (fan : Int) (l : List Inf) (k : Nat) : List (List Int) := (List.range k).flatMap fun r => groupsAt fan (sortedI (sift (r : Nat) l))
theorem planTo_succ (fan : Int) (l : List Inf) (k : Nat) : planTo fan l (k + 1) = planTo fan l k ++ groupsAt fan (sortedI (sift (k : Nat) l)) := by
  unfold planTo
  rw [List.range_succ, List.flatMap_append]
  simp

theorem chainsF_len : ∀ (f : Nat) (l : List Inf), (chainsF f l).length ≤ l.length
  | 0, l => Nat.zero_le _
  | f + 1, [] => Nat.le_refl _
  | f + 1, x :: r => by
    rw [chainsF, List.length_append]
    have h1 := chainsF_len f ((x :: r).drop (1 + spanGo x.til r))
    rw [List.length_drop, List.length_cons] at h1
    rw [List.length_cons]
    split
    · simp only [List.length_cons, List.length_nil]; omega
    · simp only [List.length_nil]; omega
theorem rowsF_len (fan : Nat) (hf : 1 ≤ fan) : ∀ (f : Nat) (l : List Inf), (rowsF fan f l).length ≤ l.length
  | 0, l => Nat.zero_le _
  | f + 1, [] => Nat.le_refl _
  | f + 1, x :: r => by
    rw [rowsF]
    have h1 := rowsF_len fan hf f ((x :: r).drop fan)
    have h2 := rowsF_len fan hf f ((x :: r).drop 1)
    rw [List.length_drop, List.length_cons] at h1 h2
    rw [List.length_cons]
    split
    · simp only [List.length_append, List.length_cons, List.length_nil]; omega
    · omega
theorem groupsAt_len (fan : Int) (l : List Inf) : (groupsAt fan l).length ≤ l.length := by
  unfold groupsAt rowsP
  split
  · split
    · exact rowsF_len _ (by omega) _ _
    · exact Nat.zero_le _
  · exact chainsF_len _ _
/-- how many have one of the first k resolutions -/
def siftTo (l : List Inf) (k : Nat) : Nat := ((List.range k).map fun r => (sift (r : Nat) l).length).sum
theorem siftTo_succ (l : List Inf) (k : Nat) : siftTo l (k + 1) = siftTo l k + (sift (k : Nat) l).length := by
  unfold siftTo
  rw [List.range_succ, List.map_append, List.sum_append]
  simp
theorem sift_cons (res : Int) (x : Inf) (l : List Inf) : (sift res (x :: l)).length = (if x.res = res then 1 else 0) + (sift res l).length := by
  unfold sift
  rw [List.filter_cons]
  by_cases h : x.res = res
  · simp [h]; omega
  · simp [h]
theorem siftTo_cons (x : Inf) (l : List Inf) : ∀ k : Nat, siftTo (x :: l) k = siftTo l k + (if 0 ≤ x.res ∧ x.res < (k : Int) then 1 else 0)
  | 0 => by
    rw [if_neg (by omega)]; rfl
  | k + 1 => by
    rw [siftTo_succ, siftTo_succ, siftTo_cons x l k, sift_cons]
    by_cases h1 : 0 ≤ x.res ∧ x.res < (k : Int)
    · rw [if_pos h1, if_neg (by omega), if_pos (by omega)]; omega
    · rw [if_neg h1]
      by_cases h2 : x.res = (k : Int)
      · rw [if_pos h2, if_pos (by omega)]; omega
      · rw [if_neg h2, if_neg (by omega)]; omega
theorem siftTo_le : ∀ (l : List Inf) (k : Nat), siftTo l k ≤ l.length
  | [], k => by
    induction k with
    | zero => exact Nat.le_refl _
    | succ k ih => rw [siftTo_succ]; simpa [sift] using ih
  | x :: l, k => by
    rw [siftTo_cons, List.length_cons]
    have := siftTo_le l k
    split <;> omega
theorem planTo_len (fan : Int) (l : List Inf) : ∀ k : Nat, (planTo fan l k).length ≤ siftTo l k
  | 0 => Nat.le_refl _
  | k + 1 => by
    rw [planTo_succ, siftTo_succ, List.length_append]
    have h1 := planTo_len fan l k
    have h2 := groupsAt_len fan (sortedI (sift (k : Nat) l))
    rw [(keys_sorted _).2.1] at h2
    omega

set_option maxHeartbeats 6400000 in
theorem plan_any (fan : Int) (A : Option Addr) (n c : Nat) (l : List Inf) (w : World) (hr : Row w w.heap.size 5 A n (infCells l)) (hl : l.length = n) (hn : n * 40 ≤ 140737488351232) (hf : fan ≤ 9223372036854775807) :
    Calls Try.prog 34 #[.int .i64 fan, .slice A n c] w fun e w' => ∃ v S, e = .returned v ∧ LLAt w' w.heap.size v (planI fan l) S ∧ RowKit.Below w.heap.size w w' := by
  obtain ⟨i0, hi, hz0, hz1, hz2⟩ := info_parts info_ints
  have hL := hidden hl
  have HR := hidden hr
  clear hl hr
  go_enter Try.func34, Try.ntmps34
  go_wp2
  go_loopw [5, 9] (fun v vi wr => ∃ (k : Nat) (S : List (Sl Int)) (vo : Value), vo = v ∧ vi = .int .i64 k ∧ k ≤ 3 ∧ Hid (LLAt wr w.heap.size v (planTo fan l k) S) ∧ RowKit.Below w.heap.size w wr) (fun _ vi _ => 3 - (intOf vi).toNat)
  case atStart => exact ⟨0, [], _, rfl, rfl, by omega, hidden (LLAt.start _ _), RowKit.Below.refl _ _⟩
  case round =>
    obtain ⟨k, S, vo, rfl, rfl, hk, hLL, hb⟩ := hrel
    by_cases hlt : k < 3
    · obtain ⟨wo, rfl⟩ : ∃ wo : World, wo = wr := ⟨_, rfl⟩
      have hltz : (k : Int) < 3 := by omega
      have hbs := hb.size
      go_wp2_with fail
      refine (cloneI_any A n c l _ (((HR.out.below hb).alloc hbs _).more (by simp; omega)) hL.out hn).mono ?_
      rintro e w1 ⟨v1, rfl, hcl, hb1⟩
      have hc0 : w1.cell? ⟨wo.heap.size, 0, none⟩ = some (.int .i64 k) := ((Whole1.new wo 3 #[.int .i64 k]).below hb1 (by simp)).cell 0
      have hB1 : RowKit.Below wo.heap.size wo w1 := ((RowKit.Below.refl _ _).alloc (Nat.le_refl _) _).trans (hb1.mono (by simp))
      have HCL := hidden hcl
      have hs1 := hb1.size
      clear hcl
      go_wp2_with fail
      refine (sift_any n l k wo.heap.size _ w1 v1 HCL.out hb1.size hL.out hn hc0 (by simp)).mono ?_
      rintro e w2 ⟨A2, m, c2, rfl, hS, hb2⟩
      rw [World.size_alloc] at hS hb2 hs1
      have hB2 : RowKit.Below wo.heap.size wo w2 := hB1.trans (hb2.mono (by omega))
      have hs2 := hb2.size
      have hmn : m ≤ n := by rw [← hS.1, ← hL.out]; exact List.length_filter_le _ _
      clear hc0 HCL hb1 hb2 hB1
      go_wp2_with fail
      refine (sortS_any hS (by have := hB2.size; omega) (by omega)).mono ?_
      rintro e w3 ⟨rfl, hr3, hb3⟩
      obtain ⟨hlen, hmc, hcm, _⟩ := hS
      have hB3 : RowKit.Below wo.heap.size wo w3 := hB2.trans (hb3.mono (by omega))
      have hlenS : (sortedI (sift (k : Nat) l)).length = m := by rw [(keys_sorted _).2.1]; exact hlen
      clear hb3 hB2 hs1 hs2
      go_wp2_with fail
      refine (chains_any A2 m c2 _ w3 hr3 hlenS hmc hcm (by omega)).mono ?_
      rintro e w4 ⟨v4, S4, rfl, hL4, hb4⟩
      have hB4 : RowKit.Below wo.heap.size wo w4 := hB3.trans (hb4.mono hB3.size)
      have hr4 := (hr3.below hb4).more hb4.size
      have hgl := groupsAt_len fan (sortedI (sift (k : Nat) l))
      have htl := planTo_len fan l k
      have hsl := siftTo_le l (k + 1)
      rw [siftTo_succ, hlen, hL.out] at hsl
      rw [hlenS] at hgl
      by_cases hch : chainsI (sortedI (sift (k : Nat) l)) = []
      · have hga : groupsAt fan (sortedI (sift (k : Nat) l)) = rowsP fan (sortedI (sift (k : Nat) l)) := if_pos hch
        rw [hch] at hL4
        obtain ⟨A4, c4, rfl, hc4, hrl4⟩ := own_shape hL4.1
        have t0 : ((((([] : List (List Int)).length : Nat) : Int)) == 0) = true := rfl
        simp only [List.length_nil] at hL4 hrl4 t0 ⊢
        clear hL4 hrl4 hb4
        go_wp2_with fail
        refine (rowsP_any A2 m c2 fan _ w4 hr4 hlenS hmc hcm (by omega) hf).mono ?_
        rintro e w5 ⟨v5, S5, rfl, hL5, hb5⟩
        have hB5 : RowKit.Below wo.heap.size wo w5 := hB4.trans (hb5.mono hB4.size)
        rw [hga] at hgl
        obtain ⟨A5, c5, rfl, hc5, hr5⟩ := own_shape hL5.1
        have hLo := hLL.out.below hB5
        have hBx := hb.trans (hB5.mono hbs)
        have hlast := hidden (planTo_succ fan l k)
        have hlo9 := hLo.1
        have hsz9 := hB5.size
        have HLX := hidden hL5
        have HLo := hidden hLo
        clear hL5 hLo
        go_wp2_with (at_builtin; refine wpList_app _ rfl _ _ 68 rfl w.heap.size 78 i0 _ 1 24 Try.underlying68 hi hz0 hz1 hz2 rfl (by decide) _ _ _ rfl hlo9 _ _ _ _ _ rfl hr5 (by simp [Value.oneCell', Sl.val]) (by unfold maxLen; omega) (by omega) (by omega) ?_; intro v9 w9 hown9 hg9 hat9)
        go_roundw
        case rel =>
          have hm := ll_more HLo.out HLX.out.2.1 HLX.out.2.2.1 (fun s hs => by
            cases hvb : vo.ownBlock with
            | none => exact Sl.off_none _
            | some q => exact HLX.out.2.2.2.2 s hs q (by have := (hLL.out.1.lt q hvb).2; have := hB4.size; omega)) (fun s hs j hj => HLX.out.2.2.2.2 s hs j (by have := hB4.size; omega)) hg9 (hat9.imp id fun h => ⟨_, h, Nat.le_refl _⟩) hown9
          exact ⟨k + 1, _, v9, rfl, by go_num, by omega, hidden (by rw [hlast.out, hga]; exact hm), hBx.grown hg9 hBx.size (fun q hq => (hlo9.lt q hq).1)⟩
        case measure => simp [intOf]; omega
      · have hga : groupsAt fan (sortedI (sift (k : Nat) l)) = chainsI (sortedI (sift (k : Nat) l)) := if_neg hch
        rw [hga] at hgl
        have hpos : 0 < (chainsI (sortedI (sift (k : Nat) l))).length := List.length_pos_iff.2 hch
        obtain ⟨A4, c4, rfl, hc4, hrl4⟩ := own_shape hL4.1
        have t0 : ((((chainsI (sortedI (sift (k : Nat) l))).length : Nat) : Int) == 0) = false := by simp; omega
        have hLo := hLL.out.below hB4
        have hBx := hb.trans (hB4.mono hbs)
        have hlast := hidden (planTo_succ fan l k)
        have hlo9 := hLo.1
        have hsz9 := hB4.size
        have HLX := hidden hL4
        have HLo := hidden hLo
        clear hL4 hLo
        go_wp2_with (at_builtin; refine wpList_app _ rfl _ _ 68 rfl w.heap.size 78 i0 _ 1 24 Try.underlying68 hi hz0 hz1 hz2 rfl (by decide) _ _ _ rfl hlo9 _ _ _ _ _ rfl hrl4 (by simp [Value.oneCell', Sl.val]) (by unfold maxLen; omega) (by omega) (by omega) ?_; intro v9 w9 hown9 hg9 hat9)
        go_roundw
        case rel =>
          have hm := ll_more HLo.out HLX.out.2.1 HLX.out.2.2.1 (fun s hs => by
            cases hvb : vo.ownBlock with
            | none => exact Sl.off_none _
            | some q => exact HLX.out.2.2.2.2 s hs q (by have := (hLL.out.1.lt q hvb).2; have := hB3.size; omega)) (fun s hs j hj => HLX.out.2.2.2.2 s hs j (by have := hB3.size; omega)) hg9 (hat9.imp id fun h => ⟨_, h, Nat.le_refl _⟩) hown9
          exact ⟨k + 1, _, v9, rfl, by go_num, by omega, hidden (by rw [hlast.out, hga]; exact hm), hBx.grown hg9 hBx.size (fun q hq => (hlo9.lt q hq).1)⟩
        case measure => simp [intOf]; omega
    · obtain rfl : k = 3 := by omega
      go_wp2
      go_ret
      exact ⟨_, S, rfl, hLL.out, hb⟩
end Go.Proofs.Ytohocdbneopooaa
