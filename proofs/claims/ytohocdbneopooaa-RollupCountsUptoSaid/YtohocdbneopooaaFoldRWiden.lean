/- Grouping by windows as the reference does it: plain laws. No program. The reference's Windows: what it returns. Condition: the row is within the reach. The reference's Widen: what it returns. Condition: the row is within the reach. -/
import Derived.Test.YtohocdbneopooaaFoldGrp
import Derived.Test.YtohocdbneopooaaFoldCalls
namespace Go.Proofs.Ytohocdbneopooaa
set_option maxRecDepth 100000
open Go.RowKit

section
variable {α : Type} (at_ : α → Int) (bad : α → Int) (d : Int)

theorem scan_same (cl : List (Int × List α)) (a : Int) : ∀ (B cur : List α), cur ≠ [] → (∀ x ∈ B, at_ x / d * d = a) → B.foldl (grpStep at_ d) (cl, cur, a) = (cl, cur ++ B, a)
  | [], cur, _, _ => by simp
  | x :: B, cur, hc, hB => by
    have hx := hB x (by simp)
    rw [List.foldl_cons]
    have : grpStep at_ d (cl, cur, a) x = (cl, cur ++ [x], a) := by
      unfold grpStep
      simp only [hc, hx, if_false, if_true]
    rw [this, scan_same cl a B (cur ++ [x]) (by simp) (fun y hy => hB y (by simp [hy]))]
    simp

/-- a group more, behind a boundary -/
theorem grp_block {A B : List α} {a : Int} (hB : B ≠ []) (ha : ∀ x ∈ B, at_ x / d * d = a) (hbd : (grpScan at_ d A).2.1 = [] ∨ (grpScan at_ d A).2.2 ≠ a) :
    grpScan at_ d (A ++ B) = (groupsOf at_ d A, B, a) := by
  cases B with
  | nil => exact absurd rfl hB
  | cons x B =>
    have hx := ha x (by simp)
    have h1 : grpScan at_ d (A ++ x :: B) = B.foldl (grpStep at_ d) (grpStep at_ d (grpScan at_ d A) x) := by
      simp [grpScan]
    rw [h1]
    have h2 : grpStep at_ d (grpScan at_ d A) x = (groupsOf at_ d A, [x], a) := by
      unfold grpStep groupsOf
      simp only [hx]
      by_cases hc : (grpScan at_ d A).2.1 = []
      · simp [hc]
      · rcases hbd with h | h
        · exact absurd h hc
        · simp only [hc, if_false, if_neg (Ne.symm h)]
    rw [h2, scan_same _ _ _ a B [x] (by simp) (fun y hy => ha y (by simp [hy]))]
    rfl

theorem groups_block {A B : List α} {a : Int} (hB : B ≠ []) (ha : ∀ x ∈ B, at_ x / d * d = a) (hbd : (grpScan at_ d A).2.1 = [] ∨ (grpScan at_ d A).2.2 ≠ a) :
    groupsOf at_ d (A ++ B) = groupsOf at_ d A ++ [(a, B)] ∧ (grpScan at_ d (A ++ B)).2.2 = a := by
  have := grp_block at_ d hB ha hbd
  unfold groupsOf at this ⊢
  rw [this]
  simp [hB]

/-- no error up to k: the times are in range and rise -/
theorem valid_at {l : List α} {k : Nat} {x : α} (h : stepErr at_ bad d l k = 0) (hx : l[k]? = some x) (hd : ¬(d < 1 ∨ 1099511627776 < d)) :
    0 ≤ at_ x ∧ at_ x ≤ 1125899906842624 ∧ ordB at_ l k (at_ x) = false ∧ beginOf (at_ x) d = (at_ x / d * d, 0) := by
  by_cases ht : at_ x < 0 ∨ 1125899906842624 < at_ x
  · have hb := beginOf_time (at_ x) d hd ht
    rw [stepErr_eq at_ bad d hx hb, if_pos (by decide)] at h
    cases h
  · have hb := beginOf_ok (at_ x) d hd ht
    rw [stepErr_eq at_ bad d hx hb, if_neg (by decide)] at h
    refine ⟨by omega, by omega, ?_, hb⟩
    cases ho : ordB at_ l k (at_ x)
    · rfl
    · rw [ho, if_pos rfl] at h; cases h

theorem times_rise {l : List α} (hd : ¬(d < 1 ∨ 1099511627776 < d)) (h : ∀ j, j < l.length → stepErr at_ bad d l j = 0) {i : Nat} {x : α} (hx : l[i]? = some x) : ∀ (k : Nat) (y : α), i ≤ k → l[k]? = some y → at_ x ≤ at_ y := by
  intro k
  induction k with
  | zero =>
    intro y hik hy
    have : i = 0 := by omega
    subst this
    rw [hx] at hy; injection hy with hy; subst hy; exact Int.le_refl _
  | succ k ih =>
    intro y hik hy
    rcases Nat.lt_or_ge i (k + 1) with h1 | h1
    · have hk : k + 1 < l.length := (List.getElem?_eq_some_iff.1 hy).1
      have hz : l[k]? = some l[k] := List.getElem?_eq_getElem (by omega)
      have h2 := ih l[k] (by omega) hz
      obtain ⟨_, _, h3, _⟩ := valid_at at_ bad d (h _ hk) hy hd
      rw [ordB_succ at_ hz, decide_eq_false_iff_not] at h3
      omega
    · have : i = k + 1 := by omega
      subst this
      rw [hx] at hy; injection hy with hy; subst hy; exact Int.le_refl _

/-- In the window of its beginning lies a later time if and only if it is less than a width behind. -/
theorem same_window {d t u : Int} (hd : 1 ≤ d) (hu : t ≤ u) : u < t / d * d + d ↔ u / d * d = t / d * d := by
  have h1 := Int.mul_ediv_add_emod u d
  have h2 := Int.emod_lt_of_pos u (show 0 < d by omega)
  have h3 := Int.emod_nonneg u (show d ≠ 0 by omega)
  have h4 := Int.mul_ediv_add_emod t d
  have h5 := Int.emod_lt_of_pos t (show 0 < d by omega)
  have h6 := Int.emod_nonneg t (show d ≠ 0 by omega)
  have h7 : t / d ≤ u / d := Int.ediv_le_ediv (by omega) hu
  constructor
  · intro h
    have : u / d < t / d + 1 := by
      rw [Int.ediv_lt_iff_lt_mul (by omega), Int.add_mul]
      omega
    have : u / d = t / d := by omega
    rw [this]
  · intro h
    rw [Int.mul_comm] at h1
    omega
end
end Go.Proofs.Ytohocdbneopooaa

namespace Go.Proofs.Ytohocdbneopooaa
set_option maxRecDepth 100000
open Go.RowKit

/-- what the reference's Windows answers -/
def RefResS (d : Int) (l : List Smp) (B : Nat) (w' : World) (v : Value) : Prop :=
  if errOf Smp.t (fun _ => 0) d l = 0 then w'.ownsRow B 89 6 v (groupsOf Smp.t d l).length (winCells ((groupsOf Smp.t d l).map smpWin)) else v = .slice none 0 0

set_option maxRecDepth 100000 in
set_option maxHeartbeats 3200000 in
theorem rwindows_any (d : Int) (A : Option Addr) (n cap : Nat) (l : List Smp) (w : World) (hr : Row w w.heap.size 2 A n (smpCells l)) (hl : l.length = n) (hnc : n ≤ cap) (hn : n * 48 ≤ 140737488351232) (hok : ∀ s ∈ l, s.ok) :
    Calls Try.prog 45 #[.int .i64 d, .slice A n cap] w
      fun e w' => ∃ v, e = .returned (.tuple #[v, .int .i64 (errOf Smp.t (fun _ => 0) d l)]) ∧ RefResS d l w.heap.size w' v ∧ Below w.heap.size w w' := by
  obtain ⟨i0, hi, iz0, iz1, iz2⟩ := info_parts info_rwin
  have hL := hidden hl
  clear hl
  by_cases hd : d < 1 ∨ 1099511627776 < d
  · have hE := hidden (errOf_width Smp.t (fun _ => 0) d l hd)
    have hG : Hid (∀ w', RefResS d l w.heap.size w' (.slice none 0 0)) := fun w' => by unfold RefResS; rw [hE.out, if_neg (by decide)]
    have hB := hidden (beginOf_width 0 d hd)
    clear hd
    go_enter Try.func45, Try.ntmps45
    go_wp2_with (go_at_call 22; refine (rstart_any _ _ _).mono ?_; rw [hB.out]; rintro e w' ⟨rfl, rfl⟩)
    go_ret2
    exact ⟨_, by rw [hE.out]; rfl, hG.out _, Below.refl _ _⟩
  · have d1 : 1 ≤ d := by omega
    have d2 : d ≤ 1099511627776 := by omega
    have hD := hidden hd
    have hB := hidden (beginOf_ok 0 d hd (by omega))
    clear hd
    go_enter Try.func45, Try.ntmps45
    go_wp2_with (go_at_call 22; refine (rstart_any _ _ _).mono ?_; rw [hB.out]; rintro e w' ⟨rfl, rfl⟩)
    go_loopw [7, 8] (fun e i wr => ∃ k : Nat, k ≤ n ∧ i = .int .i64 k ∧ e = .int .i64 0 ∧ (∀ j, j < k → stepErr Smp.t (fun _ => 0) d l j = 0) ∧ ∃ m, wr = w.drewN m) (fun _ i _ => n - (intOf i).toNat)
    case atStart => exact ⟨0, Nat.zero_le _, rfl, rfl, fun j hj => absurd hj (by omega), 0, rfl⟩
    case round =>
      obtain ⟨k, hk, rfl, rfl, herr, m, rfl⟩ := hrel
      by_cases hlt : k < n
      · obtain ⟨gs, o, rfl, x, hx, c0, c1⟩ := smp_cells_at hr hL.out (Below.refl _ w) k hlt
        have hX := hidden hx
        clear hx c1
        obtain ⟨xt, xv⟩ := x
        simp only at c0
        have hlt' : (k : Int) < (n : Int) := by omega
        have hk0' : (0 : Int) ≤ (k : Int) := by omega
        generalize hbg : beginOf xt d = bg
        have hBG := hidden hbg
        clear hbg
        obtain ⟨b, ec⟩ := bg
        by_cases hec : ec = 0
        · have hec1 : (ec != 0) = false := by simp [hec]
          have HEC := hidden hec
          have hse := stepErr_eq Smp.t (fun _ => 0) d hX.out hBG.out
          rw [if_neg (by rw [hec]; decide)] at hse
          subst hec
          by_cases hk0 : k = 0
          · have hob : ordB Smp.t l k xt = false := by rw [hk0]; rfl
            rw [hob, if_neg (by decide)] at hse
            have hS0 := hidden hse
            have t6 : decide (0 < k) = false := by rw [decide_eq_false_iff_not]; omega
            have HK := hidden hk0
            clear hse hob hk0
            go_upto_region 10 with (go_at_call 22; refine (rstart_any _ _ _).mono ?_; rw [hBG.out]; rintro e w' ⟨rfl, rfl⟩)
            go_quiet (fail)
            go_wp2
            go_roundw
            case rel =>
              refine ⟨k + 1, by omega, by go_num, rfl, fun j hj => ?_, m + nq, rfl⟩
              rcases Nat.lt_or_ge j k with h | h
              · exact herr j h
              · have : j = k := by omega
                subst this; exact hS0.out
            case measure => simp [intOf]; omega
          · obtain ⟨j, hj⟩ : ∃ j, k = j + 1 := ⟨k - 1, by omega⟩
            obtain ⟨gs', o', hA, z, hz, e0, e1⟩ := smp_cells_at hr hL.out (Below.refl _ w) j (by omega)
            injection hA with hA
            injection hA with hA1 hA2
            subst hA1 hA2
            have hob : ordB Smp.t l k xt = decide (xt ≤ z.t) := by rw [hj, ordB_succ Smp.t hz]
            clear hz e1
            obtain ⟨zt, zv⟩ := z
            simp only at e0 hob
            have t3 : IntKind.i64.wrap ((k : Int) - 1) = (j : Int) := by rw [IntKind.wrap_i64]; omega
            have t4 : (j : Int) < (n : Int) := by omega
            have t5 : (0 : Int) ≤ (j : Int) := by omega
            have t6 : decide (0 < k) = true := by rw [decide_eq_true_eq]; omega
            have hj0 := hidden hj
            clear hj hk0
            by_cases hle : xt ≤ zt
            · have hob' : ordB Smp.t l k xt = true := by rw [hob]; exact decide_eq_true hle
              rw [hob', if_pos rfl] at hse
              have hE := hidden (errOf_at Smp.t (fun _ => 0) d hD.out (by rw [hL.out]; exact hlt) herr (by rw [hse]; decide))
              have hE' : Hid (errOf Smp.t (fun _ => 0) d l = 90) := by have := hE.out; rw [hse] at this; exact this
              have hG : Hid (∀ w', RefResS d l w.heap.size w' (.slice none 0 0)) := fun w' => by unfold RefResS; rw [hE'.out, if_neg (by decide)]
              clear hse herr hE hob hob'
              go_upto_region 10 with (go_at_call 22; refine (rstart_any _ _ _).mono ?_; rw [hBG.out]; rintro e w' ⟨rfl, rfl⟩)
              go_quiet (fail)
              go_wp2
              go_ret2
              exact ⟨_, by rw [hE'.out]; rfl, hG.out _, below_drewN (below_drewN (Below.refl _ _) _) _⟩
            · have hob' : ordB Smp.t l k xt = false := by rw [hob]; exact decide_eq_false hle
              rw [hob', if_neg (by decide)] at hse
              have hS0 := hidden hse
              clear hse hob hob'
              go_upto_region 10 with (go_at_call 22; refine (rstart_any _ _ _).mono ?_; rw [hBG.out]; rintro e w' ⟨rfl, rfl⟩)
              go_quiet (fail)
              go_wp2
              go_roundw
              case rel =>
                refine ⟨k + 1, by omega, by go_num, rfl, fun j hj => ?_, m + nq, rfl⟩
                rcases Nat.lt_or_ge j k with h | h
                · exact herr j h
                · have : j = k := by omega
                  subst this; exact hS0.out
              case measure => simp [intOf]; omega
        · have hec1 : (ec != 0) = true := by simp [hec]
          have hse : stepErr Smp.t (fun _ => 0) d l k = ec := by rw [stepErr_eq Smp.t _ d hX.out hBG.out, if_pos hec]
          have hE := hidden (errOf_at Smp.t (fun _ => 0) d hD.out (by rw [hL.out]; exact hlt) herr (by rw [hse]; exact hec))
          rw [hse] at hE
          have hG : Hid (∀ w', RefResS d l w.heap.size w' (.slice none 0 0)) := fun w' => by unfold RefResS; rw [hE.out, if_neg hec]
          clear hec hse herr
          go_wp2_with (go_at_call 22; refine (rstart_any _ _ _).mono ?_; rw [hBG.out]; rintro e w' ⟨rfl, rfl⟩)
          go_ret2
          exact ⟨_, by rw [hE.out]; rfl, hG.out _, below_drewN (Below.refl _ _) _⟩
      · obtain rfl : k = n := by omega
        have herr0 : ∀ j, j < l.length → stepErr Smp.t (fun _ => 0) d l j = 0 := by rw [hL.out]; exact herr
        have hE := hidden (errOf_none Smp.t (fun _ => 0) d hD.out herr0)
        have hERR := hidden herr0
        have hb0 : Below w.heap.size w (w.drewN m) := below_drewN (Below.refl _ _) _
        have hs0 : w.heap.size ≤ (w.drewN m).heap.size := hb0.size
        have HB0 := hidden hb0
        clear herr herr0 hb0
        generalize w.drewN m = w1 at HB0 hs0 ⊢
        go_wp2
        go_loopw [9, 10] (fun out ii wr => ∃ i : Nat, i ≤ k ∧ ii = .int .i64 i ∧ wr.ownsRow w.heap.size 89 6 out (groupsOf Smp.t d (l.take i)).length (winCells ((groupsOf Smp.t d (l.take i)).map smpWin)) ∧
            (∀ x, l[i]? = some x → (grpScan Smp.t d (l.take i)).2.1 = [] ∨ (grpScan Smp.t d (l.take i)).2.2 ≠ x.t / d * d) ∧ Below w.heap.size w wr) (fun _ ii _ => k - (intOf ii).toNat)
        case atStart => exact ⟨0, Nat.zero_le _, rfl, World.ownsRow_nil _ _ _ _, fun _ _ => .inl rfl, HB0.out⟩
        case round =>
          obtain ⟨i, hik, rfl, hown, hbd, hb⟩ := hrel
          by_cases hlt2 : i < k
          · obtain ⟨gs, o, rfl, x, hx, c0, c1⟩ := smp_cells_at hr hL.out hb i hlt2
            obtain ⟨v1, v2, _, v4⟩ := valid_at Smp.t (fun _ => 0) d (hERR.out i (by rw [hL.out]; exact hlt2)) hx hD.out
            have hbd1 := hidden (hbd x hx)
            have hrise := hidden (fun (k' : Nat) (y : Smp) => times_rise Smp.t (fun _ => 0) d hD.out hERR.out hx k' y)
            have hX := hidden hx
            clear hx c1 hbd
            obtain ⟨xt, xv⟩ := x
            simp only at c0 v1 v2 v4
            have a1 : 0 ≤ xt / d * d := Int.mul_nonneg (Int.ediv_nonneg v1 (by omega)) (by omega)
            have a2 : xt / d * d ≤ xt := Int.ediv_mul_le xt (by omega)
            have hsw := hidden (fun (u : Int) (hu : xt ≤ u) => same_window d1 hu)
            have V4 := hidden v4
            have HB := hidden hb
            have HO := hidden hown
            clear v4 hown
            have hmp : xt < xt / d * d + d := (hsw.out xt (Int.le_refl _)).2 rfl
            generalize hag : xt / d * d = a at *
            have HA := hidden hag
            clear hag
            have hi0 : (0 : Int) ≤ (i : Int) := by omega
            have hi1 : (i : Int) < (k : Int) := by omega
            obtain ⟨wo, rfl⟩ : ∃ wo : World, wo = wr := ⟨_, rfl⟩
            go_wp2_with (go_at_call 22; refine (rstart_any _ _ _).mono ?_; rw [V4.out]; rintro e w' ⟨rfl, rfl⟩)
            go_loop [13] (fun kk => ∃ k1 : Nat, i ≤ k1 ∧ k1 ≤ k ∧ kk = .int .i64 k1 ∧ (∀ j y, i ≤ j → j < k1 → l[j]? = some y → y.t / d * d = a)) (fun kk => k - (intOf kk).toNat)
            case atStart => exact ⟨i, Nat.le_refl _, by omega, rfl, fun j y h1 h2 => absurd h2 (by omega)⟩
            case round =>
              obtain ⟨k1, hk1, hk2, rfl, hsame⟩ := hrel
              by_cases hlt3 : k1 < k
              · obtain ⟨gs', o', hA, y, hy, e0, e1⟩ := smp_cells_at hr hL.out HB.out k1 hlt3
                injection hA with hA
                injection hA with hA1 hA2
                subst hA1 hA2
                have hyt := hrise.out k1 y hk1 hy
                have hsy := hsw.out y.t hyt
                obtain ⟨w1', w2', _, _⟩ := valid_at Smp.t (fun _ => 0) d (hERR.out k1 (by rw [hL.out]; exact hlt3)) hy hD.out
                have HY := hidden hy
                clear hy e1
                obtain ⟨yt, yv⟩ := y
                simp only at e0 hyt hsy w1' w2'
                have hk3 : (k1 : Int) < (k : Int) := by omega
                have hk4 : (0 : Int) ≤ (k1 : Int) := by omega
                have t6 : decide (k1 < k) = true := decide_eq_true hlt3
                have t7 : IntKind.i64.wrap (a + d) = a + d := by rw [IntKind.wrap_i64]; omega
                by_cases hin : yt < a + d
                · have hya := hidden (hsy.1 hin)
                  clear hsy
                  go_wp2
                  go_round
                  case rel =>
                    refine ⟨k1 + 1, by omega, by omega, by go_num, fun j y h1 h2 hy => ?_⟩
                    rcases Nat.lt_or_ge j k1 with h | h
                    · exact hsame j y h1 h hy
                    · have : j = k1 := by omega
                      subst this
                      rw [HY.out] at hy
                      injection hy with hy
                      subst hy
                      exact hya.out
                  case measure => simp [intOf]; omega
                · have hya := hidden (mt hsy.2 hin)
                  clear hsy
                  have hexit : Hid (∀ z, l[k1]? = some z → a ≠ z.t / d * d) := by
                    intro z hz
                    rw [HY.out] at hz
                    injection hz with hz
                    subst hz
                    exact Ne.symm hya.out
                  have hki : i < k1 := by
                    rcases Nat.lt_or_ge i k1 with h | h
                    · exact h
                    · have : k1 = i := by omega
                      subst this
                      have h2 := HY.out
                      rw [hX.out] at h2
                      injection h2 with h2
                      injection h2 with h3 h4
                      subst h3
                      exact absurd hmp hin
                  have hBl : ((l.drop i).take (k1 - i)).length = k1 - i := by rw [List.length_take, List.length_drop, hL.out]; omega
                  have hBne : (l.drop i).take (k1 - i) ≠ [] := by
                    intro h
                    rw [h] at hBl
                    simp at hBl
                    omega
                  have hTk : l.take k1 = l.take i ++ (l.drop i).take (k1 - i) := by
                    conv => lhs; rw [show k1 = i + (k1 - i) from by omega, List.take_add]
                  have hBs : ∀ z ∈ (l.drop i).take (k1 - i), z.t / d * d = a := by
                    intro z hz
                    obtain ⟨j, hj, hjz⟩ := List.mem_iff_getElem.1 hz
                    have hj2 : j < k1 - i := by rw [hBl] at hj; exact hj
                    refine hsame (i + j) z (by omega) (by omega) ?_
                    rw [← hjz, List.getElem_take, List.getElem_drop]
                    exact List.getElem?_eq_getElem _
                  have hbd2 : (grpScan Smp.t d (l.take i)).2.1 = [] ∨ (grpScan Smp.t d (l.take i)).2.2 ≠ a := by have := hbd1.out; first | exact this | (rw [← HA.out]; exact this)
                  obtain ⟨G1, G2⟩ := groups_block Smp.t d hBne hBs hbd2
                  rw [← hTk] at G1 G2
                  have hcnt : (groupsOf Smp.t d (l.take i)).length + 1 ≤ k1 := by
                    have := grp_count Smp.t d (l.take k1)
                    rw [G1, List.length_append, List.length_singleton, List.length_take] at this
                    omega
                  have G1' := hidden G1
                  have G2' := hidden G2
                  have HBl := hidden hBl
                  have hbs : w.heap.size ≤ wo.heap.size := HB.out.size
                  have hrw : Row wo wo.heap.size 2 (some ⟨gs, o + i * 2, none⟩) (k1 - i) (smpCells ((l.drop i).take (k1 - i))) := by
                    have h1 := ((hr.below HB.out).more hbs).cut (i := i) (k := k1) hk1 hk2
                    rw [smpCells_cut] at h1
                    exact h1
                  clear G1 G2 hBl hBne hTk hBs hbd2 hsame c0
                  go_wp2_with fail
                  refine (rfold_any a _ (k1 - i) (cap - i) _ wo hrw HBl.out (by omega) (fun s hs => hok s (List.mem_of_mem_drop (List.mem_of_mem_take hs)))).mono ?_
                  rintro e w10 ⟨rfl, hb10⟩
                  have hW : refWin a ((k1 - i : Nat) : Int) (lastV ((l.drop i).take (k1 - i))) (vals ((l.drop i).take (k1 - i))) (vals ((l.drop i).take (k1 - i))) (vals ((l.drop i).take (k1 - i))) = smpWin (a, (l.drop i).take (k1 - i)) := by unfold smpWin; rw [HBl.out]
                  rw [hW]
                  have hB10 := HB.out.trans (hb10.mono hbs)
                  have hO10 := own_below HO.out hb10 (Nat.le_refl _)
                  have hs10 : w.heap.size ≤ w10.heap.size := hB10.size
                  generalize hw : smpWin (a, (l.drop i).take (k1 - i)) = W
                  have HW := hidden hw
                  clear hW hw hrw hb10
                  obtain ⟨p0, p1, p2, p3, p4, p5⟩ := W
                  rw [show (Win.mk p0 p1 p2 p3 p4 p5).cells.toArray = #[.int .i64 p0, .int .i64 p1, .int .u64 (p2 : Nat), .int .u64 (p3 : Nat), .int .u64 (p4 : Nat), .int .u64 (p5 : Nat)] from rfl]
                  have hB11 := hidden (hB10.alloc hs10 (Obj.cells #[.int .i64 p0, .int .i64 p1, .int .u64 (p2 : Nat), .int .u64 (p3 : Nat), .int .u64 (p4 : Nat), .int .u64 (p5 : Nat)] 89))
                  have hO11 := hO10.alloc (Obj.cells #[.int .i64 p0, .int .i64 p1, .int .u64 (p2 : Nat), .int .u64 (p3 : Nat), .int .u64 (p4 : Nat), .int .u64 (p5 : Nat)] 89)
                  have hfr := Row.fresh (w10.alloc (Obj.cells #[.int .i64 p0, .int .i64 p1, .int .u64 (p2 : Nat), .int .u64 (p3 : Nat), .int .u64 (p4 : Nat), .int .u64 (p5 : Nat)] 89)) 89 6 1 [.int .i64 p0, .int .i64 p1, .int .u64 (p2 : Nat), .int .u64 (p3 : Nat), .int .u64 (p4 : Nat), .int .u64 (p5 : Nat)] rfl
                  rw [World.size_alloc] at hfr
                  clear hB10 hO10
                  go_wp2_with (at_builtin; refine wpList_app _ rfl _ _ 83 rfl w.heap.size 89 i0 _ 6 48 Try.underlying83 hi iz0 iz1 iz2 rfl (by decide) _ _ _ rfl (hO11.alloc _) _ _ _ _ _ rfl hfr (by simp [Value.oneCell']) (by unfold maxLen; omega) (by omega) (by simp; omega) ?_; intro v1 w11 hown1 hg1 hat1)
                  go_roundw
                  case rel =>
                    refine ⟨k1, hk2, rfl, ?_, ?_, ?_⟩
                    · rw [G1'.out, List.length_append, List.map_append, winCells_append]
                      rw [show winCells ([(a, (l.drop i).take (k1 - i))].map smpWin) = [.int .i64 p0, .int .i64 p1, .int .u64 (p2 : Nat), .int .u64 (p3 : Nat), .int .u64 (p4 : Nat), .int .u64 (p5 : Nat)] from by rw [List.map_singleton, HW.out]; rfl]
                      exact hown1
                    · intro z hz
                      rw [G2'.out]
                      exact .inr (hexit.out z hz)
                    · exact (hB11.out.alloc (by simp; omega) _).grown hg1 (by simp; omega) (fun j hj => (hO11.lt j hj).1)
                  case measure => simp [intOf]; omega
              · obtain rfl : k1 = k := by omega
                have hexit : Hid (∀ z, l[k1]? = some z → a ≠ z.t / d * d) := by
                  intro z hz
                  rw [List.getElem?_eq_none (by rw [hL.out]; exact Nat.le_refl _)] at hz
                  cases hz
                have hki : i < k1 := hlt2
                have hBl : ((l.drop i).take (k1 - i)).length = k1 - i := by rw [List.length_take, List.length_drop, hL.out]; omega
                have hBne : (l.drop i).take (k1 - i) ≠ [] := by
                  intro h
                  rw [h] at hBl
                  simp at hBl
                  omega
                have hTk : l.take k1 = l.take i ++ (l.drop i).take (k1 - i) := by
                  conv => lhs; rw [show k1 = i + (k1 - i) from by omega, List.take_add]
                have hBs : ∀ z ∈ (l.drop i).take (k1 - i), z.t / d * d = a := by
                  intro z hz
                  obtain ⟨j, hj, hjz⟩ := List.mem_iff_getElem.1 hz
                  have hj2 : j < k1 - i := by rw [hBl] at hj; exact hj
                  refine hsame (i + j) z (by omega) (by omega) ?_
                  rw [← hjz, List.getElem_take, List.getElem_drop]
                  exact List.getElem?_eq_getElem _
                have hbd2 : (grpScan Smp.t d (l.take i)).2.1 = [] ∨ (grpScan Smp.t d (l.take i)).2.2 ≠ a := by have := hbd1.out; first | exact this | (rw [← HA.out]; exact this)
                obtain ⟨G1, G2⟩ := groups_block Smp.t d hBne hBs hbd2
                rw [← hTk] at G1 G2
                have hcnt : (groupsOf Smp.t d (l.take i)).length + 1 ≤ k1 := by
                  have := grp_count Smp.t d (l.take k1)
                  rw [G1, List.length_append, List.length_singleton, List.length_take] at this
                  omega
                have G1' := hidden G1
                have G2' := hidden G2
                have HBl := hidden hBl
                have hbs : w.heap.size ≤ wo.heap.size := HB.out.size
                have hrw : Row wo wo.heap.size 2 (some ⟨gs, o + i * 2, none⟩) (k1 - i) (smpCells ((l.drop i).take (k1 - i))) := by
                  have h1 := ((hr.below HB.out).more hbs).cut (i := i) (k := k1) hk1 hk2
                  rw [smpCells_cut] at h1
                  exact h1
                clear G1 G2 hBl hBne hTk hBs hbd2 hsame c0
                go_wp2_with fail
                refine (rfold_any a _ (k1 - i) (cap - i) _ wo hrw HBl.out (by omega) (fun s hs => hok s (List.mem_of_mem_drop (List.mem_of_mem_take hs)))).mono ?_
                rintro e w10 ⟨rfl, hb10⟩
                have hW : refWin a ((k1 - i : Nat) : Int) (lastV ((l.drop i).take (k1 - i))) (vals ((l.drop i).take (k1 - i))) (vals ((l.drop i).take (k1 - i))) (vals ((l.drop i).take (k1 - i))) = smpWin (a, (l.drop i).take (k1 - i)) := by unfold smpWin; rw [HBl.out]
                rw [hW]
                have hB10 := HB.out.trans (hb10.mono hbs)
                have hO10 := own_below HO.out hb10 (Nat.le_refl _)
                have hs10 : w.heap.size ≤ w10.heap.size := hB10.size
                generalize hw : smpWin (a, (l.drop i).take (k1 - i)) = W
                have HW := hidden hw
                clear hW hw hrw hb10
                obtain ⟨p0, p1, p2, p3, p4, p5⟩ := W
                rw [show (Win.mk p0 p1 p2 p3 p4 p5).cells.toArray = #[.int .i64 p0, .int .i64 p1, .int .u64 (p2 : Nat), .int .u64 (p3 : Nat), .int .u64 (p4 : Nat), .int .u64 (p5 : Nat)] from rfl]
                have hB11 := hidden (hB10.alloc hs10 (Obj.cells #[.int .i64 p0, .int .i64 p1, .int .u64 (p2 : Nat), .int .u64 (p3 : Nat), .int .u64 (p4 : Nat), .int .u64 (p5 : Nat)] 89))
                have hO11 := hO10.alloc (Obj.cells #[.int .i64 p0, .int .i64 p1, .int .u64 (p2 : Nat), .int .u64 (p3 : Nat), .int .u64 (p4 : Nat), .int .u64 (p5 : Nat)] 89)
                have hfr := Row.fresh (w10.alloc (Obj.cells #[.int .i64 p0, .int .i64 p1, .int .u64 (p2 : Nat), .int .u64 (p3 : Nat), .int .u64 (p4 : Nat), .int .u64 (p5 : Nat)] 89)) 89 6 1 [.int .i64 p0, .int .i64 p1, .int .u64 (p2 : Nat), .int .u64 (p3 : Nat), .int .u64 (p4 : Nat), .int .u64 (p5 : Nat)] rfl
                rw [World.size_alloc] at hfr
                clear hB10 hO10
                go_wp2_with (at_builtin; refine wpList_app _ rfl _ _ 83 rfl w.heap.size 89 i0 _ 6 48 Try.underlying83 hi iz0 iz1 iz2 rfl (by decide) _ _ _ rfl (hO11.alloc _) _ _ _ _ _ rfl hfr (by simp [Value.oneCell']) (by unfold maxLen; omega) (by omega) (by simp; omega) ?_; intro v1 w11 hown1 hg1 hat1)
                go_roundw
                case rel =>
                  refine ⟨k1, hk2, rfl, ?_, ?_, ?_⟩
                  · rw [G1'.out, List.length_append, List.map_append, winCells_append]
                    rw [show winCells ([(a, (l.drop i).take (k1 - i))].map smpWin) = [.int .i64 p0, .int .i64 p1, .int .u64 (p2 : Nat), .int .u64 (p3 : Nat), .int .u64 (p4 : Nat), .int .u64 (p5 : Nat)] from by rw [List.map_singleton, HW.out]; rfl]
                    exact hown1
                  · intro z hz
                    rw [G2'.out]
                    exact .inr (hexit.out z hz)
                  · exact (hB11.out.alloc (by simp; omega) _).grown hg1 (by simp; omega) (fun j hj => (hO11.lt j hj).1)
                case measure => simp [intOf]; omega
          · obtain rfl : i = k := by omega
            rw [List.take_of_length_le (by rw [hL.out]; exact Nat.le_refl _)] at hown
            clear hbd
            go_wp2
            go_ret2
            exact ⟨_, by rw [hE.out]; rfl, by unfold RefResS; rw [hE.out, if_pos rfl]; exact hown, hb⟩

end Go.Proofs.Ytohocdbneopooaa

namespace Go.Proofs.Ytohocdbneopooaa
set_option maxRecDepth 100000
open Go.RowKit

/-- what the reference's Widen answers -/
def RefResW (d : Int) (l : List Win) (B : Nat) (w' : World) (v : Value) : Prop :=
  if errOf Win.start badWin d l = 0 then w'.ownsRow B 89 6 v (groupsOf Win.start d l).length (winCells ((groupsOf Win.start d l).map winWin)) else v = .slice none 0 0

set_option maxRecDepth 100000 in
set_option maxHeartbeats 3200000 in
theorem rwiden_any (d : Int) (A : Option Addr) (n cap : Nat) (l : List Win) (w : World) (hr : Row w w.heap.size 6 A n (winCells l)) (hl : l.length = n) (hnc : n ≤ cap) (hn : n * 48 ≤ 140737488351232) (hok : ∀ s ∈ l, s.ok) :
    Calls Try.prog 51 #[.int .i64 d, .slice A n cap] w
      fun e w' => ∃ v, e = .returned (.tuple #[v, .int .i64 (errOf Win.start badWin d l)]) ∧ RefResW d l w.heap.size w' v ∧ Below w.heap.size w w' := by
  obtain ⟨i0, hi, iz0, iz1, iz2⟩ := info_parts info_rwin
  have hL := hidden hl
  clear hl
  by_cases hd : d < 1 ∨ 1099511627776 < d
  · have hE := hidden (errOf_width Win.start badWin d l hd)
    have hG : Hid (∀ w', RefResW d l w.heap.size w' (.slice none 0 0)) := fun w' => by unfold RefResW; rw [hE.out, if_neg (by decide)]
    have hB := hidden (beginOf_width 0 d hd)
    clear hd
    go_enter Try.func51, Try.ntmps51
    go_wp2_with (go_at_call 22; refine (rstart_any _ _ _).mono ?_; rw [hB.out]; rintro e w' ⟨rfl, rfl⟩)
    go_ret2
    exact ⟨_, by rw [hE.out]; rfl, hG.out _, Below.refl _ _⟩
  · have d1 : 1 ≤ d := by omega
    have d2 : d ≤ 1099511627776 := by omega
    have hD := hidden hd
    have hB := hidden (beginOf_ok 0 d hd (by omega))
    clear hd
    go_enter Try.func51, Try.ntmps51
    go_wp2_with (go_at_call 22; refine (rstart_any _ _ _).mono ?_; rw [hB.out]; rintro e w' ⟨rfl, rfl⟩)
    go_loopw [7, 8] (fun e i wr => ∃ k : Nat, k ≤ n ∧ i = .int .i64 k ∧ e = .int .i64 0 ∧ (∀ j, j < k → stepErr Win.start badWin d l j = 0) ∧ ∃ m, wr = w.drewN m) (fun _ i _ => n - (intOf i).toNat)
    case atStart => exact ⟨0, Nat.zero_le _, rfl, rfl, fun j hj => absurd hj (by omega), 0, rfl⟩
    case round =>
      obtain ⟨k, hk, rfl, rfl, herr, m, rfl⟩ := hrel
      by_cases hlt : k < n
      · obtain ⟨gs, o, rfl, _, x, hx, c0, c1, _, _, _, _⟩ := win_cells_at hr hL.out (Below.refl _ w) k hlt
        have hX := hidden hx
        clear hx
        obtain ⟨xt, xc, xs, xm, xM, xl⟩ := x
        simp only at c0 c1
        have hlt' : (k : Int) < (n : Int) := by omega
        have hk0' : (0 : Int) ≤ (k : Int) := by omega
        generalize hbg : beginOf xt d = bg
        have hBG := hidden hbg
        clear hbg
        obtain ⟨b, ec⟩ := bg
        by_cases hec : ec = 0
        · have hec1 : (ec != 0) = false := by simp [hec]
          have HEC := hidden hec
          have hse := stepErr_eq Win.start badWin d hX.out hBG.out
          rw [if_neg (by rw [hec]; decide)] at hse
          subst hec
          by_cases hk0 : k = 0
          · have hob : ordB Win.start l k xt = false := by rw [hk0]; rfl
            rw [hob, if_neg (by decide)] at hse
            have t6 : decide (0 < k) = false := by rw [decide_eq_false_iff_not]; omega
            have HK := hidden hk0
            clear hk0
            by_cases hct : xc < 1
            · have hbw : badWin ⟨xt, xc, xs, xm, xM, xl⟩ = 110 := if_pos hct
              rw [hbw] at hse
              have hE := hidden (errOf_at Win.start badWin d hD.out (by rw [hL.out]; exact hlt) herr (by rw [hse]; decide))
              have hE' : Hid (errOf Win.start badWin d l = 110) := by have := hE.out; rw [hse] at this; exact this
              have hG : Hid (∀ w', RefResW d l w.heap.size w' (.slice none 0 0)) := fun w' => by unfold RefResW; rw [hE'.out, if_neg (by decide)]
              clear hse herr hE hob hbw
              go_upto_region 10 with (go_at_call 22; refine (rstart_any _ _ _).mono ?_; rw [hBG.out]; rintro e w' ⟨rfl, rfl⟩)
              go_quiet (fail)
              go_wp2
              go_ret2
              exact ⟨_, by rw [hE'.out]; rfl, hG.out _, below_drewN (Below.refl _ _) _⟩
            have hbw : badWin ⟨xt, xc, xs, xm, xM, xl⟩ = 0 := if_neg hct
            rw [hbw] at hse
            clear hbw
            have hS0 := hidden hse
            clear hse hob
            go_upto_region 10 with (go_at_call 22; refine (rstart_any _ _ _).mono ?_; rw [hBG.out]; rintro e w' ⟨rfl, rfl⟩)
            go_quiet (fail)
            go_wp2
            go_roundw
            case rel =>
              refine ⟨k + 1, by omega, by go_num, rfl, fun j hj => ?_, m + nq, rfl⟩
              rcases Nat.lt_or_ge j k with h | h
              · exact herr j h
              · have : j = k := by omega
                subst this; exact hS0.out
            case measure => simp [intOf]; omega
          · obtain ⟨j, hj⟩ : ∃ j, k = j + 1 := ⟨k - 1, by omega⟩
            obtain ⟨gs', o', hA, _, z, hz, e0, _, _, _, _, _⟩ := win_cells_at hr hL.out (Below.refl _ w) j (by omega)
            injection hA with hA
            injection hA with hA1 hA2
            subst hA1 hA2
            have hob : ordB Win.start l k xt = decide (xt ≤ z.start) := by rw [hj, ordB_succ Win.start hz]
            clear hz
            obtain ⟨zt, zc, zs, zm, zM, zl⟩ := z
            simp only at e0 hob
            have t3 : IntKind.i64.wrap ((k : Int) - 1) = (j : Int) := by rw [IntKind.wrap_i64]; omega
            have t4 : (j : Int) < (n : Int) := by omega
            have t5 : (0 : Int) ≤ (j : Int) := by omega
            have t6 : decide (0 < k) = true := by rw [decide_eq_true_eq]; omega
            have hj0 := hidden hj
            clear hj hk0
            by_cases hle : xt ≤ zt
            · have hob' : ordB Win.start l k xt = true := by rw [hob]; exact decide_eq_true hle
              rw [hob', if_pos rfl] at hse
              have hE := hidden (errOf_at Win.start badWin d hD.out (by rw [hL.out]; exact hlt) herr (by rw [hse]; decide))
              have hE' : Hid (errOf Win.start badWin d l = 90) := by have := hE.out; rw [hse] at this; exact this
              have hG : Hid (∀ w', RefResW d l w.heap.size w' (.slice none 0 0)) := fun w' => by unfold RefResW; rw [hE'.out, if_neg (by decide)]
              clear hse herr hE hob hob'
              go_upto_region 10 with (go_at_call 22; refine (rstart_any _ _ _).mono ?_; rw [hBG.out]; rintro e w' ⟨rfl, rfl⟩)
              go_quiet (fail)
              go_wp2
              go_ret2
              exact ⟨_, by rw [hE'.out]; rfl, hG.out _, below_drewN (below_drewN (Below.refl _ _) _) _⟩
            · have hob' : ordB Win.start l k xt = false := by rw [hob]; exact decide_eq_false hle
              rw [hob', if_neg (by decide)] at hse
              by_cases hct : xc < 1
              · have hbw : badWin ⟨xt, xc, xs, xm, xM, xl⟩ = 110 := if_pos hct
                rw [hbw] at hse
                have hE := hidden (errOf_at Win.start badWin d hD.out (by rw [hL.out]; exact hlt) herr (by rw [hse]; decide))
                have hE' : Hid (errOf Win.start badWin d l = 110) := by have := hE.out; rw [hse] at this; exact this
                have hG : Hid (∀ w', RefResW d l w.heap.size w' (.slice none 0 0)) := fun w' => by unfold RefResW; rw [hE'.out, if_neg (by decide)]
                clear hse herr hE hob hob' hbw
                go_upto_region 10 with (go_at_call 22; refine (rstart_any _ _ _).mono ?_; rw [hBG.out]; rintro e w' ⟨rfl, rfl⟩)
                go_quiet (fail)
                go_wp2
                go_ret2
                exact ⟨_, by rw [hE'.out]; rfl, hG.out _, below_drewN (Below.refl _ _) _⟩
              have hbw : badWin ⟨xt, xc, xs, xm, xM, xl⟩ = 0 := if_neg hct
              rw [hbw] at hse
              clear hbw
              have hS0 := hidden hse
              clear hse hob hob'
              go_upto_region 10 with (go_at_call 22; refine (rstart_any _ _ _).mono ?_; rw [hBG.out]; rintro e w' ⟨rfl, rfl⟩)
              go_quiet (fail)
              go_wp2
              go_roundw
              case rel =>
                refine ⟨k + 1, by omega, by go_num, rfl, fun j hj => ?_, m + nq, rfl⟩
                rcases Nat.lt_or_ge j k with h | h
                · exact herr j h
                · have : j = k := by omega
                  subst this; exact hS0.out
              case measure => simp [intOf]; omega
        · have hec1 : (ec != 0) = true := by simp [hec]
          have hse : stepErr Win.start badWin d l k = ec := by rw [stepErr_eq Win.start _ d hX.out hBG.out, if_pos hec]
          have hE := hidden (errOf_at Win.start badWin d hD.out (by rw [hL.out]; exact hlt) herr (by rw [hse]; exact hec))
          rw [hse] at hE
          have hG : Hid (∀ w', RefResW d l w.heap.size w' (.slice none 0 0)) := fun w' => by unfold RefResW; rw [hE.out, if_neg hec]
          clear hec hse herr
          go_wp2_with (go_at_call 22; refine (rstart_any _ _ _).mono ?_; rw [hBG.out]; rintro e w' ⟨rfl, rfl⟩)
          go_ret2
          exact ⟨_, by rw [hE.out]; rfl, hG.out _, below_drewN (Below.refl _ _) _⟩
      · obtain rfl : k = n := by omega
        have herr0 : ∀ j, j < l.length → stepErr Win.start badWin d l j = 0 := by rw [hL.out]; exact herr
        have hE := hidden (errOf_none Win.start badWin d hD.out herr0)
        have hERR := hidden herr0
        have hb0 : Below w.heap.size w (w.drewN m) := below_drewN (Below.refl _ _) _
        have hs0 : w.heap.size ≤ (w.drewN m).heap.size := hb0.size
        have HB0 := hidden hb0
        clear herr herr0 hb0
        generalize w.drewN m = w1 at HB0 hs0 ⊢
        go_wp2
        go_loopw [9, 10] (fun out ii wr => ∃ i : Nat, i ≤ k ∧ ii = .int .i64 i ∧ wr.ownsRow w.heap.size 89 6 out (groupsOf Win.start d (l.take i)).length (winCells ((groupsOf Win.start d (l.take i)).map winWin)) ∧
            (∀ x, l[i]? = some x → (grpScan Win.start d (l.take i)).2.1 = [] ∨ (grpScan Win.start d (l.take i)).2.2 ≠ x.start / d * d) ∧ Below w.heap.size w wr) (fun _ ii _ => k - (intOf ii).toNat)
        case atStart => exact ⟨0, Nat.zero_le _, rfl, World.ownsRow_nil _ _ _ _, fun _ _ => .inl rfl, HB0.out⟩
        case round =>
          obtain ⟨i, hik, rfl, hown, hbd, hb⟩ := hrel
          by_cases hlt2 : i < k
          · obtain ⟨gs, o, rfl, _, x, hx, c0, _, _, _, _, _⟩ := win_cells_at hr hL.out hb i hlt2
            obtain ⟨v1, v2, _, v4⟩ := valid_at Win.start badWin d (hERR.out i (by rw [hL.out]; exact hlt2)) hx hD.out
            have hbd1 := hidden (hbd x hx)
            have hrise := hidden (fun (k' : Nat) (y : Win) => times_rise Win.start badWin d hD.out hERR.out hx k' y)
            have hX := hidden hx
            clear hx hbd
            obtain ⟨xt, xc, xs, xm, xM, xl⟩ := x
            simp only at c0 v1 v2 v4
            have a1 : 0 ≤ xt / d * d := Int.mul_nonneg (Int.ediv_nonneg v1 (by omega)) (by omega)
            have a2 : xt / d * d ≤ xt := Int.ediv_mul_le xt (by omega)
            have hsw := hidden (fun (u : Int) (hu : xt ≤ u) => same_window d1 hu)
            have V4 := hidden v4
            have HB := hidden hb
            have HO := hidden hown
            clear v4 hown
            have hmp : xt < xt / d * d + d := (hsw.out xt (Int.le_refl _)).2 rfl
            generalize hag : xt / d * d = a at *
            have HA := hidden hag
            clear hag
            have hi0 : (0 : Int) ≤ (i : Int) := by omega
            have hi1 : (i : Int) < (k : Int) := by omega
            obtain ⟨wo, rfl⟩ : ∃ wo : World, wo = wr := ⟨_, rfl⟩
            go_wp2_with (go_at_call 22; refine (rstart_any _ _ _).mono ?_; rw [V4.out]; rintro e w' ⟨rfl, rfl⟩)
            go_loop [13] (fun kk => ∃ k1 : Nat, i ≤ k1 ∧ k1 ≤ k ∧ kk = .int .i64 k1 ∧ (∀ j y, i ≤ j → j < k1 → l[j]? = some y → y.start / d * d = a)) (fun kk => k - (intOf kk).toNat)
            case atStart => exact ⟨i, Nat.le_refl _, by omega, rfl, fun j y h1 h2 => absurd h2 (by omega)⟩
            case round =>
              obtain ⟨k1, hk1, hk2, rfl, hsame⟩ := hrel
              by_cases hlt3 : k1 < k
              · obtain ⟨gs', o', hA, _, y, hy, e0, _, _, _, _, _⟩ := win_cells_at hr hL.out HB.out k1 hlt3
                injection hA with hA
                injection hA with hA1 hA2
                subst hA1 hA2
                have hyt := hrise.out k1 y hk1 hy
                have hsy := hsw.out y.start hyt
                obtain ⟨w1', w2', _, _⟩ := valid_at Win.start badWin d (hERR.out k1 (by rw [hL.out]; exact hlt3)) hy hD.out
                have HY := hidden hy
                clear hy
                obtain ⟨yt, yc, ys, ym, yM, yl⟩ := y
                simp only at e0 hyt hsy w1' w2'
                have hk3 : (k1 : Int) < (k : Int) := by omega
                have hk4 : (0 : Int) ≤ (k1 : Int) := by omega
                have t6 : decide (k1 < k) = true := decide_eq_true hlt3
                have t7 : IntKind.i64.wrap (a + d) = a + d := by rw [IntKind.wrap_i64]; omega
                by_cases hin : yt < a + d
                · have hya := hidden (hsy.1 hin)
                  clear hsy
                  go_wp2
                  go_round
                  case rel =>
                    refine ⟨k1 + 1, by omega, by omega, by go_num, fun j y h1 h2 hy => ?_⟩
                    rcases Nat.lt_or_ge j k1 with h | h
                    · exact hsame j y h1 h hy
                    · have : j = k1 := by omega
                      subst this
                      rw [HY.out] at hy
                      injection hy with hy
                      subst hy
                      exact hya.out
                  case measure => simp [intOf]; omega
                · have hya := hidden (mt hsy.2 hin)
                  clear hsy
                  have hexit : Hid (∀ z, l[k1]? = some z → a ≠ z.start / d * d) := by
                    intro z hz
                    rw [HY.out] at hz
                    injection hz with hz
                    subst hz
                    exact Ne.symm hya.out
                  have hki : i < k1 := by
                    rcases Nat.lt_or_ge i k1 with h | h
                    · exact h
                    · have : k1 = i := by omega
                      subst this
                      have h2 := HY.out
                      rw [hX.out] at h2
                      injection h2 with h2
                      injection h2 with h3 h4
                      subst h3
                      exact absurd hmp hin
                  have hBl : ((l.drop i).take (k1 - i)).length = k1 - i := by rw [List.length_take, List.length_drop, hL.out]; omega
                  have hBne : (l.drop i).take (k1 - i) ≠ [] := by
                    intro h
                    rw [h] at hBl
                    simp at hBl
                    omega
                  have hTk : l.take k1 = l.take i ++ (l.drop i).take (k1 - i) := by
                    conv => lhs; rw [show k1 = i + (k1 - i) from by omega, List.take_add]
                  have hBs : ∀ z ∈ (l.drop i).take (k1 - i), z.start / d * d = a := by
                    intro z hz
                    obtain ⟨j, hj, hjz⟩ := List.mem_iff_getElem.1 hz
                    have hj2 : j < k1 - i := by rw [hBl] at hj; exact hj
                    refine hsame (i + j) z (by omega) (by omega) ?_
                    rw [← hjz, List.getElem_take, List.getElem_drop]
                    exact List.getElem?_eq_getElem _
                  have hbd2 : (grpScan Win.start d (l.take i)).2.1 = [] ∨ (grpScan Win.start d (l.take i)).2.2 ≠ a := by have := hbd1.out; first | exact this | (rw [← HA.out]; exact this)
                  obtain ⟨G1, G2⟩ := groups_block Win.start d hBne hBs hbd2
                  rw [← hTk] at G1 G2
                  have hcnt : (groupsOf Win.start d (l.take i)).length + 1 ≤ k1 := by
                    have := grp_count Win.start d (l.take k1)
                    rw [G1, List.length_append, List.length_singleton, List.length_take] at this
                    omega
                  have G1' := hidden G1
                  have G2' := hidden G2
                  have HBl := hidden hBl
                  have hbs : w.heap.size ≤ wo.heap.size := HB.out.size
                  have hrw : Row wo wo.heap.size 6 (some ⟨gs, o + i * 6, none⟩) (k1 - i) (winCells ((l.drop i).take (k1 - i))) := by
                    have h1 := ((hr.below HB.out).more hbs).cut (i := i) (k := k1) hk1 hk2
                    rw [winCells_cut] at h1
                    exact h1
                  clear G1 G2 hBl hBne hTk hBs hbd2 hsame c0
                  go_wp2_with fail
                  refine (rmerge_any a _ (k1 - i) (cap - i) _ wo hrw HBl.out (by omega) (fun s hs => hok s (List.mem_of_mem_drop (List.mem_of_mem_take hs)))).mono ?_
                  rintro e w10 ⟨rfl, hb10⟩
                  have hB10 := HB.out.trans (hb10.mono hbs)
                  have hO10 := own_below HO.out hb10 (Nat.le_refl _)
                  have hs10 : w.heap.size ≤ w10.heap.size := hB10.size
                  generalize hw : mergeWin a ((l.drop i).take (k1 - i)) = W
                  have HW := hidden hw
                  clear hw hrw hb10
                  obtain ⟨p0, p1, p2, p3, p4, p5⟩ := W
                  rw [show (Win.mk p0 p1 p2 p3 p4 p5).cells.toArray = #[.int .i64 p0, .int .i64 p1, .int .u64 (p2 : Nat), .int .u64 (p3 : Nat), .int .u64 (p4 : Nat), .int .u64 (p5 : Nat)] from rfl]
                  have hB11 := hidden (hB10.alloc hs10 (Obj.cells #[.int .i64 p0, .int .i64 p1, .int .u64 (p2 : Nat), .int .u64 (p3 : Nat), .int .u64 (p4 : Nat), .int .u64 (p5 : Nat)] 89))
                  have hO11 := hO10.alloc (Obj.cells #[.int .i64 p0, .int .i64 p1, .int .u64 (p2 : Nat), .int .u64 (p3 : Nat), .int .u64 (p4 : Nat), .int .u64 (p5 : Nat)] 89)
                  have hfr := Row.fresh (w10.alloc (Obj.cells #[.int .i64 p0, .int .i64 p1, .int .u64 (p2 : Nat), .int .u64 (p3 : Nat), .int .u64 (p4 : Nat), .int .u64 (p5 : Nat)] 89)) 89 6 1 [.int .i64 p0, .int .i64 p1, .int .u64 (p2 : Nat), .int .u64 (p3 : Nat), .int .u64 (p4 : Nat), .int .u64 (p5 : Nat)] rfl
                  rw [World.size_alloc] at hfr
                  clear hB10 hO10
                  go_wp2_with (at_builtin; refine wpList_app _ rfl _ _ 83 rfl w.heap.size 89 i0 _ 6 48 Try.underlying83 hi iz0 iz1 iz2 rfl (by decide) _ _ _ rfl (hO11.alloc _) _ _ _ _ _ rfl hfr (by simp [Value.oneCell']) (by unfold maxLen; omega) (by omega) (by simp; omega) ?_; intro v1 w11 hown1 hg1 hat1)
                  go_roundw
                  case rel =>
                    refine ⟨k1, hk2, rfl, ?_, ?_, ?_⟩
                    · rw [G1'.out, List.length_append, List.map_append, winCells_append]
                      rw [show winCells ([(a, (l.drop i).take (k1 - i))].map winWin) = [.int .i64 p0, .int .i64 p1, .int .u64 (p2 : Nat), .int .u64 (p3 : Nat), .int .u64 (p4 : Nat), .int .u64 (p5 : Nat)] from by rw [List.map_singleton]; show winCells [mergeWin a ((l.drop i).take (k1 - i))] = _; rw [HW.out]; rfl]
                      exact hown1
                    · intro z hz
                      rw [G2'.out]
                      exact .inr (hexit.out z hz)
                    · exact (hB11.out.alloc (by simp; omega) _).grown hg1 (by simp; omega) (fun j hj => (hO11.lt j hj).1)
                  case measure => simp [intOf]; omega
              · obtain rfl : k1 = k := by omega
                have hexit : Hid (∀ z, l[k1]? = some z → a ≠ z.start / d * d) := by
                  intro z hz
                  rw [List.getElem?_eq_none (by rw [hL.out]; exact Nat.le_refl _)] at hz
                  cases hz
                have hki : i < k1 := hlt2
                have hBl : ((l.drop i).take (k1 - i)).length = k1 - i := by rw [List.length_take, List.length_drop, hL.out]; omega
                have hBne : (l.drop i).take (k1 - i) ≠ [] := by
                  intro h
                  rw [h] at hBl
                  simp at hBl
                  omega
                have hTk : l.take k1 = l.take i ++ (l.drop i).take (k1 - i) := by
                  conv => lhs; rw [show k1 = i + (k1 - i) from by omega, List.take_add]
                have hBs : ∀ z ∈ (l.drop i).take (k1 - i), z.start / d * d = a := by
                  intro z hz
                  obtain ⟨j, hj, hjz⟩ := List.mem_iff_getElem.1 hz
                  have hj2 : j < k1 - i := by rw [hBl] at hj; exact hj
                  refine hsame (i + j) z (by omega) (by omega) ?_
                  rw [← hjz, List.getElem_take, List.getElem_drop]
                  exact List.getElem?_eq_getElem _
                have hbd2 : (grpScan Win.start d (l.take i)).2.1 = [] ∨ (grpScan Win.start d (l.take i)).2.2 ≠ a := by have := hbd1.out; first | exact this | (rw [← HA.out]; exact this)
                obtain ⟨G1, G2⟩ := groups_block Win.start d hBne hBs hbd2
                rw [← hTk] at G1 G2
                have hcnt : (groupsOf Win.start d (l.take i)).length + 1 ≤ k1 := by
                  have := grp_count Win.start d (l.take k1)
                  rw [G1, List.length_append, List.length_singleton, List.length_take] at this
                  omega
                have G1' := hidden G1
                have G2' := hidden G2
                have HBl := hidden hBl
                have hbs : w.heap.size ≤ wo.heap.size := HB.out.size
                have hrw : Row wo wo.heap.size 6 (some ⟨gs, o + i * 6, none⟩) (k1 - i) (winCells ((l.drop i).take (k1 - i))) := by
                  have h1 := ((hr.below HB.out).more hbs).cut (i := i) (k := k1) hk1 hk2
                  rw [winCells_cut] at h1
                  exact h1
                clear G1 G2 hBl hBne hTk hBs hbd2 hsame c0
                go_wp2_with fail
                refine (rmerge_any a _ (k1 - i) (cap - i) _ wo hrw HBl.out (by omega) (fun s hs => hok s (List.mem_of_mem_drop (List.mem_of_mem_take hs)))).mono ?_
                rintro e w10 ⟨rfl, hb10⟩
                have hB10 := HB.out.trans (hb10.mono hbs)
                have hO10 := own_below HO.out hb10 (Nat.le_refl _)
                have hs10 : w.heap.size ≤ w10.heap.size := hB10.size
                generalize hw : mergeWin a ((l.drop i).take (k1 - i)) = W
                have HW := hidden hw
                clear hw hrw hb10
                obtain ⟨p0, p1, p2, p3, p4, p5⟩ := W
                rw [show (Win.mk p0 p1 p2 p3 p4 p5).cells.toArray = #[.int .i64 p0, .int .i64 p1, .int .u64 (p2 : Nat), .int .u64 (p3 : Nat), .int .u64 (p4 : Nat), .int .u64 (p5 : Nat)] from rfl]
                have hB11 := hidden (hB10.alloc hs10 (Obj.cells #[.int .i64 p0, .int .i64 p1, .int .u64 (p2 : Nat), .int .u64 (p3 : Nat), .int .u64 (p4 : Nat), .int .u64 (p5 : Nat)] 89))
                have hO11 := hO10.alloc (Obj.cells #[.int .i64 p0, .int .i64 p1, .int .u64 (p2 : Nat), .int .u64 (p3 : Nat), .int .u64 (p4 : Nat), .int .u64 (p5 : Nat)] 89)
                have hfr := Row.fresh (w10.alloc (Obj.cells #[.int .i64 p0, .int .i64 p1, .int .u64 (p2 : Nat), .int .u64 (p3 : Nat), .int .u64 (p4 : Nat), .int .u64 (p5 : Nat)] 89)) 89 6 1 [.int .i64 p0, .int .i64 p1, .int .u64 (p2 : Nat), .int .u64 (p3 : Nat), .int .u64 (p4 : Nat), .int .u64 (p5 : Nat)] rfl
                rw [World.size_alloc] at hfr
                clear hB10 hO10
                go_wp2_with (at_builtin; refine wpList_app _ rfl _ _ 83 rfl w.heap.size 89 i0 _ 6 48 Try.underlying83 hi iz0 iz1 iz2 rfl (by decide) _ _ _ rfl (hO11.alloc _) _ _ _ _ _ rfl hfr (by simp [Value.oneCell']) (by unfold maxLen; omega) (by omega) (by simp; omega) ?_; intro v1 w11 hown1 hg1 hat1)
                go_roundw
                case rel =>
                  refine ⟨k1, hk2, rfl, ?_, ?_, ?_⟩
                  · rw [G1'.out, List.length_append, List.map_append, winCells_append]
                    rw [show winCells ([(a, (l.drop i).take (k1 - i))].map winWin) = [.int .i64 p0, .int .i64 p1, .int .u64 (p2 : Nat), .int .u64 (p3 : Nat), .int .u64 (p4 : Nat), .int .u64 (p5 : Nat)] from by rw [List.map_singleton]; show winCells [mergeWin a ((l.drop i).take (k1 - i))] = _; rw [HW.out]; rfl]
                    exact hown1
                  · intro z hz
                    rw [G2'.out]
                    exact .inr (hexit.out z hz)
                  · exact (hB11.out.alloc (by simp; omega) _).grown hg1 (by simp; omega) (fun j hj => (hO11.lt j hj).1)
                case measure => simp [intOf]; omega
          · obtain rfl : i = k := by omega
            rw [List.take_of_length_le (by rw [hL.out]; exact Nat.le_refl _)] at hown
            clear hbd
            go_wp2
            go_ret2
            exact ⟨_, by rw [hE.out]; rfl, by unfold RefResW; rw [hE.out, if_pos rfl]; exact hown, hb⟩

end Go.Proofs.Ytohocdbneopooaa
