/- plan.row, rows: what they return. Condition: the row is within the reach. -/
import Derived.Test.YtohocdbneopooaaPlanW
import Derived.BigRegion
namespace Go.Proofs.Ytohocdbneopooaa
set_option maxRecDepth 100000
open Go.Shelf Go.RowKit Go.Lib Go.Sort

/-- does b follow a, as long as a? -/
def pairOk (a b : Inf) : Bool := (a.til == b.frm) && (wrap64 (a.til - a.frm) == wrap64 (b.til - b.frm))
/-- do the first n stand in a row? -/
def rowOk (n : Nat) (l : List Inf) : Bool := decide (n ≤ l.length) && (List.range (n - 1)).all fun i => match l[i]?, l[i + 1]? with | some a, some b => pairOk a b | _, _ => false
/-- .. the first k pairs -/
def rowTo (k : Nat) (l : List Inf) : Prop := ∀ i a b, i < k → l[i]? = some a → l[i + 1]? = some b → pairOk a b = true

theorem rowOk_true {n : Nat} {l : List Inf} (hn : n ≤ l.length) (h : rowTo (n - 1) l) : rowOk n l = true := by
  unfold rowOk
  rw [decide_eq_true hn, Bool.true_and, List.all_eq_true]
  intro i hi
  have hi' := List.mem_range.1 hi
  rw [List.getElem?_eq_getElem (show i < l.length by omega), List.getElem?_eq_getElem (show i + 1 < l.length by omega)]
  exact h i _ _ hi' (List.getElem?_eq_getElem _) (List.getElem?_eq_getElem _)
theorem rowOk_false {n i : Nat} {l : List Inf} {a b : Inf} (hi : i + 1 < n) (ha : l[i]? = some a) (hb : l[i + 1]? = some b) (h : pairOk a b = false) : rowOk n l = false := by
  unfold rowOk
  rw [Bool.and_eq_false_iff]
  right
  rw [List.all_eq_false]
  refine ⟨i, List.mem_range.2 (by omega), ?_⟩
  rw [ha, hb]
  simp [h]

set_option maxHeartbeats 6400000 in
theorem row_any (A : Option Addr) (m c n : Nat) (l : List Inf) (w : World) (hr : Row w w.heap.size 5 A m (infCells l)) (hl : l.length = m) (hm : m * 40 ≤ 140737488351232) (hn : 2 ≤ n) (hn2 : n ≤ 9223372036854775807) :
    Calls Try.prog 127 #[.slice A m c, .int .i64 n] w fun e w' => e = .returned (.bool (rowOk n l)) ∧ RowKit.Below w.heap.size w w' := by
  have hL := hidden hl
  have HR := hidden hr
  clear hl hr
  by_cases hnm : n ≤ m
  · go_enter Try.func127, Try.ntmps127
    go_wp2
    go_loopw [5] (fun i wr => ∃ k : Nat, k + 1 ≤ n ∧ i = .int .i64 ((k + 1 : Nat) : Int) ∧ Hid (rowTo k l) ∧ RowKit.Below w.heap.size w wr) (fun i _ => n - (intOf i).toNat)
    case atStart => exact ⟨0, by omega, rfl, hidden (fun i a b h => absurd h (by omega)), RowKit.Below.refl _ _⟩
    case round =>
      obtain ⟨k, hk, rfl, hto, hb⟩ := hrel
      by_cases hlt : k + 1 < n
      · obtain ⟨gs, o, rfl, hgs, x, hx, d0, d1, d2, d3, d4⟩ := inf_cells_at HR.out hL.out hb k (by omega)
        have hgl : gs < wr.heap.size := Nat.lt_of_lt_of_le hgs hb.size
        have hgn : gs ≠ wr.heap.size := by omega
        have hgn2 : gs ≠ wr.heap.size + 1 := by omega
        have hk2z : (k : Int) < (m : Int) := by omega
        have hk3 : k < m := by omega
        have hk4 : k + 1 < m := by omega
        obtain ⟨gs', o', hA', _, y, hy, e0, e1, e2, e3, e4⟩ := inf_cells_at HR.out hL.out hb (k + 1) (by omega)
        injection hA' with hA'
        injection hA' with hA1 hA2
        subst hA1 hA2
        have HX := hidden hx
        have HY := hidden hy
        obtain ⟨x0, x1, x2, x3, x4⟩ := x
        obtain ⟨y0, y1, y2, y3, y4⟩ := y
        simp only at d0 d1 d2 d3 d4 e0 e1 e2 e3 e4
        have hkz : (k : Int) + 1 < (n : Int) := by omega
        have hmz : (k : Int) + 1 < (m : Int) := by omega
        have hkw : IntKind.i64.wrap (k : Int) = (k : Int) := by rw [IntKind.wrap_i64]; omega
        clear hx hy
        go_upto_region 6 with (fail)
        by_cases h1 : x3 = y2
        · by_cases h2 : wrap64 (x3 - x2) = wrap64 (y3 - y2)
          · have t1 : ((x3 != y2) : Bool) = false := by simp [h1]
            have t2 : ((wrap64 (x3 - x2) != wrap64 (y3 - y2)) : Bool) = false := by simp [h2]
            have hp : pairOk ⟨x0, x1, x2, x3, x4⟩ ⟨y0, y1, y2, y3, y4⟩ = true := by unfold pairOk; simp [h1, ← h2]
            have HP := hidden hp
            clear h1 h2 hp
            go_region
            all_goals
              go_wp2_with fail
              go_roundw
              case rel =>
                refine ⟨k + 1, by omega, by go_num, hidden (fun i a b hi ha hb' => ?_), ?_⟩
                · by_cases hik : i < k
                  · exact hto.out i a b hik ha hb'
                  · obtain rfl : i = k := by omega
                    have := ha.symm.trans HX.out
                    injection this with this
                    subst this
                    have := hb'.symm.trans HY.out
                    injection this with this
                    subst this
                    exact HP.out
                · exact ((hb.alloc hb.size _).alloc (by have := hb.size; simp; omega) _).drew
              case measure => simp [intOf]; omega
          · have t1 : ((x3 != y2) : Bool) = false := by simp [h1]
            have t2 : ((wrap64 (x3 - x2) != wrap64 (y3 - y2)) : Bool) = true := by simp [h2]
            have hp : pairOk ⟨x0, x1, x2, x3, x4⟩ ⟨y0, y1, y2, y3, y4⟩ = false := by unfold pairOk; simp [h2]
            have HP := hidden (rowOk_false hlt HX.out HY.out hp)
            clear h1 h2 hp
            go_region
            all_goals
              go_wp2_with fail
              go_ret
              exact ⟨ret_bool HP.out.symm, ((hb.alloc hb.size _).alloc (by have := hb.size; simp; omega) _).drew⟩
        · have t1 : ((x3 != y2) : Bool) = true := by simp [h1]
          have hp : pairOk ⟨x0, x1, x2, x3, x4⟩ ⟨y0, y1, y2, y3, y4⟩ = false := by unfold pairOk; simp [h1]
          have HP := hidden (rowOk_false hlt HX.out HY.out hp)
          clear h1 hp
          go_region
          all_goals
            go_wp2_with fail
            go_ret
            exact ⟨ret_bool HP.out.symm, ((hb.alloc hb.size _).alloc (by have := hb.size; simp; omega) _).drew⟩
      · have hkz : ¬ (k : Int) + 1 < (n : Int) := by omega
        have hto2 := hto.out
        have hk1 : k = n - 1 := by omega
        rw [hk1] at hto2
        have HP := hidden (rowOk_true (by rw [hL.out]; exact hnm) hto2)
        clear hto2 hk1
        go_wp2
        go_ret
        exact ⟨ret_bool HP.out.symm, hb⟩
  · have hp : rowOk n l = false := by unfold rowOk; rw [hL.out, decide_eq_false hnm]; rfl
    have HP := hidden hp
    have hz : (m : Int) < (n : Int) := by omega
    clear hp
    go_enter Try.func127, Try.ntmps127
    go_wp2
    go_ret
    exact ⟨ret_bool HP.out.symm, RowKit.Below.refl _ _⟩

/-! rows, plainly -/
def rowsF (fan : Nat) : Nat → List Inf → List (List Int)
  | 0, _ => []
  | _ + 1, [] => []
  | f + 1, x :: r => if rowOk fan (x :: r) = true then [((x :: r).take fan).map Inf.id] ++ rowsF fan f ((x :: r).drop fan) else rowsF fan f ((x :: r).drop 1)
theorem rowsF_more (fan : Nat) (hfan : 1 ≤ fan) : ∀ (f f' : Nat) (l : List Inf), l.length ≤ f → l.length ≤ f' → rowsF fan f l = rowsF fan f' l
  | 0, 0, _, _, _ => rfl
  | 0, f' + 1, l, h, _ => by
    have : l = [] := List.eq_nil_of_length_eq_zero (by omega)
    subst this; rfl
  | f + 1, 0, l, _, h => by
    have : l = [] := List.eq_nil_of_length_eq_zero (by omega)
    subst this; rfl
  | f + 1, f' + 1, [], _, _ => rfl
  | f + 1, f' + 1, x :: r, h, h' => by
    simp only [List.length_cons] at h h'
    rw [rowsF, rowsF, rowsF_more fan hfan f f' ((x :: r).drop fan) (by simp only [List.length_drop, List.length_cons]; omega) (by simp only [List.length_drop, List.length_cons]; omega), rowsF_more fan hfan f f' ((x :: r).drop 1) (by simp only [List.length_drop, List.length_cons]; omega) (by simp only [List.length_drop, List.length_cons]; omega)]
def rowsI (fan : Nat) (l : List Inf) : List (List Int) := rowsF fan l.length l
theorem rowsI_cons (fan : Nat) (hfan : 1 ≤ fan) (x : Inf) (r : List Inf) : rowsI fan (x :: r) = if rowOk fan (x :: r) = true then [((x :: r).take fan).map Inf.id] ++ rowsI fan ((x :: r).drop fan) else rowsI fan ((x :: r).drop 1) := by
  unfold rowsI
  rw [List.length_cons, rowsF, rowsF_more fan hfan r.length _ ((x :: r).drop fan) (by simp only [List.length_drop, List.length_cons]; omega) (Nat.le_refl _), rowsF_more fan hfan r.length _ ((x :: r).drop 1) (by simp only [List.length_drop, List.length_cons]; omega) (Nat.le_refl _)]

set_option maxHeartbeats 6400000 in
theorem rows_any (A : Option Addr) (n c K : Nat) (l : List Inf) (w : World) (hr : Row w w.heap.size 5 A n (infCells l)) (hl : l.length = n) (hnc : n ≤ c) (hc : c ≤ 9223372036854775807) (hn : n * 40 ≤ 140737488351232) (hK : 2 ≤ K) (hK2 : K ≤ 9223372036854775807) :
    Calls Try.prog 88 #[.slice A n c, .int .i64 K] w fun e w' => ∃ v S, e = .returned v ∧ LLAt w' w.heap.size v (rowsI K l) S ∧ RowKit.Below w.heap.size w w' := by
  obtain ⟨i0, hi, hz0, hz1, hz2⟩ := info_parts info_ints
  have hL := hidden hl
  have HR := hidden hr
  have hKz : (1 : Int) < (K : Int) := by omega
  clear hl hr
  go_enter Try.func88, Try.ntmps88
  go_wp2
  go_loopw [0, 5] (fun v0 v wr => ∃ (p : Nat) (A' : Option Addr) (m c' : Nat) (G : List (List Int)) (S : List (Sl Int)) (vo : Value), vo = v ∧ v0 = .slice A' m c' ∧ p + m = n ∧ m ≤ c' ∧ c' ≤ c ∧ Hid (Row w w.heap.size 5 A' m (infCells (l.drop p))) ∧ Hid (LLAt wr w.heap.size v G S) ∧ Hid (G ++ rowsI K (l.drop p) = rowsI K l) ∧ G.length ≤ p ∧ RowKit.Below w.heap.size w wr) (fun v0 _ _ => match v0 with | .slice _ m _ => m | _ => 0)
  case atStart => exact ⟨0, A, n, c, [], [], _, rfl, rfl, by omega, hnc, Nat.le_refl _, HR, hidden (LLAt.start _ _), hidden rfl, Nat.zero_le _, RowKit.Below.refl _ _⟩
  case round =>
    obtain ⟨p, A', m, c', G, S, vo, rfl, rfl, hpm, hmc, hcc, hrow, hLL, hG, hGp, hb⟩ := hrel
    by_cases hlt : 0 < m
    · obtain ⟨wo, rfl⟩ : ∃ wo : World, wo = wr := ⟨_, rfl⟩
      have hdl : (l.drop p).length = m := by rw [List.length_drop, hL.out]; omega
      have hdl' := hidden hdl
      obtain ⟨gs, o, rfl, hgs, _⟩ := hrow.out.at_ hlt
      obtain ⟨x, r, hr⟩ : ∃ x r, l.drop p = x :: r := by
        cases hd : l.drop p with
        | nil => rw [hd] at hdl; simp at hdl; omega
        | cons x r => exact ⟨x, r, rfl⟩
      have HRR := hidden hr
      have hltz : (0 : Int) < (m : Int) := by omega
      have hG1 := hG.out
      rw [hr, rowsI_cons K (by omega), ← hr] at hG1
      clear hdl hr
      go_wp2_with fail
      refine (row_any (some ⟨gs, o, none⟩) m c' K (l.drop p) wo ((hrow.out.below hb).more hb.size) hdl'.out (by omega) hK hK2).mono ?_
      rintro e w2 ⟨rfl, hbr⟩
      have hb2 := hb.trans (hbr.mono hb.size)
      have hLL2 := hidden (hLL.out.below hbr)
      by_cases hok : rowOk K (l.drop p) = true
      · have hKm : K ≤ m := by
          unfold rowOk at hok
          rw [Bool.and_eq_true] at hok
          have := of_decide_eq_true hok.1
          rwa [hdl'.out] at this
        rw [if_pos hok, List.drop_drop] at hG1
        have HG1 := hidden hG1
        rw [hok]
        clear hok hG1
        by_cases hcap : K = c'
        · subst hcap
          have hrk := row_take hrow.out hKm
          go_wp2_with fail
          refine (ids_any (some ⟨gs, o, none⟩) K K ((l.drop p).take K) w2 ((hrk.below hb2).more hb2.size) (by rw [List.length_take, hdl'.out]; omega) (by omega)).mono ?_
          rintro e2 w5 ⟨v5, rfl, ho5, hb5⟩
          obtain ⟨A5, c5, rfl, hc5, hr5⟩ := own_shape ho5
          have hB5 := hb2.trans (hb5.mono hb2.size)
          have hL5 := hLL2.out.below hb5
          have hfr := Row.fresh w5 78 1 1 [.slice A5 K c5] rfl
          have HO5 := hidden ho5
          clear ho5
          go_wp2_with (at_builtin; refine wpList_app _ rfl _ _ 68 rfl w.heap.size 78 i0 _ 1 24 Try.underlying68 hi hz0 hz1 hz2 rfl (by decide) _ _ _ rfl (hL5.1.alloc _) _ _ _ _ _ rfl hfr (by simp [Value.oneCell']) (by unfold maxLen; omega) (by omega) (by have := hB5.size; simp; omega) ?_; intro v9 w9 hown9 hg9 hat9)
          go_roundw
          case rel =>
            have hS : (Sl.mk A5 K c5 (((l.drop p).take K).map Inf.id)).At w5 w5.heap.size 1 intc := ⟨hc5, by simp only [List.length_map, List.length_take, hdl'.out]; omega, hr5⟩
            have hm := ll_more (S' := [Sl.mk A5 K c5 (((l.drop p).take K).map Inf.id)]) (hL5.below ((RowKit.Below.refl _ _).alloc (Nat.le_refl _) _)) rfl (fun s hs => by rw [List.mem_singleton.1 hs]; exact (hS.alloc (Nat.le_refl _) _).more (by simp)) (fun s hs => by
              rw [List.mem_singleton.1 hs]
              cases hvb : vo.ownBlock with
              | none => exact Sl.off_none _
              | some q => exact Sl.off_own HO5.out (hLL2.out.1.lt q hvb).2) (fun s hs j hj => by rw [List.mem_singleton.1 hs]; exact Sl.off_own HO5.out (by have := hb2.size; omega)) hg9 (hat9.imp id fun h => ⟨_, h, Nat.le_refl _⟩) hown9
            exact ⟨p + K, _, 0, 0, _, _, v9, rfl, rfl, by omega, by omega, by omega, hidden (row_zero (by omega) (List.drop_eq_nil_of_le (by rw [hL.out]; omega))), hidden hm, hidden (by rw [List.append_assoc]; exact HG1.out), by simp; omega, (hB5.alloc hB5.size _).grown hg9 (by have := hB5.size; simp; omega) (fun q hq => (hL5.1.lt q hq).1)⟩
          case measure => simp; omega
        · have hcz : K < c' := by omega
          have hrk := row_take hrow.out hKm
          go_wp2_with fail
          refine (ids_any (some ⟨gs, o, none⟩) K c' ((l.drop p).take K) w2 ((hrk.below hb2).more hb2.size) (by rw [List.length_take, hdl'.out]; omega) (by omega)).mono ?_
          rintro e2 w5 ⟨v5, rfl, ho5, hb5⟩
          obtain ⟨A5, c5, rfl, hc5, hr5⟩ := own_shape ho5
          have hB5 := hb2.trans (hb5.mono hb2.size)
          have hL5 := hLL2.out.below hb5
          have hfr := Row.fresh w5 78 1 1 [.slice A5 K c5] rfl
          have HO5 := hidden ho5
          clear ho5
          go_wp2_with (at_builtin; refine wpList_app _ rfl _ _ 68 rfl w.heap.size 78 i0 _ 1 24 Try.underlying68 hi hz0 hz1 hz2 rfl (by decide) _ _ _ rfl (hL5.1.alloc _) _ _ _ _ _ rfl hfr (by simp [Value.oneCell']) (by unfold maxLen; omega) (by omega) (by have := hB5.size; simp; omega) ?_; intro v9 w9 hown9 hg9 hat9)
          go_roundw
          case rel =>
            have hS : (Sl.mk A5 K c5 (((l.drop p).take K).map Inf.id)).At w5 w5.heap.size 1 intc := ⟨hc5, by simp only [List.length_map, List.length_take, hdl'.out]; omega, hr5⟩
            have hm := ll_more (S' := [Sl.mk A5 K c5 (((l.drop p).take K).map Inf.id)]) (hL5.below ((RowKit.Below.refl _ _).alloc (Nat.le_refl _) _)) rfl (fun s hs => by rw [List.mem_singleton.1 hs]; exact (hS.alloc (Nat.le_refl _) _).more (by simp)) (fun s hs => by
              rw [List.mem_singleton.1 hs]
              cases hvb : vo.ownBlock with
              | none => exact Sl.off_none _
              | some q => exact Sl.off_own HO5.out (hLL2.out.1.lt q hvb).2) (fun s hs j hj => by rw [List.mem_singleton.1 hs]; exact Sl.off_own HO5.out (by have := hb2.size; omega)) hg9 (hat9.imp id fun h => ⟨_, h, Nat.le_refl _⟩) hown9
            exact ⟨p + K, _, m - K, _, _, _, v9, rfl, rfl, by omega, by omega, by omega, hidden (by have := row_drop hrow.out hKm; rw [List.drop_drop] at this; exact this), hidden hm, hidden (by rw [List.append_assoc]; exact HG1.out), by simp; omega, (hB5.alloc hB5.size _).grown hg9 (by have := hB5.size; simp; omega) (fun q hq => (hL5.1.lt q hq).1)⟩
          case measure => simp; omega
      · have hKm : 1 ≤ m := hlt
        rw [if_neg hok, List.drop_drop] at hG1
        have HG1 := hidden hG1
        rw [Bool.not_eq_true] at hok
        rw [hok]
        clear hok hG1
        by_cases hcap : 1 = c'
        · subst hcap
          go_wp2_with fail
          go_roundw
          case rel => exact ⟨p + 1, _, 0, 0, _, _, vo, rfl, rfl, by omega, by omega, by omega, hidden (row_zero (by omega) (List.drop_eq_nil_of_le (by rw [hL.out]; omega))), hLL2, HG1, by omega, hb2⟩
          case measure => simp; omega
        · have hcz : 1 < c' := by omega
          go_wp2_with fail
          go_roundw
          case rel => exact ⟨p + 1, _, m - 1, _, _, _, vo, rfl, rfl, by omega, by omega, by omega, hidden (by have := row_drop hrow.out hKm; rw [List.drop_drop] at this; exact this), hLL2, HG1, by omega, hb2⟩
          case measure => simp; omega
    · obtain rfl : m = 0 := by omega
      have hG1 := hG.out
      rw [List.drop_eq_nil_of_le (by rw [hL.out]; omega)] at hG1
      have HG1 := hidden (show G = rowsI K l by simpa [rowsI, rowsF] using hG1)
      clear hG1
      go_wp2
      go_ret
      exact ⟨_, S, rfl, by rw [← HG1.out]; exact hLL.out, hb⟩
end Go.Proofs.Ytohocdbneopooaa
