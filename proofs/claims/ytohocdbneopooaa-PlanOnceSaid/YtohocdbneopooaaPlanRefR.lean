/- The reference's rows. Condition: the row is within the reach. -/
import Derived.Test.YtohocdbneopooaaPlanRefC
namespace Go.Proofs.Ytohocdbneopooaa
set_option maxRecDepth 100000
open Go.Shelf Go.RowKit Go.Lib Go.Sort

theorem rowOk_step {n : Nat} {L : List Inf} {a b : Inf} (hn : 1 ≤ n) (ha : L[n - 1]? = some a) (hb : L[n]? = some b) : rowOk (n + 1) L = (rowOk n L && pairOk a b) := by
  obtain ⟨m, rfl⟩ : ∃ m, n = m + 1 := ⟨n - 1, by omega⟩
  have hlen : m + 1 < L.length := (List.getElem?_eq_some_iff.1 hb).1
  simp only [Nat.add_sub_cancel] at ha
  unfold rowOk
  simp only [Nat.add_sub_cancel]
  rw [decide_eq_true (show m + 1 + 1 ≤ L.length by omega), decide_eq_true (show m + 1 ≤ L.length by omega), List.range_succ, List.all_append]
  simp [ha, hb]
theorem rowOk_width : ∀ (n : Nat) (L : List Inf) (x a : Inf), rowOk (n + 1) L = true → L[0]? = some x → L[n]? = some a → wrap64 (a.til - a.frm) = wrap64 (x.til - x.frm)
  | 0, L, x, a, _, hx, ha => by
    rw [hx] at ha
    injection ha with ha
    rw [ha]
  | n + 1, L, x, a, h, hx, ha => by
    have hl : n + 1 < L.length := (List.getElem?_eq_some_iff.1 ha).1
    have hb : L[n]? = some L[n] := List.getElem?_eq_getElem (by omega)
    rw [rowOk_step (a := L[n]) (b := a) (by omega) hb ha, Bool.and_eq_true] at h
    have h1 := rowOk_width n L x _ h.1 hx hb
    have h2 := h.2
    unfold pairOk at h2
    simp only [Bool.and_eq_true, beq_iff_eq] at h2
    rw [← h2.2, h1]
theorem rowOk_one {L : List Inf} (h : 1 ≤ L.length) : rowOk 1 L = true := by
  unfold rowOk
  rw [decide_eq_true h]; rfl
/-- the reference's test of one more -/
theorem rowOk_test {n : Nat} {L : List Inf} {x a b : Inf} (hn : 1 ≤ n) (hx : L[0]? = some x) (ha : L[n - 1]? = some a) (hb : L[n]? = some b) :
    rowOk (n + 1) L = if (b.frm != a.til) = true ∨ (wrap64 (b.til - b.frm) != wrap64 (x.til - x.frm)) = true then false else rowOk n L := by
  rw [rowOk_step hn ha hb]
  cases h : rowOk n L with
  | false => simp
  | true =>
    obtain ⟨m, rfl⟩ : ∃ m, n = m + 1 := ⟨n - 1, by omega⟩
    have hw := rowOk_width m L x a h hx (by simpa using ha)
    unfold pairOk
    rw [hw]
    by_cases h1 : b.frm = a.til
    · by_cases h2 : wrap64 (b.til - b.frm) = wrap64 (x.til - x.frm)
      · simp [h1, ← h2]
      · have h3 : ¬ wrap64 (x.til - x.frm) = wrap64 (b.til - b.frm) := fun e => h2 e.symm
        rw [if_pos (.inr (by simpa using h2)), Bool.true_and, beq_eq_false_iff_ne.2 h3, Bool.and_false]
    · have h3 : ¬ a.til = b.frm := fun e => h1 e.symm
      rw [if_pos (.inl (by simpa using h1)), Bool.true_and, beq_eq_false_iff_ne.2 h3, Bool.false_and]
theorem rowsI_short (K : Nat) (hK : 1 ≤ K) : ∀ (l : List Inf), l.length < K → rowsI K l = []
  | [], _ => rfl
  | x :: r, h => by
    have hf : rowOk K (x :: r) = false := by
      unfold rowOk
      rw [decide_eq_false (by omega)]; rfl
    rw [rowsI_cons K hK, hf, if_neg (by decide)]
    exact rowsI_short K hK r (by rw [List.length_cons] at h; omega)

set_option maxHeartbeats 12800000 in
theorem rrows2_any (A : Option Addr) (n c K : Nat) (l : List Inf) (w : World) (hr : Row w w.heap.size 5 A n (infCells l)) (hl : l.length = n) (hn : n * 40 ≤ 140737488351232) (hK : 2 ≤ K) (hKn : K ≤ n) :
    Calls Try.prog 91 #[.slice A n c, .int .i64 K] w fun e w' => ∃ v S, e = .returned v ∧ LLAt w' w.heap.size v (rowsI K l) S ∧ RowKit.Below w.heap.size w w' := by
  obtain ⟨i0, hi, hz0, hz1, hz2⟩ := info_parts info_ints
  obtain ⟨i1, hi1, hz10, hz11, hz12⟩ := info_parts info_int
  have hL := hidden hl
  have HR := hidden hr
  have f1 : (1 : Int) < (K : Int) := by omega
  have f2 : (K : Int) ≤ (n : Int) := by omega
  clear hl hr
  go_enter Try.func91, Try.ntmps91
  go_wp2
  go_loopw [5, 6] (fun v vi wr => ∃ (k : Nat) (G : List (List Int)) (S : List (Sl Int)) (vo : Value), vo = v ∧ vi = .int .i64 k ∧ k ≤ n ∧ Hid (LLAt wr w.heap.size v G S) ∧ Hid (G ++ rowsI K (l.drop k) = rowsI K l) ∧ G.length ≤ k ∧ RowKit.Below w.heap.size w wr) (fun _ vi _ => n - (intOf vi).toNat)
  case atStart => exact ⟨0, [], [], _, rfl, rfl, Nat.zero_le _, hidden (LLAt.start _ _), hidden (by simp), Nat.le_refl _, RowKit.Below.refl _ _⟩
  case round =>
    obtain ⟨k, G, S, vo, rfl, rfl, hk, hLL, hG, hGk, hb⟩ := hrel
    by_cases hlt : k + K ≤ n
    · obtain ⟨wo, rfl⟩ : ∃ wo : World, wo = wr := ⟨_, rfl⟩
      obtain ⟨gs, o, hA, hgs, x, hx, x0, x1, x2, x3, x4⟩ := inf_cells_at HR.out hL.out hb k (by omega)
      subst hA
      have hltz : (k : Int) ≤ (n : Int) - (K : Int) := by omega
      have hbs := hb.size
      have HX := hidden hx
      have hdl : (l.drop k).length = n - k := by rw [List.length_drop, hL.out]
      have HDL := hidden hdl
      have hd0 : (l.drop k)[0]? = some x := by rw [List.getElem?_drop]; exact hx
      have HD0 := hidden hd0
      clear hx hd0 hdl x0 x1 x2 x3 x4
      go_wp2_with fail
      go_loopw [7, 8] (fun vb vp wx => ∃ (p : Nat) (b : Bool), vb = .bool b ∧ vp = .int .i64 p ∧ k + 1 ≤ p ∧ p ≤ k + K ∧ Hid (b = rowOk (p - k) (l.drop k)) ∧ RowKit.Below wo.heap.size wo wx) (fun _ vp _ => k + K - (intOf vp).toNat)
      case atStart => exact ⟨k + 1, true, rfl, by go_num, Nat.le_refl _, by omega, hidden (by rw [show k + 1 - k = 1 from by omega, rowOk_one (by rw [HDL.out]; omega)]), RowKit.Below.refl _ _⟩
      case round =>
        obtain ⟨p, b, rfl, rfl, hp1, hp2, hok, hbx⟩ := hrel
        have hbX := hb.trans (hbx.mono hbs)
        by_cases hpl : p < k + K
        · obtain ⟨q, hq⟩ : ∃ q, p = q + 1 := ⟨p - 1, by omega⟩
          obtain ⟨g1, o1, hA1, _, x', hx', x0, x1, x2, x3, x4⟩ := inf_cells_at HR.out hL.out hbX k (by omega)
          obtain ⟨g2, o2, hA2, _, y, hy, y0, y1, y2, y3, y4⟩ := inf_cells_at HR.out hL.out hbX p (by omega)
          obtain ⟨g3, o3, hA3, _, z, hz, z0, z1, z2, z3, z4⟩ := inf_cells_at HR.out hL.out hbX q (by omega)
          injection hA1 with hA1
          injection hA1 with hA11 hA12
          injection hA2 with hA2
          injection hA2 with hA21 hA22
          injection hA3 with hA3
          injection hA3 with hA31 hA32
          subst hA11 hA12 hA21 hA22 hA31 hA32
          obtain rfl : x = x' := by
            have := HX.out.symm.trans hx'
            injection this
          have htest := rowOk_test (n := p - k) (L := l.drop k) (x := x) (a := z) (b := y) (by omega) HD0.out (by rw [List.getElem?_drop, show k + (p - k - 1) = q from by omega]; exact hz) (by rw [List.getElem?_drop, show k + (p - k) = p from by omega]; exact hy)
          rw [show p - k + 1 = p + 1 - k from by omega, ← hok.out] at htest
          have t3 : IntKind.i64.wrap ((p : Int) - 1) = (q : Int) := by rw [IntKind.wrap_i64]; omega
          have t4 : (q : Int) < (n : Int) := by omega
          have t5 : (0 : Int) ≤ (q : Int) := by omega
          have t6 : (p : Int) < (n : Int) := by omega
          have t7 : (0 : Int) ≤ (p : Int) := by omega
          have t8 : (p : Int) < (k : Int) + (K : Int) := by omega
          have t9 : (k : Int) < (n : Int) := by omega
          clear hq hx' hy hz x0 x1 x4 y0 y1 y4 z0 z1 z2 z4
          by_cases h1 : y.frm = z.til
          · by_cases h2 : wrap64 (y.til - y.frm) = wrap64 (x.til - x.frm)
            · have s1 : ((y.frm != z.til) : Bool) = false := by simp [h1]
              have s2 : ((wrap64 (y.til - y.frm) != wrap64 (x.til - x.frm)) : Bool) = false := by simp [h2]
              rw [s1, s2, if_neg (by decide)] at htest
              have HT := hidden htest
              clear htest h1 h2
              go_upto_region 8 with (fail)
              go_quiet (fail)
              go_wp2_with fail
              go_roundw
              case rel => exact ⟨p + 1, b, rfl, by go_num, by omega, by omega, hidden HT.out.symm, hbx.trans (below_drewN (RowKit.Below.refl _ _) _ |>.mono hbx.size)⟩
              case measure => simp [intOf]; omega
            · have s1 : ((y.frm != z.til) : Bool) = false := by simp [h1]
              have s2 : ((wrap64 (y.til - y.frm) != wrap64 (x.til - x.frm)) : Bool) = true := by simp [h2]
              rw [s1, s2, if_pos (.inr rfl)] at htest
              have HT := hidden htest
              clear htest h1 h2
              go_upto_region 8 with (fail)
              go_quiet (fail)
              go_wp2_with fail
              go_roundw
              case rel => exact ⟨p + 1, false, rfl, by go_num, by omega, by omega, hidden HT.out.symm, hbx.trans (below_drewN (RowKit.Below.refl _ _) _ |>.mono hbx.size)⟩
              case measure => simp [intOf]; omega
          · have s1 : ((y.frm != z.til) : Bool) = true := by simp [h1]
            rw [s1, if_pos (.inl rfl)] at htest
            have HT := hidden htest
            clear htest h1
            go_upto_region 8 with (fail)
            go_quiet (fail)
            go_wp2_with fail
            go_roundw
            case rel => exact ⟨p + 1, false, rfl, by go_num, by omega, by omega, hidden HT.out.symm, hbx.trans (below_drewN (RowKit.Below.refl _ _) _ |>.mono hbx.size)⟩
            case measure => simp [intOf]; omega
        · obtain rfl : p = k + K := by omega
          have hok2 := hok.out
          rw [show k + K - k = K from by omega] at hok2
          have t8 : ¬ ((k + K : Nat) : Int) < (k : Int) + (K : Int) := by omega
          have hdc : l.drop k = x :: l.drop (k + 1) := drop_cons? HX.out
          have hG0 := rowsI_cons K (by omega) x (l.drop (k + 1))
          rw [← hdc, List.drop_drop, List.drop_drop, ← hok2] at hG0
          have hG1 := hG.out
          rw [hG0] at hG1
          clear hok2 hok hG0
          cases b with
          | false =>
            rw [if_neg (by decide)] at hG1
            have HG1 := hidden hG1
            clear hG1
            go_wp2_with fail
            go_roundw
            case rel => exact ⟨k + 1, _, _, vo, rfl, by go_num, by omega, hidden (hLL.out.below hbx), HG1, by omega, hbX⟩
            case measure => simp [intOf]; omega
          | true =>
            rw [if_pos rfl] at hG1
            have HG1 := hidden hG1
            clear hG1
            obtain ⟨wz, rfl⟩ : ∃ wz : World, wz = wr := ⟨_, rfl⟩
            go_wp2_with fail
            go_loopw [9, 10] (fun vg vp wx => ∃ (p j : Nat) (vgo : Value), vgo = vg ∧ vp = .int .i64 p ∧ k + j ≤ p ∧ p ≤ k + j ∧ j ≤ K ∧ wx.ownsRow wz.heap.size 3 1 vg j (intCells (((l.drop k).take j).map Inf.id)) ∧ RowKit.Below wz.heap.size wz wx) (fun _ vp _ => k + K - (intOf vp).toNat)
            case atStart => exact ⟨k, 0, _, rfl, rfl, by omega, by omega, by omega, World.ownsRow_nil _ _ _ _, RowKit.Below.refl _ _⟩
            case round =>
              obtain ⟨p, j, vgo, rfl, rfl, hp1, hp2, hjK, hown, hbz⟩ := hrel
              have hbZ := hbX.trans (hbz.mono hbX.size)
              by_cases hjl : j < K
              · obtain ⟨g2, o2, hA2, _, y, hy, y0, y1, y2, y3, y4⟩ := inf_cells_at HR.out hL.out hbZ p (by omega)
                injection hA2 with hA2
                injection hA2 with hA21 hA22
                subst hA21 hA22
                have hids : ((l.drop k).take (j + 1)).map Inf.id = ((l.drop k).take j).map Inf.id ++ [y.id] := by
                  have : (l.drop k)[j]? = some y := by rw [List.getElem?_drop, show k + j = p from by omega]; exact hy
                  rw [take_snoc? this, List.map_append]; rfl
                have HI := hidden hids
                have hpz : (p : Int) < (k : Int) + (K : Int) := by omega
                have hpn : (p : Int) < (n : Int) := by omega
                have hp0 : (0 : Int) ≤ (p : Int) := by omega
                have hfr := Row.fresh wr 3 1 1 [.int .i64 y.id] rfl
                have hsz := hbz.size
                clear hids hy
                go_wp2_with (at_builtin; refine wpList_app _ rfl _ _ 78 rfl wz.heap.size 3 i1 _ 1 8 Try.underlying78 hi1 hz10 hz11 hz12 rfl (by decide) _ _ _ rfl (hown.alloc _) _ _ _ _ _ rfl hfr (by simp [Value.oneCell']) (by unfold maxLen; omega) (by omega) (by simp; omega) ?_; intro v1 w1 hown1 hg1 hat1)
                go_roundw
                case rel =>
                  refine ⟨p + 1, j + 1, _, rfl, by go_num, by omega, by omega, by omega, ?_, (hbz.alloc hsz _).grown hg1 (by simp; omega) (fun q hq => (hown.lt q hq).1)⟩
                  rw [HI.out, intCells_snoc]; exact hown1
                case measure => simp [intOf]; omega
              · obtain rfl : j = K := by omega
                obtain rfl : p = k + j := by omega
                obtain ⟨A5, c5, rfl, hc5, hr5⟩ := own_shape hown
                have hpz : ¬ ((k + j : Nat) : Int) < (k : Int) + (j : Int) := by omega
                have HO5 := hidden hown
                have HR5 := hidden hr5
                have hL6 := hLL.out.below hbx
                have hoq := fun q hq => (hL6.1.lt q hq).2
                have hL5 := hL6.below hbz
                have hlo := hL5.1
                have HL5 := hidden hL5
                have HOQ := hidden hoq
                have hsz := hbz.size
                have hfr := Row.fresh wr 78 1 1 [.slice A5 j c5] rfl
                clear hr5 hown hL5 hL6 hoq hLL
                go_wp2_with (at_builtin; refine wpList_app _ rfl _ _ 68 rfl w.heap.size 78 i0 _ 1 24 Try.underlying68 hi hz0 hz1 hz2 rfl (by decide) _ _ _ rfl (hlo.alloc _) _ _ _ _ _ rfl hfr (by simp [Value.oneCell']) (by unfold maxLen; omega) (by omega) (by have := hbZ.size; simp; omega) ?_; intro v9 w9 hown9 hg9 hat9)
                go_roundw
                case rel =>
                  have hlen : (((l.drop k).take j).map Inf.id).length = j := by rw [List.length_map, List.length_take, List.length_drop, hL.out]; omega
                  have hS : (Sl.mk A5 j c5 (((l.drop k).take j).map Inf.id)).At wr wr.heap.size 1 intc := ⟨hc5, hlen, HR5.out⟩
                  have hm := ll_one (s := Sl.mk A5 j c5 (((l.drop k).take j).map Inf.id)) (B := wz.heap.size) HL5.out hbX.size HOQ.out hS (fun q hq => Sl.off_own HO5.out hq) hg9 hat9 hown9
                  exact ⟨k + j, _, _, v9, rfl, by go_num, by omega, hidden hm, hidden (by rw [List.append_assoc]; exact HG1.out), by simp; omega, (hbZ.alloc hbZ.size _).grown hg9 (by have := hbZ.size; simp; omega) (fun q hq => (hlo.lt q hq).1)⟩
                case measure => simp [intOf]; omega
    · have hltz : ¬ (k : Int) ≤ (n : Int) - (K : Int) := by omega
      have hG1 := hG.out
      rw [rowsI_short K (by omega) _ (by rw [List.length_drop, hL.out]; omega), List.append_nil] at hG1
      have HG1 := hidden hG1
      clear hG1
      go_wp2
      go_ret
      exact ⟨_, rfl, ⟨S, by rw [← HG1.out]; exact hLL.out⟩, hb⟩
theorem rrows1_any (A : Option Addr) (n c : Nat) (fan : Int) (w : World) (hf : fan < 2 ∨ (n : Int) < fan) : Calls Try.prog 91 #[.slice A n c, .int .i64 fan] w fun e w' => e = .returned (.slice none 0 0) ∧ w = w' := by
  by_cases h1 : fan < 2
  · have hz : ¬ (1 : Int) < fan := by omega
    clear hf
    go_enter Try.func91, Try.ntmps91
    go_wp2_with fail
    refine wp_loop_rounds 1 ?_
    rw [rounds_succ]
    go_wp2
    go_ret
    exact ⟨rfl, rfl⟩
  · have hz : (1 : Int) < fan := by omega
    have hz2 : ¬ fan ≤ (n : Int) := by omega
    clear hf
    go_enter Try.func91, Try.ntmps91
    go_wp2_with fail
    refine wp_loop_rounds 1 ?_
    rw [rounds_succ]
    go_wp2
    go_ret
    exact ⟨rfl, rfl⟩

theorem rrows_any (A : Option Addr) (n c : Nat) (fan : Int) (l : List Inf) (w : World) (hr : Row w w.heap.size 5 A n (infCells l)) (hl : l.length = n) (hn : n * 40 ≤ 140737488351232) :
    Calls Try.prog 91 #[.slice A n c, .int .i64 fan] w fun e w' => ∃ v S, e = .returned v ∧ LLAt w' w.heap.size v (rowsP fan l) S ∧ RowKit.Below w.heap.size w w' := by
  by_cases h : 2 ≤ fan ∧ fan ≤ (n : Int)
  · have := rrows2_any A n c fan.toNat l w hr hl hn (by omega) (by omega)
    rw [show ((fan.toNat : Nat) : Int) = fan from by omega] at this
    unfold rowsP
    rwa [if_pos h.1]
  · refine (rrows1_any A n c fan w (by omega)).mono ?_
    rintro e w' ⟨rfl, rfl⟩
    have he : rowsP fan l = [] := by
      unfold rowsP
      by_cases h2 : 2 ≤ fan
      · rw [if_pos h2, rowsI_short fan.toNat (by omega) l (by omega)]
      · rw [if_neg h2]
    rw [he]
    exact ⟨_, [], rfl, LLAt.start _ _, RowKit.Below.refl _ _⟩
end Go.Proofs.Ytohocdbneopooaa
