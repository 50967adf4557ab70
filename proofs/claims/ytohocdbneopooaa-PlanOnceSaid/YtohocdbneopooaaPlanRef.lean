/- The reference's sorted: a permutation of what has the resolution, in the document's order. Condition: the row is within the reach. -/
import Derived.Test.YtohocdbneopooaaPlanP
import Derived.Test.YtohocdbneopooaaPlanLaw
import Derived.Lib.QuietBelow
namespace Go.Proofs.Ytohocdbneopooaa
set_option maxRecDepth 100000
open Go.Shelf Go.RowKit Go.Lib Go.Sort

theorem own_whole_t {w : World} {base n : Nat} {T : TypeId} {v : Value} {l : List Inf} (h : w.ownsRow base T 5 v n (infCells l)) (hn : 0 < n) :
    ∃ g cap rest, v = .slice (some ⟨g, 0, none⟩) n cap ∧ base ≤ g ∧ Whole1 w g T (infCells l ++ rest).toArray ∧ n ≤ cap ∧ cap ≤ maxLen ∧ l.length = n ∧ (infCells l ++ rest).length = cap * 5 := by
  obtain ⟨hl, h2⟩ := h
  rw [infCells_length] at hl
  rcases h2 with ⟨_, h0⟩ | ⟨g, cap, cur, rfl, hb, hg, hnc, hc, hs, ht⟩
  · omega
  · have e : infCells l ++ cur.toList.drop (n * 5) = cur.toList := by rw [← ht, List.take_append_drop]
    refine ⟨g, cap, cur.toList.drop (n * 5), rfl, hb, ?_, hnc, hc, by omega, ?_⟩
    · rw [e]; exact hg
    · rw [e]; simpa using hs
theorem own_tail {w : World} {base : Nat} {T : TypeId} {v : Value} {R : List Inf} {x : Inf} (h : w.ownsRow base T 5 v (R.length + 1) (infCells R ++ [.int .i64 x.id, .int .i64 x.res, .int .i64 x.frm, .int .i64 x.til, .int .i64 x.byt])) :
    ∃ g cap rest, v = .slice (some ⟨g, 0, none⟩) (R.length + 1) cap ∧ base ≤ g ∧ Whole1 w g T (infCells (R ++ [x]) ++ rest).toArray ∧ R.length + 1 ≤ cap ∧ cap ≤ maxLen ∧ (R ++ [x]).length = R.length + 1 ∧ (infCells (R ++ [x]) ++ rest).length = cap * 5 :=
  own_whole_t (l := R ++ [x]) (by rw [infCells_snoc]; exact h) (by omega)
theorem own_of_whole {w : World} {base n g cap : Nat} {T : TypeId} {l : List Inf} {rest : List Value} (hb : base ≤ g) (hw : Whole1 w g T (infCells l ++ rest).toArray) (hnc : n ≤ cap) (hc : cap ≤ maxLen) (hl : l.length = n) (hs : (infCells l ++ rest).length = cap * 5) :
    w.ownsRow base T 5 (.slice (some ⟨g, 0, none⟩) n cap) n (infCells l) :=
  ⟨by rw [infCells_length, hl], .inr ⟨g, cap, _, rfl, hb, hw, hnc, hc, by simpa using hs, by
    have h1 : (infCells l).length = n * 5 := by rw [infCells_length, hl]
    simp [h1]⟩⟩

/-- one element's five cells, stored at o -/
def put5 (w : World) (g o : Nat) (x : Inf) : World :=
  ((((w.setCell ⟨g, o, none⟩ (.int .i64 x.id)).setCell ⟨g, o + 1, none⟩ (.int .i64 x.res)).setCell ⟨g, o + 2, none⟩ (.int .i64 x.frm)).setCell ⟨g, o + 3, none⟩ (.int .i64 x.til)).setCell ⟨g, o + 4, none⟩ (.int .i64 x.byt)
theorem put5_size (w : World) (g o : Nat) (x : Inf) : (put5 w g o x).heap.size = w.heap.size := by simp [put5]
theorem put5_below {B : Nat} {a w : World} (h : RowKit.Below B a w) {g : Nat} (hg : B ≤ g) (o : Nat) (x : Inf) : RowKit.Below B a (put5 w g o x) :=
  ((((h.setCell (p := ⟨g, o, none⟩) hg _).setCell (p := ⟨g, o + 1, none⟩) hg _).setCell (p := ⟨g, o + 2, none⟩) hg _).setCell (p := ⟨g, o + 3, none⟩) hg _).setCell (p := ⟨g, o + 4, none⟩) hg _
theorem put5_off {w : World} {X : Nat} {t : TypeId} {cs : Array Value} (h : Whole1 w X t cs) {g : Nat} (hg : X ≠ g) (o : Nat) (x : Inf) : Whole1 (put5 w g o x) X t cs :=
  ((((h.off (p := ⟨g, o, none⟩) hg _).off (p := ⟨g, o + 1, none⟩) hg _).off (p := ⟨g, o + 2, none⟩) hg _).off (p := ⟨g, o + 3, none⟩) hg _).off (p := ⟨g, o + 4, none⟩) hg _
theorem put5_whole {w : World} {g : Nat} {t : TypeId} {LL : List Inf} {rest : List Value} {i : Nat} (h : Whole1 w g t (infCells LL ++ rest).toArray) (hi : i < LL.length) (x : Inf) : Whole1 (put5 w g (i * 5) x) g t (infCells (LL.set i x) ++ rest).toArray := whole_put5 h hi x
theorem sift_perm_snoc (res : Int) (l : List Inf) (x : Inf) (R : List Inf) (h : R.Perm (sift res l)) (hx : x.res = res) (k : Nat) : (putAt k x R).Perm (sift res (l ++ [x])) := by
  rw [sift_snoc, if_pos hx]
  exact (putAt_perm k x R).trans (h.append_right [x])

set_option maxHeartbeats 6400000 in
theorem rsorted_any (A : Option Addr) (n c : Nat) (res : Int) (l : List Inf) (w : World) (hr : Row w w.heap.size 5 A n (infCells l)) (hl : l.length = n) (hn : n * 40 ≤ 140737488351232) :
    Calls Try.prog 89 #[.slice A n c, .int .i64 res] w
      fun e w' => ∃ v R, e = .returned v ∧ w'.ownsRow w.heap.size 145 5 v R.length (infCells R) ∧ R.Perm (sift res l) ∧ InOrd R ∧ RowKit.Below w.heap.size w w' := by
  obtain ⟨i0, hi, hz0, hz1, hz2⟩ := info_parts info_rinf
  have hL := hidden hl
  have HR := hidden hr
  clear hl hr
  go_enter Try.func89, Try.ntmps89
  go_wp2
  go_loopw [5, 6] (fun v i wr => ∃ (k : Nat) (R : List Inf) (vo : Value), vo = v ∧ k ≤ n ∧ i = .int .i64 k ∧ wr.ownsRow w.heap.size 145 5 v R.length (infCells R) ∧ Hid (R.Perm (sift res (l.take k))) ∧ Hid (InOrd R) ∧ R.length ≤ k ∧ RowKit.Below w.heap.size w wr) (fun _ i _ => n - (intOf i).toNat)
  case atStart => exact ⟨0, [], _, rfl, Nat.zero_le _, rfl, World.ownsRow_nil _ _ _ _, hidden (by simp [sift]), hidden List.Pairwise.nil, Nat.le_refl _, RowKit.Below.refl _ _⟩
  case round =>
    obtain ⟨k, R, vo, rfl, hk, rfl, hown, hperm, hord, hRk, hb⟩ := hrel
    by_cases hlt : k < n
    · obtain ⟨wo, rfl⟩ : ∃ wo : World, wo = wr := ⟨_, rfl⟩
      obtain ⟨gs, o, hA, hgs, x, hx, d0, d1, d2, d3, d4⟩ := inf_cells_at HR.out hL.out hb k hlt
      have hT := hidden (take_snoc? hx)
      have hX := hidden hx
      have hbs := hb.size
      clear hx
      subst hA
      by_cases hres : x.res = res
      · have t1 : ((x.res != res) : Bool) = false := by simp [hres]
        have hperm' := hidden fun j : Nat => sift_perm_snoc res (l.take k) x R hperm.out hres j
        have hP : Hid (∀ j : Nat, (putAt j x R).Perm (sift res (l.take (k + 1)))) := hidden (by rw [hT.out]; exact hperm'.out)
        have hxe : Hid (x.cells = [.int .i64 x.id, .int .i64 x.res, .int .i64 x.frm, .int .i64 x.til, .int .i64 x.byt]) := hidden rfl
        clear hperm hperm' hres
        have hfr := Row.fresh wo 145 5 1 [.int .i64 x.id, .int .i64 x.res, .int .i64 x.frm, .int .i64 x.til, .int .i64 x.byt] rfl
        have hn63 : k < 9223372036854775807 := by omega
        go_wp2_with (at_builtin; refine wpList_app _ rfl _ _ 74 rfl w.heap.size 145 i0 _ 5 40 Try.underlying74 hi hz0 hz1 hz2 rfl (by decide) _ _ _ rfl (hown.alloc _) _ _ _ _ _ rfl hfr (by simp [Value.oneCell']) (by unfold maxLen; omega) (by omega) (by simp; omega) ?_; intro v1 w1 hown1 hg1 hat1; obtain ⟨g, cap, rest, rfl, hg, hw1, hnc1, hcap, hlen1, hlr⟩ := own_tail hown1; have HW1 := hidden hw1; have HLR := hidden hlr; clear hw1 hlr hlen1 hown1)
        have hb1 : RowKit.Below w.heap.size w w1 := (hb.alloc hbs _).grown hg1 (by simp; omega) (fun q hq => (hown.lt q hq).1)
        have hs1 := hg1.size
        rw [World.size_alloc] at hs1
        have hgl := HW1.out.lt
        have HCAP := hidden hcap
        have hcap2 : cap ≤ 9223372036854775807 := by unfold maxLen at hcap; omega
        clear hcap hg1 hat1 hfr d0 d1 d2 d3 d4 hown
        go_loopw [7] (fun vk wx => ∃ j : Nat, j ≤ R.length ∧ vk = .int .i64 j ∧ Whole1 wx g 145 (infCells (putAt j x R) ++ rest).toArray ∧ Hid (∀ (p : Nat) (y : Inf), j ≤ p → R[p]? = some y → ltK x.key y.key = true) ∧ RowKit.Below w.heap.size w wx ∧ w1.heap.size ≤ wx.heap.size) (fun vk _ => (intOf vk).toNat)
        case atStart =>
          refine ⟨R.length, Nat.le_refl _, by go_num, by rw [putAt_end]; exact HW1.out, ?_, hb1, Nat.le_refl _⟩
          intro p y hp hy
          rw [List.getElem?_eq_none (by omega)] at hy
          cases hy
        case round =>
          obtain ⟨j, hj, rfl, hwj, hup, hbx, hsx⟩ := hrel
          by_cases hj0 : 0 < j
          · obtain ⟨q, hq⟩ : ∃ q, j = q + 1 := ⟨j - 1, by omega⟩
            have hqR : q < R.length := by omega
            obtain ⟨y, hy⟩ : ∃ y, R[q]? = some y := ⟨R[q], List.getElem?_eq_getElem hqR⟩
            have hpj : (putAt j x R)[j]? = some x := putAt_at j x R hj
            have hpq : (putAt j x R)[q]? = some y := by rw [putAt_low j q x R (by omega), if_pos hqR]; exact hy
            obtain ⟨c0, c1, c2, c3, c4⟩ := whole_inf hwj hpj
            obtain ⟨e0, e1, e2, e3, e4⟩ := whole_inf hwj hpq
            have t3 : IntKind.i64.wrap ((j : Int) - 1) = (q : Int) := by rw [IntKind.wrap_i64]; omega
            have t4 : (q : Int) < (R.length : Int) + 1 := by omega
            have t5 : (0 : Int) ≤ (q : Int) := by omega
            have t6 : (j : Int) < (R.length : Int) + 1 := by omega
            have t7 : (0 : Int) < (j : Int) := by omega
            have HQ := hidden hq
            have HY := hidden hy
            have HPJ := hidden hpj
            have HPQ := hidden hpq
            have HWJ := hidden hwj
            have k0 := cell_regrown c0
            have k1 := cell_regrown c1
            have k2 := cell_regrown c2
            have k3 := cell_regrown c3
            have k4 := cell_regrown c4
            have k5 := cell_regrown e0
            have k6 := cell_regrown e1
            have k7 := cell_regrown e2
            have k8 := cell_regrown e3
            have k9 := cell_regrown e4
            clear hq hy hpj hpq hwj c0 c1 c2 c3 c4 e0 e1 e2 e3 e4
            have S1 : Hid (∀ D os, Calls Try.prog 128 #[.agg #[.int .i64 x.id, .int .i64 x.res, .int .i64 x.frm, .int .i64 x.til, .int .i64 x.byt], .agg #[.int .i64 y.id, .int .i64 y.res, .int .i64 y.frm, .int .i64 y.til, .int .i64 y.byt]] (Sort.grow (redrawn wr D) os) fun e w'' => e = .returned (.bool (ltK x.key y.key)) ∧ ∃ p : Regrown, w'' = Sort.grow (redrawn wr p.d) p.os) :=
              hidden fun D os => Calls.regrown_of ((before_any x.id x.res x.frm x.til x.byt y.id y.res y.frm y.til y.byt _).mono fun e w' ⟨he, q, os', hw⟩ => ⟨he, by rw [hw]; exact below_regrown _ _ _⟩)
            go_wp2_with fail
            refine wp_region_quiet_below (by kernel_rfl) (by kernel_rfl) ?_
            repeat (first | go_big_quiet_step (exact S1.out _ _) | quiet_step (exact S1.out _ _))
            refine wpQuiet_nil ?_
            intro _ hw'
            obtain ⟨⟨dq, osq⟩, hw''⟩ := hw'
            subst hw''
            clear k0 k1 k2 k3 k4 k5 k6 k7 k8 k9 S1
            have hb5 : RowKit.Below wr.heap.size wr (Sort.grow (redrawn wr (Regrown.mk dq osq).d) (Regrown.mk dq osq).os) := below_regrown _ _ _
            generalize Sort.grow (redrawn wr (Regrown.mk dq osq).d) (Regrown.mk dq osq).os = w5 at hb5 ⊢
            have hw5 := HWJ.out.below hb5 HWJ.out.lt
            have hB5 := hbx.trans (hb5.mono hbx.size)
            have hs5 := hb5.size
            have hg5 := hw5.lt
            generalize hob : ltK x.key y.key = ob
            have HOB := hidden hob
            clear hob hb5 hbx
            cases ob
            · go_wp2_with fail
              go_roundw
              case rel =>
                have hple : (putAt j x R).length = R.length + 1 := putAt_len j x R hj
                have hpl : (infCells (putAt j x R) ++ rest).length = (infCells (R ++ [x]) ++ rest).length := by simp only [List.length_append, infCells_length, hple, List.length_singleton]
                refine ⟨k + 1, putAt j x R, _, rfl, by omega, by go_num, ?_, hidden (hP.out j), hidden (putAt_ord j x R hord.out hj (fun p z hp hz => hup.out p z hp hz) (fun z _ hz => ?_)), by omega, hB5⟩
                · rw [hple]; exact own_of_whole hg hw5 hnc1 HCAP.out hple (hpl.trans HLR.out)
                · rw [show j - 1 = q from by have := HQ.out; omega, HY.out] at hz
                  injection hz with hz
                  rw [← hz]; exact HOB.out
              case measure => simp [intOf]; omega
            · obtain ⟨c0, c1, c2, c3, c4⟩ := whole_inf hw5 HPJ.out
              have HW5 := hidden hw5
              clear hw5
              go_upto_region 13 with (fail)
              have hX6 := Whole1.new w5 145 #[.int .i64 x.id, .int .i64 x.res, .int .i64 x.frm, .int .i64 x.til, .int .i64 x.byt]
              have hW6 := HW5.out.alloc (.cells #[.int .i64 x.id, .int .i64 x.res, .int .i64 x.frm, .int .i64 x.til, .int .i64 x.byt] 145)
              have hB6 := hB5.alloc hB5.size (.cells #[.int .i64 x.id, .int .i64 x.res, .int .i64 x.frm, .int .i64 x.til, .int .i64 x.byt] 145)
              have hs6 : w5.heap.size ≤ (w5.alloc (.cells #[.int .i64 x.id, .int .i64 x.res, .int .i64 x.frm, .int .i64 x.til, .int .i64 x.byt] 145)).heap.size := by simp
              generalize w5.alloc (.cells #[.int .i64 x.id, .int .i64 x.res, .int .i64 x.frm, .int .i64 x.til, .int .i64 x.byt] 145) = w6 at hX6 hW6 hB6 hs6 ⊢
              obtain ⟨X, hX⟩ : ∃ X, w5.heap.size = X := ⟨_, rfl⟩
              rw [hX] at hX6 hs6 hg5 ⊢
              have hsx6 : w1.heap.size ≤ w6.heap.size := by omega
              clear hX c0 c1 c2 c3 c4
              obtain ⟨e0, e1, e2, e3, e4⟩ := whole_inf hW6 HPQ.out
              have z0 := hW6.free (j * 5)
              have z1 := hW6.free (j * 5 + 1)
              have z2 := hW6.free (j * 5 + 2)
              have z3 := hW6.free (j * 5 + 3)
              have z4 := hW6.free (j * 5 + 4)
              obtain ⟨c0, c1, c2, c3, c4⟩ := whole_inf hW6 HPJ.out
              have HW6 := hidden hW6
              have HX6 := hidden hX6
              clear hW6 hX6
              go_upto_region 14 with (fail)
              have hpl : (putAt j x R).length = R.length + 1 := putAt_len j x R hj
              have hW7 := put5_whole HW6.out (i := j) (by omega) y
              have hX7 := put5_off HX6.out (g := g) (by omega) (j * 5) y
              have hB7 := put5_below hB6 hg (j * 5) y
              have hs7 := put5_size w6 g (j * 5) y
              have hpq7 : ((putAt j x R).set j y)[q]? = some y := by rw [List.getElem?_set_ne (by have := HQ.out; omega)]; exact HPQ.out
              have HL7 := hidden (show ((putAt j x R).set j y).length = R.length + 1 by rw [List.length_set]; exact hpl)
              rw [← hs7] at hsx6
              have hX7l := hX7.lt
              clear hs6 z0 z1 z2 z3 z4 c0 c1 c2 c3 c4 e0 e1 e2 e3 e4 hpl hs7 hB6
              change Code.wp _ _ _ _ (put5 w6 g (j * 5) y)
              generalize put5 w6 g (j * 5) y = w7 at hW7 hX7 hB7 hsx6 hX7l ⊢
              have z0 := hW7.free (q * 5)
              have z1 := hW7.free (q * 5 + 1)
              have z2 := hW7.free (q * 5 + 2)
              have z3 := hW7.free (q * 5 + 3)
              have z4 := hW7.free (q * 5 + 4)
              obtain ⟨e0, e1, e2, e3, e4⟩ := whole_inf hW7 hpq7
              have c0 : w7.cell? ⟨X, 0, none⟩ = some (.int .i64 x.id) := hX7.cell 0
              have c1 : w7.cell? ⟨X, 1, none⟩ = some (.int .i64 x.res) := hX7.cell 1
              have c2 : w7.cell? ⟨X, 2, none⟩ = some (.int .i64 x.frm) := hX7.cell 2
              have c3 : w7.cell? ⟨X, 3, none⟩ = some (.int .i64 x.til) := hX7.cell 3
              have c4 : w7.cell? ⟨X, 4, none⟩ = some (.int .i64 x.byt) := hX7.cell 4
              have HW7 := hidden hW7
              clear hW7 hX7 hpq7
              go_wp2_with fail
              go_roundw
              case rel =>
                have hsw : ((putAt j x R).set j y).set q x = putAt q x R := by rw [HQ.out]; exact putAt_swap q x y R (by omega) HY.out
                have hW8 := put5_whole HW7.out (i := q) (by rw [HL7.out]; omega) x
                rw [hsw] at hW8
                refine ⟨q, by omega, by go_num, hW8, hidden (fun p z hp hz => ?_), put5_below hB7 hg (q * 5) x, ?_⟩
                · rcases Nat.lt_or_ge q p with h | h
                  · exact hup.out p z (by have := HQ.out; omega) hz
                  · obtain rfl : p = q := by omega
                    rw [HY.out] at hz
                    injection hz with hz
                    rw [← hz]; exact HOB.out
                · show w1.heap.size ≤ (put5 w7 g (q * 5) x).heap.size
                  rw [put5_size]; exact hsx6
              case measure => have := HQ.out; simp [intOf]; omega
          · obtain rfl : j = 0 := by omega
            go_wp2
            go_roundw
            case rel =>
              have hple : (putAt 0 x R).length = R.length + 1 := putAt_len 0 x R hj
              have hpl : (infCells (putAt 0 x R) ++ rest).length = (infCells (R ++ [x]) ++ rest).length := by simp only [List.length_append, infCells_length, hple, List.length_singleton]
              refine ⟨k + 1, putAt 0 x R, _, rfl, by omega, by go_num, ?_, hidden (hP.out 0), hidden (putAt_ord 0 x R hord.out hj (fun p z hp hz => hup.out p z hp hz) (fun z h0 _ => absurd h0 (by omega))), by omega, hbx⟩
              rw [hple]; exact own_of_whole hg hwj hnc1 HCAP.out hple (hpl.trans HLR.out)
            case measure => simp [intOf]; omega
      · have t1 : ((x.res != res) : Bool) = true := by simp [hres]
        go_wp2
        go_roundw
        case rel =>
          refine ⟨k + 1, R, _, rfl, by omega, by go_num, hown, ?_, hord, by omega, hb⟩
          rw [hT.out, sift_snoc, if_neg hres]; exact hperm
        case measure => simp [intOf]; omega
    · obtain rfl : n = k := by omega
      rw [List.take_of_length_le (by rw [hL.out]; exact Nat.le_refl _)] at hperm
      go_wp2
      go_ret
      exact ⟨_, R, rfl, hown, hperm.out, hord.out, hb⟩
end Go.Proofs.Ytohocdbneopooaa
