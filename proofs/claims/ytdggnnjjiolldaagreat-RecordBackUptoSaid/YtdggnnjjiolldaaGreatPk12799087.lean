/- The reference's Of: the one list of the spans. Condition: the row is within the reach. -/
import Derived.Test.YtdggnnjjiolldaaGreatPkda44597c
import Derived.Test.YtdggnnjjiolldaaGreatPk55098a59
import Derived.Lib.QuietBelow
namespace Go.Proofs.YtdggnnjjiolldaaGreat
set_option maxRecDepth 100000
open Go.RowKit Go.Shelf

/-- do two spans, the first one begun no later, make one? -/
def joinB (a b : Spn) : Bool := decide (b.frm ≤ a.til) || decide (b.frm - 1 = a.til)
theorem joinB_not {a b : Spn} : joinB a b = false ↔ (a.til < b.frm ∧ a.til < b.frm - 1) := by
  unfold joinB
  rw [Bool.or_eq_false_iff, decide_eq_false_iff_not, decide_eq_false_iff_not]
  omega
set_option maxHeartbeats 800000 in
theorem touch_any (a b : Spn) (w : World) (ha : a.ok) (hb : b.ok) : Calls Tryz.prog 50 #[.agg #[.int .i64 a.frm, .int .i64 a.til], .agg #[.int .i64 b.frm, .int .i64 b.til]] w fun e w' => e = .returned (.bool (joinB a b)) ∧ Below w.heap.size w w' := by
  obtain ⟨_, _, a3, a4⟩ := ha
  obtain ⟨b1, b2, _, _⟩ := hb
  by_cases h1 : b.frm ≤ a.til
  · have h3 := hidden (by simp [joinB, h1] : joinB a b = true)
    go_enter Tryz.func50, Tryz.ntmps50
    go_wp2_with fail
    go_ret
    exact ⟨ret_bool h3.out.symm, ((Below.refl _ _).alloc (Nat.le_refl _) _).alloc (by simp) _⟩
  · have h4 : decide (b.frm ≤ a.til) = false := decide_eq_false h1
    obtain ⟨e, he⟩ : ∃ e, ((b.frm - 1) == a.til) = e := ⟨_, rfl⟩
    have h3 := hidden (by
      unfold joinB
      rw [h4, Bool.false_or, ← he]
      by_cases hh : b.frm - 1 = a.til
      · simp [hh]
      · simp [hh] : joinB a b = e)
    go_enter Tryz.func50, Tryz.ntmps50
    go_wp2_with fail
    go_ret
    exact ⟨ret_bool h3.out.symm, ((Below.refl _ _).alloc (Nat.le_refl _) _).alloc (by simp) _⟩

theorem own_tail_g {w : World} {base n : Nat} {T : TypeId} {v : Value} {l : List Spn} {xs : List Value} (h : w.ownsRow base T 2 v n xs) (he : xs = l.flatMap Spn.cells) (hn : 0 < n) :
    ∃ g cap rest, v = .slice (some ⟨g, 0, none⟩) n cap ∧ base ≤ g ∧ Whole1 w g T (l.flatMap Spn.cells ++ rest).toArray ∧ n ≤ cap ∧ cap ≤ maxLen ∧ (l.flatMap Spn.cells ++ rest).length = cap * 2 := by
  subst he
  obtain ⟨g, cap, rest, a, b, c, d, e, _, f⟩ := own_whole_g spnK h hn
  exact ⟨g, cap, rest, a, b, c, d, e, f⟩
theorem fullS_snoc (l : List Spn) (x : Spn) : fullS (l ++ [x]) = if x.til < x.frm then fullS l else fullS l ++ [x] := by
  unfold fullS
  rw [List.filter_append]
  by_cases h : x.til < x.frm
  · rw [if_pos h]; simp [h]
  · rw [if_neg h]; simp [h]
abbrev frmLt (a b : Spn) : Bool := decide (a.frm < b.frm)
theorem swo_frmLt : Go.Sort.SWO frmLt := ⟨fun x => by simp [frmLt], fun x y z h1 h2 => by simp only [frmLt, decide_eq_true_eq] at *; omega, fun x y z h1 h2 => by simp only [frmLt, decide_eq_false_iff_not] at *; omega⟩

theorem own_ins {w : World} {base g cap j : Nat} {T : TypeId} {R : List Spn} {x : Spn} {rest : List Value} (hg : base ≤ g) (hw : Whole1 w g T ((PutG.putAt j x R).flatMap Spn.cells ++ rest).toArray) (hnc : R.length + 1 ≤ cap) (hc : cap ≤ maxLen) (hj : j ≤ R.length) (hlr : ((R ++ [x]).flatMap Spn.cells ++ rest).length = cap * 2) :
    w.ownsRow base T 2 (.slice (some ⟨g, 0, none⟩) (R.length + 1) cap) (PutG.putAt j x R).length ((PutG.putAt j x R).flatMap Spn.cells) := by
  have hl := PutG.putAt_len j x R hj
  rw [hl]
  refine own_of_whole_g spnK hg hw hnc hc hl ?_
  rw [List.length_append, fm_len spnK] at hlr ⊢
  rw [hl]
  simpa using hlr

set_option maxHeartbeats 12800000 in
theorem rOf_any (A : Option Addr) (n c : Nat) (l : List Spn) (w : World) (hr : Row w w.heap.size 2 A n (l.flatMap Spn.cells)) (hl : l.length = n) (hn : n * 16 ≤ 140737488351232) (hok : ∀ x ∈ l, x.ok) :
    Calls Tryz.prog 22 #[.slice A n c] w fun e w' => ∃ v R, e = .returned v ∧ w'.ownsRow w.heap.size 114 2 v R.length (R.flatMap Spn.cells) ∧ OfRes l R ∧ R.length ≤ n ∧ Below w.heap.size w w' := by
  obtain ⟨i0, hi, hz0, hz1, hz2⟩ := info_parts TwnSpn.rinfo
  have hL := hidden hl
  have HR := hidden hr
  have HO := hidden hok
  clear hl hr hok
  go_enter Tryz.func22, Tryz.ntmps22
  go_wp2_with fail
  go_loopw [3, 4] (fun v i wr => ∃ (k : Nat) (R : List Spn) (vo : Value), vo = v ∧ k ≤ n ∧ i = .int .i64 k ∧ wr.ownsRow w.heap.size 114 2 vo R.length (R.flatMap Spn.cells) ∧ Hid (R.Perm (fullS (l.take k))) ∧ Hid (PutG.InOrd frmLt R) ∧ R.length ≤ k ∧ Below w.heap.size w wr) (fun _ i _ => n - (intOf i).toNat)
  case atStart => exact ⟨0, [], _, rfl, Nat.zero_le _, rfl, World.ownsRow_nil _ _ _ _, hidden (by simp [fullS]), hidden List.Pairwise.nil, Nat.le_refl _, Below.refl _ _⟩
  case round =>
    obtain ⟨k, R, vo, rfl, hk, rfl, hown, hperm, hord, hRk, hb⟩ := hrel
    by_cases hlt : k < n
    · obtain ⟨wo, rfl⟩ : ∃ wo : World, wo = wr := ⟨_, rfl⟩
      obtain ⟨gs, o, x, rfl, hgs, hx, hcl⟩ := row_at spnK (HR.out.below hb) hL.out k hlt
      have c0 : wo.cell? ⟨gs, o + k * 2, none⟩ = some (.int .i64 x.frm) := hcl 0 (by omega)
      have c1 : wo.cell? ⟨gs, o + k * 2 + 1, none⟩ = some (.int .i64 x.til) := hcl 1 (by omega)
      have hT := hidden (take_snoc? hx)
      have hbs := hb.size
      have k0 : (0 : Int) ≤ (k : Int) := by omega
      have k1 : (k : Int) < (n : Int) := by omega
      clear hx hcl
      by_cases hf : x.til < x.frm
      · go_wp2_with fail
        go_quiet (fail)
        go_wp2_with fail
        go_roundw
        case rel =>
          refine ⟨k + 1, R, _, rfl, by omega, by go_num, own_drewN hown nq, ?_, hord, by omega, below_drewN hb nq⟩
          rw [hT.out, fullS_snoc, if_pos hf]; exact hperm
        case measure => simp [intOf]; omega
      · have hf2 : decide (x.til < x.frm) = false := decide_eq_false hf
        have hP : Hid (∀ j : Nat, (PutG.putAt j x R).Perm (fullS (l.take (k + 1)))) := hidden fun j => by
          rw [hT.out, fullS_snoc, if_neg hf]
          exact (PutG.putAt_perm j x R).trans (hperm.out.append_right [x])
        clear hperm
        go_wp2_with fail
        go_quiet (fail)
        generalize hwb : wo.drewN nq = wb
        have hownB : wb.ownsRow w.heap.size 114 2 _ _ _ := hwb ▸ own_drewN hown nq
        have hbB : Below w.heap.size w wb := hwb ▸ below_drewN hb nq
        have d0 : wb.cell? ⟨gs, o + k * 2, none⟩ = some (.int .i64 x.frm) := hwb ▸ c0
        have d1 : wb.cell? ⟨gs, o + k * 2 + 1, none⟩ = some (.int .i64 x.til) := hwb ▸ c1
        have hbs2 := hbB.size
        have hfr := Row.fresh wb 114 2 1 [.int .i64 x.frm, .int .i64 x.til] rfl
        clear hwb c0 c1 hown hb hbs
        go_wp2_with (at_builtin; refine wpList_app _ rfl _ _ 75 rfl w.heap.size 114 i0 _ 2 16 Tryz.underlying75 hi hz0 hz1 hz2 rfl (by decide) _ _ _ rfl (hownB.alloc _) _ _ _ _ _ rfl hfr (by simp [Value.oneCell']) (by unfold maxLen; omega) (by omega) (by simp; omega) ?_; intro v1 w1 hown1 hg1 hat1; obtain ⟨g, cap, rest, rfl, hg, hw1, hnc1, hcap, hlr⟩ := own_tail_g (l := R ++ [x]) hown1 (by simp [Spn.cells]) (by omega); have HW1 := hidden hw1; have HLR := hidden hlr; have HCAP := hidden hcap; clear hw1 hlr hown1 hcap)
        have hb1 : Below w.heap.size w w1 := (hbB.alloc hbs2 _).grown hg1 (by simp; omega) (fun q hq => (hownB.lt q hq).1)
        clear hg1 hat1 hfr d0 d1 hownB hbB hbs2 k0 k1
        go_loopw [5] (fun vk wx => ∃ j : Nat, j ≤ R.length ∧ vk = .int .i64 j ∧ Whole1 wx g 114 ((PutG.putAt j x R).flatMap Spn.cells ++ rest).toArray ∧ Hid (∀ (p : Nat) (y : Spn), j ≤ p → R[p]? = some y → frmLt x y = true) ∧ Below w.heap.size w wx) (fun vk _ => (intOf vk).toNat)
        case atStart =>
          refine ⟨R.length, Nat.le_refl _, by go_num, by rw [PutG.putAt_end]; exact HW1.out, ?_, hb1⟩
          intro p y hp hy
          rw [List.getElem?_eq_none (by omega)] at hy
          cases hy
        case round =>
          obtain ⟨j, hj, rfl, hwj, hup, hbx⟩ := hrel
          by_cases hj0 : 0 < j
          · obtain ⟨q, hq⟩ : ∃ q, j = q + 1 := ⟨j - 1, by omega⟩
            have hqR : q < R.length := by omega
            obtain ⟨y, hy⟩ : ∃ y, R[q]? = some y := ⟨R[q], List.getElem?_eq_getElem hqR⟩
            have hpj : (PutG.putAt j x R)[j]? = some x := PutG.putAt_at j x R hj
            have hpq : (PutG.putAt j x R)[q]? = some y := by rw [PutG.putAt_low j q x R (by omega), if_pos hqR]; exact hy
            have e0 : wr.cell? ⟨g, j * 2, none⟩ = some (.int .i64 x.frm) := whole_at spnK hwj hpj 0 (by omega)
            have f0 : wr.cell? ⟨g, q * 2, none⟩ = some (.int .i64 y.frm) := whole_at spnK hwj hpq 0 (by omega)
            have t3 : IntKind.i64.wrap ((j : Int) - 1) = (q : Int) := by rw [IntKind.wrap_i64]; omega
            have t4 : (q : Int) < (R.length : Int) + 1 := by omega
            have t5 : (0 : Int) ≤ (q : Int) := by omega
            have t6 : (j : Int) < (R.length : Int) + 1 := by omega
            have t7 : (0 : Int) < (j : Int) := by omega
            have t8 : (0 : Int) ≤ (j : Int) := by omega
            have HQ := hidden hq
            have HY := hidden hy
            have HPJ := hidden hpj
            have HPQ := hidden hpq
            have HWJ := hidden hwj
            clear hq hy hpj hpq hwj
            by_cases hlt2 : x.frm < y.frm
            · go_wp2_with fail
              go_quiet (fail)
              generalize hwa : wr.drewN nq = wa
              have hWA : Whole1 wa g 114 _ := hwa ▸ HWJ.out.drewN nq
              have hbA : Below w.heap.size w wa := hwa ▸ below_drewN hbx nq
              have e0 : wa.cell? ⟨g, j * 2, none⟩ = some (.int .i64 x.frm) := whole_at spnK hWA HPJ.out 0 (by omega)
              have e1 : wa.cell? ⟨g, j * 2 + 1, none⟩ = some (.int .i64 x.til) := whole_at spnK hWA HPJ.out 1 (by omega)
              have HWA := hidden hWA
              clear hwa hWA hbx HWJ f0
              go_upto_region 11 with (fail)
              have hX := Whole1.new wa 114 #[.int .i64 x.frm, .int .i64 x.til]
              have hW2 := HWA.out.alloc (.cells #[.int .i64 x.frm, .int .i64 x.til] 114)
              have hb2 := hbA.alloc hbA.size (.cells #[.int .i64 x.frm, .int .i64 x.til] 114)
              have hgX : g < wa.heap.size := HWA.out.lt
              generalize wa.alloc (.cells #[.int .i64 x.frm, .int .i64 x.til] 114) = w2 at hX hW2 hb2 ⊢
              obtain ⟨X, hXe⟩ : ∃ X, wa.heap.size = X := ⟨_, rfl⟩
              rw [hXe] at hX hgX ⊢
              have f0 : w2.cell? ⟨g, q * 2, none⟩ = some (.int .i64 y.frm) := whole_at spnK hW2 HPQ.out 0 (by omega)
              have f1 : w2.cell? ⟨g, q * 2 + 1, none⟩ = some (.int .i64 y.til) := whole_at spnK hW2 HPQ.out 1 (by omega)
              have e0 : w2.cell? ⟨g, j * 2, none⟩ = some (.int .i64 x.frm) := whole_at spnK hW2 HPJ.out 0 (by omega)
              have e1 : w2.cell? ⟨g, j * 2 + 1, none⟩ = some (.int .i64 x.til) := whole_at spnK hW2 HPJ.out 1 (by omega)
              have z0 := hW2.free (j * 2)
              have z1 := hW2.free (j * 2 + 1)
              have HX2 := hidden hX
              have HW2 := hidden hW2
              clear hX hW2 hXe HWA hbA
              go_upto_region 12 with (fail)
              have hpl := hidden (PutG.putAt_len j x R hj)
              have hW3 := puts_elem spnK HW2.out (i := j) (by rw [hpl.out]; omega) y
              have hX3 : Whole1 (w2.setCells g (j * 2) y.cells) X 114 #[.int .i64 x.frm, .int .i64 x.til] := HX2.out.grown (puts_gb y.cells (j * 2) w2) (by simp; omega)
              have hb3 : Below w.heap.size w (w2.setCells g (j * 2) y.cells) := below_gb hb2 (puts_gb y.cells (j * 2) w2) hb2.size hg
              clear e0 e1 f0 f1 z0 z1 HX2 HW2 hb2
              change Code.wp _ _ _ _ (w2.setCells g (j * 2) y.cells)
              generalize w2.setCells g (j * 2) y.cells = w3 at hW3 hX3 hb3 ⊢
              have hpq3 : ((PutG.putAt j x R).set j y)[q]? = some y := by rw [List.getElem?_set_ne (by have := HQ.out; omega)]; exact HPQ.out
              have f0 : w3.cell? ⟨g, q * 2, none⟩ = some (.int .i64 y.frm) := whole_at spnK hW3 hpq3 0 (by omega)
              have f1 : w3.cell? ⟨g, q * 2 + 1, none⟩ = some (.int .i64 y.til) := whole_at spnK hW3 hpq3 1 (by omega)
              have z0 := hW3.free (q * 2)
              have z1 := hW3.free (q * 2 + 1)
              have k0 := hX3.cell 0
              have k1 := hX3.cell 1
              have HW3 := hidden hW3
              clear hW3 hX3 hpq3
              go_wp2_with fail
              go_roundw
              case rel =>
                have hsw : ((PutG.putAt j x R).set j y).set q x = PutG.putAt q x R := by rw [HQ.out]; exact PutG.putAt_swap q x y R (by omega) HY.out
                have hW4 := puts_elem spnK HW3.out (i := q) (by rw [List.length_set, hpl.out]; omega) x
                rw [hsw] at hW4
                refine ⟨q, by omega, by go_num, hW4, hidden (fun p z hp hz => ?_), below_gb hb3 (puts_gb x.cells (q * 2) w3) hb3.size hg⟩
                rcases Nat.lt_or_ge q p with h | h
                · exact hup.out p z (by have := HQ.out; omega) hz
                · obtain rfl : p = q := by omega
                  rw [HY.out] at hz
                  injection hz with hz
                  rw [← hz]; exact decide_eq_true hlt2
              case measure => have := HQ.out; simp [intOf]; omega
            · have hf3 : decide (x.frm < y.frm) = false := decide_eq_false hlt2
              go_wp2_with fail
              go_quiet (fail)
              go_wp2_with fail
              go_roundw
              case rel =>
                refine ⟨k + 1, PutG.putAt j x R, _, rfl, by omega, by go_num, own_ins hg (HWJ.out.drewN nq) hnc1 HCAP.out hj HLR.out, hidden (hP.out j), hidden (PutG.putAt_ord j x R swo_frmLt hord.out hj (fun p z hp hz => hup.out p z hp hz) (fun z _ hz => ?_)), by rw [PutG.putAt_len j x R hj]; omega, below_drewN hbx nq⟩
                rw [show j - 1 = q from by have := HQ.out; omega, HY.out] at hz
                injection hz with hz
                rw [← hz]; exact hf3
              case measure => simp [intOf]; omega
          · obtain rfl : j = 0 := by omega
            go_wp2_with fail
            go_quiet (fail)
            go_wp2_with fail
            go_roundw
            case rel =>
              exact ⟨k + 1, PutG.putAt 0 x R, _, rfl, by omega, by go_num, own_ins hg (hwj.drewN nq) hnc1 HCAP.out hj HLR.out, hidden (hP.out 0), hidden (PutG.putAt_ord 0 x R swo_frmLt hord.out hj (fun p z hp hz => hup.out p z hp hz) (fun z h0 _ => absurd h0 (by omega))), by rw [PutG.putAt_len 0 x R hj]; omega, below_drewN hbx nq⟩
            case measure => simp [intOf]; omega
    · obtain rfl : n = k := by omega
      have hpe : Hid (R.Perm (fullS l)) := by rw [Hid, ← (show l.take n = l from List.take_of_length_le (by rw [hL.out]; exact Nat.le_refl _))]; exact hperm.out
      have hRo : Hid (∀ y ∈ R, y.ok) := hidden fun y hy => HO.out y (List.mem_filter.1 (hpe.out.mem_iff.1 hy)).1
      obtain ⟨w0, rfl⟩ : ∃ w0 : World, w0 = wr := ⟨_, rfl⟩
      obtain ⟨A3, c3, rfl, _, hr3⟩ := own_shape hown
      obtain ⟨m, hm⟩ : ∃ m, R.length = m := ⟨_, rfl⟩
      rw [hm] at hr3 hRk ⊢
      have hRl := hidden hm
      have HR3 := hidden hr3
      have HB := hidden hb
      clear hown hr3 hm hperm hb
      go_wp2_with fail
      go_loopw [7, 8] (fun v i wx => ∃ (k : Nat) (Q : List Spn) (vq : Value), vq = v ∧ k ≤ m ∧ i = .int .i64 k ∧ wx.ownsRow w0.heap.size 114 2 vq Q.length (Q.flatMap Spn.cells) ∧ Hid (Q = joinAll (R.take k)) ∧ Hid (∀ y ∈ Q, y.ok) ∧ Q.length ≤ k ∧ Below w0.heap.size w0 wx) (fun _ i _ => m - (intOf i).toNat)
      case atStart => exact ⟨0, [], _, rfl, Nat.zero_le _, rfl, World.ownsRow_nil _ _ _ _, rfl, hidden (by simp), Nat.le_refl _, Below.refl _ _⟩
      case round =>
        obtain ⟨k, Q, vq, rfl, hk, rfl, hown, hj, hQo, hQk, hb⟩ := hrel
        by_cases hlt2 : k < m
        · obtain ⟨gs, o, x, rfl, hgs, hx, hcl⟩ := row_at spnK (HR3.out.below hb) hRl.out k hlt2
          have c0 : wr.cell? ⟨gs, o + k * 2, none⟩ = some (.int .i64 x.frm) := hcl 0 (by omega)
          have c1 : wr.cell? ⟨gs, o + k * 2 + 1, none⟩ = some (.int .i64 x.til) := hcl 1 (by omega)
          have hT : Hid (joinAll (R.take (k + 1)) = joinStep Q x) := by rw [Hid, take_snoc? hx, joinAll_snoc, ← hj.out]
          have hxo := hRo.out x (List.mem_of_getElem? hx)
          have k0 : (0 : Int) ≤ (k : Int) := by omega
          have k1 : (k : Int) < (m : Int) := by omega
          have hbs := hb.size
          clear hx hcl
          rcases List.eq_nil_or_concat Q with rfl | ⟨M, z, rfl⟩
          · obtain ⟨A4, c4, rfl, _, _⟩ := own_shape hown
            have HT := hidden (hT.out.trans (joinStep_nil x))
            have hfr := Row.fresh wr 114 2 1 [.int .i64 x.frm, .int .i64 x.til] rfl
            clear hT
            go_wp2_with (at_builtin; refine wpList_app _ rfl _ _ 75 rfl w0.heap.size 114 i0 _ 2 16 Tryz.underlying75 hi hz0 hz1 hz2 rfl (by decide) _ _ _ rfl (hown.alloc _) _ _ _ _ _ rfl hfr (by simp [Value.oneCell']) (by unfold maxLen; simp) (by simp) (by simp; omega) ?_; intro v9 w9 hown9 hg9 hat9)
            go_roundw
            case rel =>
              exact ⟨k + 1, [x], v9, rfl, by omega, by go_num, hown9, HT.out.symm, hidden (by intro y hy; rw [List.mem_singleton.1 hy]; exact hxo), by simp, (hb.alloc hbs _).grown hg9 (by simp; omega) (fun q hq => (hown.lt q hq).1)⟩
            case measure => simp [intOf]; omega
          · rw [List.concat_eq_append] at *
            have hownL : wr.ownsRow w0.heap.size 114 2 vq (M.length + 1) ((M ++ [z]).flatMap Spn.cells) := (by simp : (M ++ [z]).length = M.length + 1) ▸ hown
            clear hown
            obtain ⟨g, cap, rest, rfl, hg, hw, hnc, hc, _, hm2⟩ := own_whole_g spnK hownL (by omega)
            have HT := hidden (hT.out.trans (joinStep_snoc M z x))
            have hml : M.length + 1 ≤ k := by simpa using hQk
            have hzo := hQo.out z (by simp)
            have hzM : (M ++ [z])[M.length]? = some z := by simp
            have e0 : wr.cell? ⟨g, M.length * 2, none⟩ = some (.int .i64 z.frm) := whole_at spnK hw hzM 0 (by omega)
            have e1 : wr.cell? ⟨g, M.length * 2 + 1, none⟩ = some (.int .i64 z.til) := whole_at spnK hw hzM 1 (by omega)
            have l1 : (0 : Int) ≤ (M.length : Int) := by omega
            have l2 : (M.length : Int) < (M.length : Int) + 1 := by omega
            have r0 := cell_regrown c0
            have r1 := cell_regrown c1
            have r2 := cell_regrown e0
            have r3 := cell_regrown e1
            have S1 : Hid (∀ D os, Calls Tryz.prog 50 #[.agg #[.int .i64 z.frm, .int .i64 z.til], .agg #[.int .i64 x.frm, .int .i64 x.til]] (Go.Sort.grow (redrawn wr D) os) fun e w'' => e = .returned (.bool (joinB z x)) ∧ ∃ p : Regrown, w'' = Go.Sort.grow (redrawn wr p.d) p.os) :=
              hidden fun D os => Calls.regrown_of (touch_any z x _ hzo hxo)
            have HC0 := hidden c0
            have HC1 := hidden c1
            have HW := hidden hw
            clear hT hzM c0 c1 e0 e1 hw
            go_wp2_with fail
            refine wp_region_quiet_below (by kernel_rfl) (by kernel_rfl) ?_
            repeat (first | go_big_quiet_step (exact S1.out _ _) | quiet_step (exact S1.out _ _))
            refine wpQuiet_nil ?_
            intro _ hw'
            obtain ⟨⟨dq, osq⟩, hw''⟩ := hw'
            subst hw''
            clear r0 r1 r2 r3 S1
            have hb5 : Below wr.heap.size wr (Go.Sort.grow (redrawn wr (Regrown.mk dq osq).d) (Regrown.mk dq osq).os) := below_regrown _ _ _
            generalize Go.Sort.grow (redrawn wr (Regrown.mk dq osq).d) (Regrown.mk dq osq).os = w5 at hb5 ⊢
            have hW5 := HW.out.below hb5 HW.out.lt
            have hB5 := hb.trans (hb5.mono hbs)
            have hO5 := own_below hownL hb5 (Nat.le_refl _)
            have hgs5 := World.block_lt_of_cell? wr _ HC0.out
            simp only at hgs5
            have c0 : w5.cell? ⟨gs, o + k * 2, none⟩ = some (.int .i64 x.frm) := (hb5.cell (p := ⟨gs, o + k * 2, none⟩) hgs5).trans HC0.out
            have c1 : w5.cell? ⟨gs, o + k * 2 + 1, none⟩ = some (.int .i64 x.til) := (hb5.cell (p := ⟨gs, o + k * 2 + 1, none⟩) hgs5).trans HC1.out
            have hs5 := hB5.size
            generalize hjb : joinB z x = jb
            have HJB := hidden hjb
            clear hjb hb5 hownL HW HC0 HC1 hgs5 hb hbs
            cases jb
            · have hq := joinB_not.1 HJB.out
              have hfr := Row.fresh w5 114 2 1 [.int .i64 x.frm, .int .i64 x.til] rfl
              have HQ := hidden hq
              clear hq hW5
              go_wp2_with (at_builtin; refine wpList_app _ rfl _ _ 75 rfl w0.heap.size 114 i0 _ 2 16 Tryz.underlying75 hi hz0 hz1 hz2 rfl (by decide) _ _ _ rfl (hO5.alloc _) _ _ _ _ _ rfl hfr (by simp [Value.oneCell']) (by unfold maxLen; omega) (by omega) (by simp; omega) ?_; intro v9 w9 hown9 hg9 hat9)
              go_roundw
              case rel =>
                exact ⟨k + 1, M ++ [z] ++ [x], v9, rfl, by omega, by go_num, (by rw [List.flatMap_append, List.length_append, List.length_append]; exact hown9), hidden (HT.out.trans (if_pos HQ.out)).symm, hidden (fun y hy => by
                  rcases List.mem_append.1 hy with hy | hy
                  · exact hQo.out y hy
                  · rw [List.mem_singleton.1 hy]; exact hxo), by simp; omega, (hB5.alloc hs5 _).grown hg9 (by simp; omega) (fun q hq => (hO5.lt q hq).1)⟩
              case measure => simp [intOf]; omega
            · have hq : ¬ (z.til < x.frm ∧ z.til < x.frm - 1) := fun h => by
                have := joinB_not.2 h
                rw [HJB.out] at this
                cases this
              have HT2 := hidden (HT.out.trans (if_neg hq))
              have e1 : w5.cell? ⟨g, M.length * 2 + 1, none⟩ = some (.int .i64 z.til) := whole_at spnK hW5 (by simp) 1 (by omega)
              have HW5 := hidden hW5
              clear hq hW5 HT
              by_cases hzx : z.til < x.til
              · go_wp2_with fail
                go_quiet (fail)
                generalize hw6 : w5.drewN nq = w6
                have hW6 : Whole1 w6 g 114 _ := hw6 ▸ HW5.out.drewN nq
                have hb6 : Below w0.heap.size w0 w6 := hw6 ▸ below_drewN hB5 nq
                have c1 : w6.cell? ⟨gs, o + k * 2 + 1, none⟩ = some (.int .i64 x.til) := hw6 ▸ c1
                have e1 : w6.cell? ⟨g, M.length * 2 + 1, none⟩ = some (.int .i64 z.til) := hw6 ▸ e1
                have f1 := hW6.free (M.length * 2 + 1)
                have HW6 := hidden hW6
                clear hw6 hW6 HW5 hB5 hO5
                go_wp2_with fail
                go_roundw
                case rel =>
                  have hW7 := put_til HW6.out x.til
                  refine ⟨k + 1, M ++ [(⟨z.frm, x.til⟩ : Spn)], _, rfl, by omega, by go_num, ?_, hidden (HT2.out.trans (by rw [if_pos hzx])).symm, hidden (fun y hy => ?_), by simp; omega, hb6.setCell (p := ⟨g, M.length * 2 + 1, none⟩) hg _⟩
                  · rw [List.length_append, List.length_singleton]
                    exact own_of_whole_g spnK hg hW7 hnc hc (by simp) (by rw [List.length_append, fm_len spnK] at hm2 ⊢; simpa using hm2)
                  · rcases List.mem_append.1 hy with hy | hy
                    · exact hQo.out y (List.mem_append_left _ hy)
                    · rw [List.mem_singleton.1 hy]
                      exact ⟨hzo.1, hzo.2.1, hxo.2.2.1, hxo.2.2.2⟩
                case measure => simp [intOf]; omega
              · have hzx2 : decide (z.til < x.til) = false := decide_eq_false hzx
                go_wp2_with fail
                go_quiet (fail)
                go_wp2_with fail
                go_roundw
                case rel =>
                  refine ⟨k + 1, M ++ [z], _, rfl, by omega, by go_num, ?_, hidden (HT2.out.trans (by rw [if_neg (by omega)])).symm, hQo, by simp; omega, below_drewN hB5 nq⟩
                  rw [List.length_append, List.length_singleton]
                  exact own_drewN hO5 nq
                case measure => simp [intOf]; omega
        · obtain rfl : m = k := by omega
          have hE := hidden (show R.take m = R from List.take_of_length_le (by rw [hRl.out]; exact Nat.le_refl _))
          go_wp2_with fail
          go_ret
          refine ⟨_, Q, rfl, own_more hown HB.out.size, ?_, by omega, HB.out.trans (hb.mono HB.out.size)⟩
          rw [hj.out, hE.out]
          refine ofRes_join hpe.out ?_
          refine hord.out.imp fun {a b} h => ?_
          simpa [frmLt] using h
end Go.Proofs.YtdggnnjjiolldaaGreat
