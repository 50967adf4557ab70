/- spans.Of: the one list of the spans. Condition: the row is within the reach. The law's helpers ref, twin, alike at spans: what they return. Condition: the rows are within the reach. A list with one element put in, plainly; in order. No program. -/
import Derived.Test.YthncochjhbmceaaGreatPka2a7b020
import Derived.Test.YthncochjhbmceaaGreatPkc209d2db
import Derived.StillTailTactics
import Derived.Test.YthncochjhbmceaaGreatBase
import Derived.Sort.Statements
namespace Go.Proofs.YthncochjhbmceaaGreat
set_option maxRecDepth 100000
open Go.RowKit

theorem spnK (x : Spn) : x.cells.length = 2 := rfl
theorem spnOfDel_any (x : Spn) (w : World) : Calls Tryz.prog 70 #[.agg #[.int .i64 x.frm, .int .i64 x.til]] w fun e w' => e = .returned (.bool (decide (x.til < x.frm))) ∧ Below w.heap.size w w' := by
  go_enter Tryz.func70, Tryz.ntmps70
  go_wp2_with fail
  go_ret
  exact ⟨rfl, (Below.refl _ _).alloc (Nat.le_refl _) _⟩
theorem spnOfCmp_any (x y : Spn) (w : World) : Calls Tryz.prog 72 #[.agg #[.int .i64 x.frm, .int .i64 x.til], .agg #[.int .i64 y.frm, .int .i64 y.til]] w fun e w' => e = .returned (.int .i64 (cmpZ x.frm y.frm)) ∧ ∃ q os', w' = Go.Sort.grow (w.drewN q) os' := by
  go_enter Tryz.func72, Tryz.ntmps72
  go_wp2_with fail
  refine (cmp64_z _ _ _).mono ?_
  rintro e w' ⟨rfl, rfl⟩
  go_wp2_with fail
  go_ret
  exact ⟨rfl, ((Gr.refl _).alloc _).alloc _⟩

theorem put_til {w : World} {g : Nat} {T : TypeId} {M : List Spn} {z : Spn} {rest : List Value} (h : Whole1 w g T ((M ++ [z]).flatMap Spn.cells ++ rest).toArray) (u : Int) :
    Whole1 (w.setCell ⟨g, M.length * 2 + 1, none⟩ (.int .i64 u)) g T ((M ++ [(⟨z.frm, u⟩ : Spn)]).flatMap Spn.cells ++ rest).toArray := by
  have h1 := h.put (M.length * 2 + 1) (.int .i64 u)
  have hl : (M.flatMap Spn.cells).length = M.length * 2 := fm_len spnK M
  have e : ((M ++ [z]).flatMap Spn.cells ++ rest).toArray.setIfInBounds (M.length * 2 + 1) (.int .i64 u) = ((M ++ [(⟨z.frm, u⟩ : Spn)]).flatMap Spn.cells ++ rest).toArray := by
    rw [List.setIfInBounds_toArray, List.flatMap_append, List.flatMap_append, List.append_assoc, List.append_assoc, List.set_append_right _ _ (by omega), hl]
    simp [Spn.cells]
  rw [e] at h1
  exact h1

set_option maxHeartbeats 6400000 in
theorem spnOf_any (A : Option Addr) (n c : Nat) (l : List Spn) (w : World) (hr : Row w w.heap.size 2 A n (l.flatMap Spn.cells)) (hl : l.length = n) (hn : n * 16 ≤ 140737488351232) (hok : ∀ x ∈ l, x.ok) :
    Calls Tryz.prog 34 #[.slice A n c] w fun e w' => ∃ v R, e = .returned v ∧ w'.ownsRow w.heap.size 33 2 v R.length (R.flatMap Spn.cells) ∧ OfRes l R ∧ R.length ≤ n ∧ Below w.heap.size w w' := by
  obtain ⟨i0, hi, hz0, hz1, hz2⟩ := info_parts ClnSpn.info
  have eg1 : ∀ args w, (callFunc 70 args).run Tryz.prog w = .ok (.enter 70 args) w := enters_of Tryz.func70 (by kernel_rfl) rfl
  have eg2 : ∀ args w, (callFunc 72 args).run Tryz.prog w = .ok (.enter 72 args) w := enters_of Tryz.func72 (by kernel_rfl) rfl
  have S1 := hidden (ClnSpn.cloneO_any A n c l w hr hl hn)
  have HL := hidden hl
  have HE1 := hidden eg1
  have HE2 := hidden eg2
  have HO := hidden hok
  clear hr hl eg1 eg2 hok
  rcases Nat.eq_zero_or_pos n with h0 | h0
  · subst h0
    have hle : Hid (l = []) := List.eq_nil_of_length_eq_zero HL.out
    go_enter Tryz.func34, Tryz.ntmps34
    go_wp2_with fail
    refine S1.out.mono ?_
    rintro e w1 ⟨⟨sA, sn, sc, sl⟩, rfl, _, hsn, _, _, hb1, _⟩
    obtain rfl : sn = 0 := hsn
    have HB := hidden hb1
    simp only [Sl.val]
    clear S1 hb1
    go_wp2_with fail
    refine (DelSpn.delete0_any sA sc _ _).mono ?_
    rintro e w' ⟨rfl, rfl⟩
    go_wp2_with fail
    refine (SrfSpn.sort0_any sA sc _ _).mono ?_
    rintro e w' ⟨rfl, rfl⟩
    go_wp2_with fail
    refine wp_loop_rounds 1 ?_
    rw [rounds_succ]
    go_wp2_with fail
    go_ret
    exact ⟨_, [], rfl, World.ownsRow_nil _ _ _ _, by rw [hle.out]; exact OfRes.self OneS.nil, Nat.le_refl _, HB.out⟩
  · go_enter Tryz.func34, Tryz.ntmps34
    go_wp2_with fail
    refine S1.out.mono ?_
    rintro e w1 ⟨⟨sA, sn, sc, sl⟩, rfl, _, hsn, _, _, hb1, hown⟩
    obtain rfl : sn = n := hsn
    have hown' := hown h0
    simp only [Sl.val] at hown' ⊢
    have S2 := hidden (DelSpn.deleteAll_any _ sn w.heap.size l 70 #[] (fun s => decide (s.til < s.frm)) w1 HE1.out (fun g hg x hx W hW => spnOfDel_any x W) hown' HL.out (by omega))
    have B1 := hidden hb1
    clear S1 hown hown' hb1
    go_wp2_with fail
    refine S2.out.mono ?_
    rintro e w2 ⟨v2, rfl, ho2, hg2, hv2⟩
    have hfl : (fullS l).length ≤ sn := by rw [← HL.out]; exact List.length_filter_le _ _
    have ho2' : w2.ownsRow w.heap.size 33 2 v2 (fullS l).length ((fullS l).flatMap Spn.cells) := ho2
    have B2 := hidden (B1.out.grown hg2 B1.out.size (fun q hq => (ho2.lt q (hv2.trans hq)).1))
    have S3 := hidden (SrfSpn.sortAll_any v2 _ w.heap.size (fullS l) 72 #[] (fun x y => cmpZ x.frm y.frm) w2 HE2.out (swo_at Spn.frm) (fun g hg x hx y hy W hW => spnOfCmp_any x y W) ho2' rfl (by omega))
    obtain ⟨A2, c2, rfl, _, _⟩ := own_shape ho2'
    clear S2 ho2 hg2 hv2 B1
    go_wp2_with fail
    refine S3.out.mono ?_
    rintro e w3 ⟨rfl, S, hS, ho3, hg3⟩
    have B3 := hidden (B2.out.grown hg3 B2.out.size (fun q hq => (ho3.lt q hq).1))
    have hr3 := Row.of_own ho3
    have HS := hidden hS
    generalize hm : (fullS l).length = m at *
    have hSl : Hid (S.length = m) := by rw [Hid, hS.1.length_eq]; exact hm
    have HR := hidden hr3
    clear S3 ho2' hg3 B2 hr3 hS ho3 hm
    go_wp2_with fail
    go_loopw [4, 15] (fun v i wr => ∃ (k : Nat) (R : List Spn) (vo : Value), vo = v ∧ k ≤ m ∧ i = .int .i64 k ∧ wr.ownsRow w3.heap.size 33 2 vo R.length (R.flatMap Spn.cells) ∧ Hid (R = joinAll (S.take k)) ∧ Hid (∀ y ∈ R, y.ok) ∧ R.length ≤ k ∧ Below w3.heap.size w3 wr) (fun _ i _ => m - (intOf i).toNat)
    case atStart => exact ⟨0, [], _, rfl, Nat.zero_le _, rfl, World.ownsRow_nil _ _ _ _, rfl, hidden (by simp), Nat.le_refl _, Below.refl _ _⟩
    case round =>
      obtain ⟨k, R, vo, rfl, hk, rfl, hown, hj, hRo, hRk, hb⟩ := hrel
      by_cases hlt : k < m
      · obtain ⟨gs, o, x, rfl, hgs, hx, hcl⟩ := row_at spnK (HR.out.below hb) hSl.out k hlt
        have c0 : wr.cell? ⟨gs, o + k * 2, none⟩ = some (.int .i64 x.frm) := hcl 0 (by omega)
        have c1 : wr.cell? ⟨gs, o + k * 2 + 1, none⟩ = some (.int .i64 x.til) := hcl 1 (by omega)
        have hT : Hid (joinAll (S.take (k + 1)) = joinStep R x) := by rw [Hid, take_snoc? hx, joinAll_snoc, ← hj.out]
        have hkz : (k : Int) < (m : Int) := by omega
        have hxo : x.ok := HO.out x (List.mem_filter.1 (HS.out.1.mem_iff.1 (List.mem_of_getElem? hx))).1
        obtain ⟨x1, x2, x3, x4⟩ := hxo
        clear hx hcl
        have hbs := hb.size
        rcases List.eq_nil_or_concat R with rfl | ⟨M, z, rfl⟩
        · obtain ⟨A4, c4, rfl, _, _⟩ := own_shape hown
          have HT := hidden (hT.out.trans (joinStep_nil x))
          clear hT
          go_upto_region 7 with (fail)
          have hY := Whole1.new wr 33 #[.int .i64 x.frm, .int .i64 x.til]
          have hownA := hown.alloc (.cells #[.int .i64 x.frm, .int .i64 x.til] 33)
          have hbA := hb.alloc hbs (.cells #[.int .i64 x.frm, .int .i64 x.til] 33)
          generalize wr.alloc (.cells #[.int .i64 x.frm, .int .i64 x.til] 33) = wa at hY hownA hbA ⊢
          obtain ⟨X, hX⟩ : ∃ X, wr.heap.size = X := ⟨_, rfl⟩
          rw [hX] at hY ⊢
          have d0 := hY.cell 0
          have d1 := hY.cell 1
          have HY := hidden hY
          clear hY hX hown hb hbs c0 c1
          go_wp2_with fail
          go_quiet (fail)
          generalize hwb : wa.drewN nq = wb
          have hownB : wb.ownsRow w3.heap.size 33 2 _ _ _ := hwb ▸ own_drewN hownA nq
          have hYB : Whole1 wb X 33 #[.int .i64 x.frm, .int .i64 x.til] := hwb ▸ HY.out.drewN nq
          have hbB : Below w3.heap.size w3 wb := hwb ▸ below_drewN hbA nq
          have k0 := hYB.cell 0
          have k1 := hYB.cell 1
          have hbs := hbB.size
          have hfr := Row.fresh wb 33 2 1 [.int .i64 x.frm, .int .i64 x.til] rfl
          clear hwb hYB HY d0 d1 hownA hbA
          go_wp2_with (at_builtin; refine wpList_app _ rfl _ _ 59 rfl w3.heap.size 33 i0 _ 2 16 Tryz.underlying59 hi hz0 hz1 hz2 rfl (by decide) _ _ _ rfl (hownB.alloc _) _ _ _ _ _ rfl hfr (by simp [Value.oneCell']) (by unfold maxLen; omega) (by omega) (by simp; omega) ?_; intro v9 w9 hown9 hg9 hat9)
          go_roundw
          case rel =>
            refine ⟨k + 1, [x], v9, rfl, by omega, by go_num, hown9, HT.out.symm, hidden (by intro y hy; rw [List.mem_singleton.1 hy]; exact ⟨x1, x2, x3, x4⟩), by simp, (hbB.alloc hbs _).grown hg9 (by simp; omega) (fun q hq => (hownB.lt q hq).1)⟩
          case measure => simp [intOf]; omega
        · rw [List.concat_eq_append] at *
          have hownL : wr.ownsRow w3.heap.size 33 2 vo (M.length + 1) ((M ++ [z]).flatMap Spn.cells) := (by simp : (M ++ [z]).length = M.length + 1) ▸ hown
          clear hown
          obtain ⟨g, cap, rest, rfl, hg, hw, hnc, hc, _, hm2⟩ := own_whole_g spnK hownL (by omega)
          have HT := hidden (hT.out.trans (joinStep_snoc M z x))
          have hml : M.length + 1 ≤ k := by simpa using hRk
          clear hT
          go_upto_region 7 with (fail)
          have hY := Whole1.new wr 33 #[.int .i64 x.frm, .int .i64 x.til]
          have hownA := hownL.alloc (.cells #[.int .i64 x.frm, .int .i64 x.til] 33)
          have hbA := hb.alloc hbs (.cells #[.int .i64 x.frm, .int .i64 x.til] 33)
          have hwA := hw.alloc (.cells #[.int .i64 x.frm, .int .i64 x.til] 33)
          generalize wr.alloc (.cells #[.int .i64 x.frm, .int .i64 x.til] 33) = wa at hY hownA hbA hwA ⊢
          obtain ⟨X, hX⟩ : ∃ X, wr.heap.size = X := ⟨_, rfl⟩
          have hgX : g < X := by rw [← hX]; exact hw.lt
          rw [hX] at hY ⊢
          have d0 := hY.cell 0
          have d1 := hY.cell 1
          have e1 : wa.cell? ⟨g, M.length * 2 + 1, none⟩ = some (.int .i64 z.til) := by
            rw [hwA.cell, List.getElem?_toArray, List.getElem?_append_left (by rw [fm_len spnK]; simp; omega), fm_at spnK _ M.length z 1 (by simp) (by omega)]; rfl
          have HY := hidden hY
          have HW := hidden hwA
          clear hY hX hownL hb hbs c0 c1 hw hwA
          have l1 : decide ((M.length : Int) < 0) = false := by simp
          have l2 : (0 : Int) ≤ (M.length : Int) := by omega
          have l3 : (M.length : Int) < (M.length : Int) + 1 := by omega
          obtain ⟨z1, z2, z3, z4⟩ := hRo.out z (by simp)
          by_cases q1 : z.til < x.frm
          · by_cases q2 : z.til < x.frm - 1
            · go_wp2_with fail
              go_quiet (fail)
              generalize hwb : wa.drewN nq = wb
              have hownB : wb.ownsRow w3.heap.size 33 2 _ _ _ := hwb ▸ own_drewN hownA nq
              have hYB : Whole1 wb X 33 #[.int .i64 x.frm, .int .i64 x.til] := hwb ▸ HY.out.drewN nq
              have hbB : Below w3.heap.size w3 wb := hwb ▸ below_drewN hbA nq
              have k0 := hYB.cell 0
              have k1 := hYB.cell 1
              have hbs := hbB.size
              have hfr := Row.fresh wb 33 2 1 [.int .i64 x.frm, .int .i64 x.til] rfl
              clear hwb hYB HY d0 d1 hownA hbA
              go_wp2_with (at_builtin; refine wpList_app _ rfl _ _ 59 rfl w3.heap.size 33 i0 _ 2 16 Tryz.underlying59 hi hz0 hz1 hz2 rfl (by decide) _ _ _ rfl (hownB.alloc _) _ _ _ _ _ rfl hfr (by simp [Value.oneCell']) (by unfold maxLen; omega) (by omega) (by simp; omega) ?_; intro v9 w9 hown9 hg9 hat9)
              go_roundw
              case rel =>
                refine ⟨k + 1, M ++ [z] ++ [x], v9, rfl, by omega, by go_num, (by rw [List.flatMap_append, List.length_append, List.length_append]; exact hown9), hidden (HT.out.trans (if_pos ⟨q1, q2⟩)).symm, hidden (fun y hy => by
                  rcases List.mem_append.1 hy with hy | hy
                  · exact hRo.out y hy
                  · rw [List.mem_singleton.1 hy]; exact ⟨x1, x2, x3, x4⟩), by simp; omega, (hbB.alloc hbs _).grown hg9 (by simp; omega) (fun q hq => (hownB.lt q hq).1)⟩
              case measure => simp [intOf]; omega
            · have q3 : decide (z.til < x.frm - 1) = false := decide_eq_false q2
              go_wp2_with fail
              go_quiet (fail)
              generalize hwb : wa.drewN nq = wb
              have hWB : Whole1 wb g 33 _ := hwb ▸ HW.out.drewN nq
              have hYB : Whole1 wb X 33 #[.int .i64 x.frm, .int .i64 x.til] := hwb ▸ HY.out.drewN nq
              have hbB : Below w3.heap.size w3 wb := hwb ▸ below_drewN hbA nq
              have k1 := hYB.cell 1
              have f1 := hWB.free (M.length * 2 + 1)
              have e2 : wb.cell? ⟨g, M.length * 2 + 1, none⟩ = some (.int .i64 z.til) := hwb ▸ e1
              have HWB := hidden hWB
              clear hwb hWB hYB HY HW d0 d1 e1 hownA hbA
              go_wp2_with fail
              go_still_tail 12, (by kernel_rfl)
              change wpList _ _ _ _ _ wb.drew
              go_wp2_with fail
              go_roundw
              case rel =>
                have hmx : (if z.til < x.til then x.til else z.til) = max z.til x.til := by split <;> omega
                have hW2 := put_til HWB.out (max z.til x.til)
                refine ⟨k + 1, M ++ [(⟨z.frm, max z.til x.til⟩ : Spn)], _, rfl, by omega, by go_num, ?_, hidden (HT.out.trans ((if_neg (fun h => absurd h.2 (by omega))).trans (by rw [hmx]))).symm, hidden (fun y hy => ?_), by simp; omega, ?_⟩
                · rw [List.length_append, List.length_singleton]
                  exact own_of_whole_g spnK hg hW2.drew hnc hc (by simp) (by rw [List.length_append, fm_len spnK] at hm2 ⊢; simpa using hm2)
                · rcases List.mem_append.1 hy with hy | hy
                  · exact hRo.out y (List.mem_append_left _ hy)
                  · rw [List.mem_singleton.1 hy]
                    exact ⟨z1, z2, by show _ ≤ max z.til x.til; omega, by show max z.til x.til < _; omega⟩
                · exact (hbB.setCell (p := ⟨g, M.length * 2 + 1, none⟩) hg _).drew
              case measure => simp [intOf]; omega
          · have q3 : decide (z.til < x.frm) = false := decide_eq_false q1
            go_wp2_with fail
            go_quiet (fail)
            generalize hwb : wa.drewN nq = wb
            have hWB : Whole1 wb g 33 _ := hwb ▸ HW.out.drewN nq
            have hYB : Whole1 wb X 33 #[.int .i64 x.frm, .int .i64 x.til] := hwb ▸ HY.out.drewN nq
            have hbB : Below w3.heap.size w3 wb := hwb ▸ below_drewN hbA nq
            have k1 := hYB.cell 1
            have f1 := hWB.free (M.length * 2 + 1)
            have e2 : wb.cell? ⟨g, M.length * 2 + 1, none⟩ = some (.int .i64 z.til) := hwb ▸ e1
            have HWB := hidden hWB
            clear hwb hWB hYB HY HW d0 d1 e1 hownA hbA
            go_wp2_with fail
            go_still_tail 12, (by kernel_rfl)
            change wpList _ _ _ _ _ wb.drew
            go_wp2_with fail
            go_roundw
            case rel =>
              have hmx : (if z.til < x.til then x.til else z.til) = max z.til x.til := by split <;> omega
              have hW2 := put_til HWB.out (max z.til x.til)
              refine ⟨k + 1, M ++ [(⟨z.frm, max z.til x.til⟩ : Spn)], _, rfl, by omega, by go_num, ?_, hidden (HT.out.trans ((if_neg (fun h => absurd h.1 (by omega))).trans (by rw [hmx]))).symm, hidden (fun y hy => ?_), by simp; omega, ?_⟩
              · rw [List.length_append, List.length_singleton]
                exact own_of_whole_g spnK hg hW2.drew hnc hc (by simp) (by rw [List.length_append, fm_len spnK] at hm2 ⊢; simpa using hm2)
              · rcases List.mem_append.1 hy with hy | hy
                · exact hRo.out y (List.mem_append_left _ hy)
                · rw [List.mem_singleton.1 hy]
                  exact ⟨z1, z2, by show _ ≤ max z.til x.til; omega, by show max z.til x.til < _; omega⟩
              · exact (hbB.setCell (p := ⟨g, M.length * 2 + 1, none⟩) hg _).drew
            case measure => simp [intOf]; omega
      · obtain rfl : m = k := by omega
        have hE := hidden (show S.take m = S from List.take_of_length_le (by rw [hSl.out]; exact Nat.le_refl _))
        go_wp2_with fail
        go_ret
        refine ⟨_, R, rfl, own_more hown (by have := B3.out.size; omega), ?_, by omega, B3.out.trans (hb.mono B3.out.size)⟩
        rw [hj.out, hE.out]
        refine ofRes_join HS.out.1 ?_
        refine HS.out.2.imp fun {a b} h => ?_
        have h2 := (cmpZ_lt b.frm a.frm).symm.trans h
        simpa using h2
end Go.Proofs.YthncochjhbmceaaGreat

namespace Go.Proofs.YthncochjhbmceaaGreat.TwnSpn
set_option maxRecDepth 100000
open Go.RowKit

theorem hk (x : Spn) : x.cells.length = 2 := rfl
theorem rinfo : (Tryz.prog.info? 222).map (fun i => (i.zero, i.size, i.bytes)) = some (some (.agg #[.int .i64 0, .int .i64 0]), 2, 16) := by kernel_rfl
theorem snoc_cells (l : List Spn) (x : Spn) : (l ++ [x]).flatMap Spn.cells = l.flatMap Spn.cells ++ [.int .i64 x.frm, .int .i64 x.til] := by simp [Spn.cells]

end Go.Proofs.YthncochjhbmceaaGreat.TwnSpn

namespace Go.Proofs.YthncochjhbmceaaGreat.PutG
set_option maxRecDepth 100000
open Go.RowKit Go.Sort

variable {α : Type}
theorem drop_cons? {l : List α} {k : Nat} {x : α} (h : l[k]? = some x) : l.drop k = x :: l.drop (k + 1) := by
  obtain ⟨hk, rfl⟩ := List.getElem?_eq_some_iff.1 h
  exact List.drop_eq_getElem_cons hk
/-- x stands at place k -/
def putAt (k : Nat) (x : α) (l : List α) : List α := l.take k ++ x :: l.drop k
theorem putAt_at (k : Nat) (x : α) (l : List α) (hk : k ≤ l.length) : (putAt k x l)[k]? = some x := by
  unfold putAt
  rw [List.getElem?_append_right (by simp; omega)]
  simp [List.length_take, Nat.min_eq_left hk]
theorem putAt_low (k j : Nat) (x : α) (l : List α) (hj : j < k) : (putAt k x l)[j]? = if j < l.length then l[j]? else (putAt k x l)[j]? := by
  unfold putAt
  by_cases h : j < l.length
  · rw [if_pos h, List.getElem?_append_left (by simp; omega), List.getElem?_take, if_pos hj]
  · rw [if_neg h]
/-- in order -/
def InOrd (lt : α → α → Bool) (l : List α) : Prop := l.Pairwise fun a b => lt b a = false
theorem asym {lt : α → α → Bool} (h : SWO lt) {a b : α} (k : lt a b = true) : lt b a = false := by
  cases h2 : lt b a with
  | false => rfl
  | true =>
    have := h.trans _ _ _ k h2
    rw [h.irrefl] at this
    cases this
variable {lt : α → α → Bool}
theorem putAt_ord (k : Nat) (x : α) (l : List α) (h : SWO lt) (hl : InOrd lt l) (hk : k ≤ l.length) (hup : ∀ (j : Nat) (y : α), k ≤ j → l[j]? = some y → lt x y = true) (hlow : ∀ (y : α), 0 < k → l[k - 1]? = some y → lt x y = false) : InOrd lt (putAt k x l) := by
  unfold InOrd putAt at *
  have hsplit := hl
  rw [← List.take_append_drop k l, List.pairwise_append] at hsplit
  obtain ⟨p1, p2, p3⟩ := hsplit
  rw [List.pairwise_append]
  have hdr : ∀ y ∈ l.drop k, lt x y = true := by
    intro y hy
    obtain ⟨j, hj, rfl⟩ := List.getElem_of_mem hy
    rw [List.length_drop] at hj
    refine hup (k + j) _ (by omega) ?_
    rw [List.getElem_drop]
    exact List.getElem?_eq_getElem (by omega)
  have htk : ∀ y ∈ l.take k, lt x y = false := by
    intro y hy
    obtain ⟨j, hj, rfl⟩ := List.getElem_of_mem hy
    rw [List.length_take] at hj
    have hk1 : k - 1 < l.length := by omega
    have h0 := hlow l[k - 1] (by omega) (List.getElem?_eq_getElem hk1)
    rw [List.getElem_take]
    rcases Nat.lt_or_ge j (k - 1) with hj1 | hj1
    · have h1 := List.pairwise_iff_getElem.1 hl j (k - 1) (by omega) hk1 hj1
      exact h.ntrans _ _ _ h0 h1
    · have : j = k - 1 := by omega
      subst this
      exact h0
  refine ⟨p1, List.pairwise_cons.2 ⟨fun y hy => asym h (hdr y hy), p2⟩, ?_⟩
  intro a ha b hb
  rcases List.mem_cons.1 hb with rfl | hb
  · exact htk a ha
  · exact p3 a ha b hb
end Go.Proofs.YthncochjhbmceaaGreat.PutG
