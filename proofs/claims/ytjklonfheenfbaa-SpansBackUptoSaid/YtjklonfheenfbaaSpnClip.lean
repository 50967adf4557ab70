/- spans.Clip and the reference's Clip. Condition: the row is within the reach. -/
import Derived.Test.YtjklonfheenfbaaSpnAsk
namespace Go.Proofs.Ytjklonfheenfbaa
set_option maxRecDepth 100000
open Go.RowKit Go.Shelf

theorem clip1_max (a b : Int) (x : Spn) : clip1S a b x = ⟨max x.frm a, min x.til b⟩ := by
  unfold clip1S
  congr 1
  · split <;> omega
  · split <;> omega
theorem set_step {R : List Spn} {k : Nat} {x : Spn} (f : Spn → Spn) (h : R[k]? = some x) : ((R.take k).map f ++ R.drop k).set k (f x) = (R.take (k + 1)).map f ++ R.drop (k + 1) := by
  have hk := (List.getElem?_eq_some_iff.1 h).1
  have hl : ((R.take k).map f).length = k := by simp; omega
  rw [take_snoc? h, PutG.drop_cons? h, List.set_append_right _ _ (by omega), hl, Nat.sub_self]
  simp
set_option maxHeartbeats 6400000 in
theorem clipSpn_any (A : Option Addr) (n c : Nat) (l : List Spn) (a b : Int) (w : World) (hr : Row w w.heap.size 2 A n (l.flatMap Spn.cells)) (hl : l.length = n) (hn : n * 16 ≤ 140737488351232) (hok : ∀ x ∈ l, x.ok) (ha : -9223372036854775808 ≤ a ∧ a < 9223372036854775808) (hb : -9223372036854775808 ≤ b ∧ b < 9223372036854775808) :
    Calls Try.prog 30 #[.slice A n c, .int .i64 a, .int .i64 b] w fun e w' => ∃ v R, e = .returned v ∧ w'.ownsRow w.heap.size 51 2 v (clipS a b R).length ((clipS a b R).flatMap Spn.cells) ∧ OfRes l R ∧ (clipS a b R).length ≤ n ∧ Below w.heap.size w w' := by
  have HOF := hidden (spnOf_any A n c l w hr hl hn hok)
  have HOK := hidden hok
  clear hr hl hok
  go_enter Try.func30, Try.ntmps30
  go_wp2_with fail
  refine HOF.out.mono ?_
  rintro e w1 ⟨v, R, rfl, ho, hR, hlen, hb1⟩
  obtain ⟨m, hm⟩ : ∃ m, R.length = m := ⟨_, rfl⟩
  rw [hm] at ho hlen
  obtain ⟨A2, c2, rfl, hc2, _⟩ := own_shape ho
  have HR := hidden hR
  have HM := hidden hm
  have B1 := hidden hb1
  clear hR hm HOF
  go_wp2_with fail
  go_loopw [14] (fun i wr => ∃ k : Nat, k ≤ m ∧ i = .int .i64 k ∧ wr.ownsRow w.heap.size 51 2 (.slice A2 m c2) m (((R.take k).map (clip1S a b) ++ R.drop k).flatMap Spn.cells) ∧ Below w.heap.size w wr) (fun i _ => m - (intOf i).toNat)
  case atStart => exact ⟨0, Nat.zero_le _, rfl, ho, hb1⟩
  case round =>
    obtain ⟨k, hk, rfl, hown, hbr⟩ := hrel
    by_cases hlt : k < m
    · obtain ⟨g, cap, rest, hv, hg, hw, hnc, hc, _, hm2⟩ := own_whole_g spnK hown (by omega)
      injection hv with hA _ hcc
      subst hA hcc
      obtain ⟨x, hx⟩ : ∃ x, R[k]? = some x := ⟨_, List.getElem?_eq_getElem (by rw [HM.out]; exact hlt)⟩
      have hlk : ((R.take k).map (clip1S a b)).length = k := by rw [List.length_map, List.length_take, HM.out]; omega
      have hxk : ((R.take k).map (clip1S a b) ++ R.drop k)[k]? = some x := by
        rw [List.getElem?_append_right (by omega), hlk, Nat.sub_self, PutG.drop_cons? hx]; rfl
      have c0 : wr.cell? ⟨g, k * 2, none⟩ = some (.int .i64 x.frm) := whole_at spnK hw hxk 0 (by omega)
      have c1 : wr.cell? ⟨g, k * 2 + 1, none⟩ = some (.int .i64 x.til) := whole_at spnK hw hxk 1 (by omega)
      have k0 : (0 : Int) ≤ (k : Int) := by omega
      have k1 : (k : Int) < (m : Int) := by omega
      have HX := hidden hx
      have HXK := hidden hxk
      have HLK := hidden hlk
      have hbs := hbr.size
      have hgl := hw.lt
      have hW2 := hw.alloc (.cells #[.int .i64 x.frm, .int .i64 x.til] 51)
      have z0 := hW2.free (k * 2)
      have z1 := hW2.free (k * 2 + 1)
      have hb2 := hbr.alloc hbs (.cells #[.int .i64 x.frm, .int .i64 x.til] 51)
      have HW2 := hidden hW2
      clear hx hxk hlk hown hw hW2
      go_upto_region 5 with (fail)
      have hY := Whole1.new wr 51 #[.int .i64 x.frm, .int .i64 x.til]
      have HW3 := HW2.out
      generalize wr.alloc (.cells #[.int .i64 x.frm, .int .i64 x.til] 51) = w2 at hY HW3 hb2 z0 z1 ⊢
      obtain ⟨X, hX⟩ : ∃ X, wr.heap.size = X := ⟨_, rfl⟩
      rw [hX] at hY hgl ⊢
      have y0 := hY.cell 0
      have y1 := hY.cell 1
      have e0 : w2.cell? ⟨g, k * 2, none⟩ = some (.int .i64 x.frm) := whole_at spnK HW3 HXK.out 0 (by omega)
      have e1 : w2.cell? ⟨g, k * 2 + 1, none⟩ = some (.int .i64 x.til) := whole_at spnK HW3 HXK.out 1 (by omega)
      have HB2 := hidden hb2
      have HW4 := hidden HW3
      clear hY hX c0 c1 HW3 hb2
      go_wp2_with fail
      go_roundw
      case rel =>
        have hW5 := puts_elem spnK HW4.out (i := k) (by rw [List.length_append, HLK.out, List.length_drop, HM.out]; omega) (clip1S a b x)
        rw [set_step _ HX.out] at hW5
        have e5 : (clip1S a b x).cells = [.int .i64 (max x.frm a), .int .i64 (min x.til b)] := by rw [clip1_max]; rfl
        rw [e5] at hW5
        refine ⟨k + 1, by omega, by go_num, own_of_whole_g spnK hg hW5 hnc hc (by rw [List.length_append, List.length_map, List.length_take, List.length_drop, HM.out]; omega) ?_, below_gb HB2.out (puts_gb [.int .i64 (max x.frm a), .int .i64 (min x.til b)] (k * 2) w2) HB2.out.size hg⟩
        rw [List.length_append, fm_len spnK] at hm2 ⊢
        have : ((R.take (k + 1)).map (clip1S a b) ++ R.drop (k + 1)).length = ((R.take k).map (clip1S a b) ++ R.drop k).length := by
          rw [List.length_append, List.length_append, List.length_map, List.length_map, List.length_take, List.length_take, List.length_drop, List.length_drop, HM.out]; omega
        rw [this]; exact hm2
      case measure => simp [intOf]; omega
    · obtain rfl : m = k := by omega
      have hE : (R.take m).map (clip1S a b) ++ R.drop m = R.map (clip1S a b) := by
        rw [List.take_of_length_le (by rw [HM.out]; exact Nat.le_refl _), List.drop_eq_nil_of_le (by rw [HM.out]; exact Nat.le_refl _), List.append_nil]
      rw [hE] at hown
      have S2 := hidden (spnOf_any A2 m c2 (R.map (clip1S a b)) wr (Row.of_own hown) (by rw [List.length_map]; exact HM.out) (by omega) (fun x hx => by
        obtain ⟨y, hy, rfl⟩ := List.mem_map.1 hx
        obtain ⟨y1, y2, y3, y4⟩ := HR.out.ok HOK.out y hy
        rw [clip1_max]
        exact ⟨by show _ ≤ max y.frm a; omega, by show max y.frm a < _; omega, by show _ ≤ min y.til b; omega, by show min y.til b < _; omega⟩))
      have HBR := hidden hbr
      clear hown hE hbr
      go_wp2_with fail
      refine S2.out.mono ?_
      rintro e w3 ⟨v3, R3, rfl, ho3, hR3, hl3, hb3⟩
      have he := clipS_of HR.out.one hR3
      subst he
      have HO3 := hidden ho3
      have HB3 := hidden hb3
      clear ho3 hb3 hR3 S2
      go_wp2_with fail
      go_ret
      exact ⟨_, R, rfl, own_more HO3.out HBR.out.size, HR.out, by omega, HBR.out.trans (HB3.out.mono HBR.out.size)⟩
theorem own_setX {w : World} {base n X : Nat} {T : TypeId} {v : Value} {xs : List Value} (h : w.ownsRow base T 2 v n xs) (hX : some X ≠ v.ownBlock) (i : Nat) (u : Value) : (w.setCell ⟨X, i, none⟩ u).ownsRow base T 2 v n xs :=
  h.kept (gb_put (gb_refl w (some X)) i u) (.inr fun h2 => hX h2.symm)
theorem clipS_snoc (a b : Int) (l : List Spn) (x : Spn) : clipS a b (l ++ [x]) = if (clip1S a b x).til < (clip1S a b x).frm then clipS a b l else clipS a b l ++ [clip1S a b x] := by
  unfold clipS
  rw [List.map_append, List.map_singleton, fullS_snoc]
theorem clipS_le (a b : Int) (l : List Spn) : (clipS a b l).length ≤ l.length := by
  unfold clipS fullS
  refine Nat.le_trans (List.length_filter_le _ _) ?_
  rw [List.length_map]; exact Nat.le_refl _
set_option maxHeartbeats 12800000 in
theorem rClipSpn_any (A : Option Addr) (n c : Nat) (l : List Spn) (a b : Int) (w : World) (hr : Row w w.heap.size 2 A n (l.flatMap Spn.cells)) (hl : l.length = n) (hn : n * 16 ≤ 140737488351232) (hok : ∀ x ∈ l, x.ok) :
    Calls Try.prog 31 #[.slice A n c, .int .i64 a, .int .i64 b] w fun e w' => ∃ v R, e = .returned v ∧ w'.ownsRow w.heap.size 102 2 v (clipS a b R).length ((clipS a b R).flatMap Spn.cells) ∧ OfRes l R ∧ (clipS a b R).length ≤ n ∧ Below w.heap.size w w' := by
  obtain ⟨i0, hi, hz0, hz1, hz2⟩ := info_parts TwnSpn.rinfo
  have HOF := hidden (rOf_any A n c l w hr hl hn hok)
  clear hr hl hok
  go_enter Try.func31, Try.ntmps31
  go_wp2_with fail
  refine HOF.out.mono ?_
  rintro e w1 ⟨v, R, rfl, ho, hR, hlen, hb1⟩
  obtain ⟨m, hm⟩ : ∃ m, R.length = m := ⟨_, rfl⟩
  rw [hm] at ho hlen
  obtain ⟨A2, c2, rfl, hc2, hr2⟩ := own_shape ho
  have HR := hidden hR
  have HR2 := hidden hr2
  have HM := hidden hm
  have B1 := hidden hb1
  clear hR hm HOF ho hr2 hb1
  go_wp2_with fail
  go_loopw [8, 9] (fun v i wr => ∃ (k : Nat) (Q : List Spn) (vq : Value), vq = v ∧ k ≤ m ∧ i = .int .i64 k ∧ wr.ownsRow w1.heap.size 102 2 vq Q.length (Q.flatMap Spn.cells) ∧ Hid (Q = clipS a b (R.take k)) ∧ Q.length ≤ k ∧ Below w1.heap.size w1 wr) (fun _ i _ => m - (intOf i).toNat)
  case atStart => exact ⟨0, [], _, rfl, Nat.zero_le _, rfl, World.ownsRow_nil _ _ _ _, rfl, Nat.le_refl _, Below.refl _ _⟩
  case round =>
    obtain ⟨k, Q, vq, rfl, hk, rfl, hown, hq, hQk, hb⟩ := hrel
    by_cases hlt : k < m
    · obtain ⟨gs, o, x, rfl, _, hx, hcl⟩ := row_at spnK (HR2.out.below hb) HM.out k hlt
      have c0 : wr.cell? ⟨gs, o + k * 2, none⟩ = some (.int .i64 x.frm) := hcl 0 (by omega)
      have c1 : wr.cell? ⟨gs, o + k * 2 + 1, none⟩ = some (.int .i64 x.til) := hcl 1 (by omega)
      have hT : Hid (clipS a b (R.take (k + 1)) = if (clip1S a b x).til < (clip1S a b x).frm then Q else Q ++ [clip1S a b x]) := by rw [Hid, take_snoc? hx, clipS_snoc, ← hq.out]
      have k0 : (0 : Int) ≤ (k : Int) := by omega
      have k1 : (k : Int) < (m : Int) := by omega
      have hbs := hb.size
      clear hx hcl
      obtain ⟨y, hy⟩ : ∃ y, clip1S a b x = y := ⟨_, rfl⟩
      have hy0 : (if x.frm < a then a else x.frm) = y.frm := congrArg Spn.frm hy
      have hy1 : (if b < x.til then b else x.til) = y.til := congrArg Spn.til hy
      rw [hy] at hT
      have HY0 := hidden hy0
      have HY1 := hidden hy1
      clear hy hy0 hy1
      go_upto_region 7 with (fail)
      have hX := Whole1.new wr 102 #[.int .i64 x.frm, .int .i64 x.til]
      have hownA := hown.alloc (.cells #[.int .i64 x.frm, .int .i64 x.til] 102)
      have hbA := hb.alloc hbs (.cells #[.int .i64 x.frm, .int .i64 x.til] 102)
      have hsz : wr.heap.size < (wr.alloc (.cells #[.int .i64 x.frm, .int .i64 x.til] 102)).heap.size := by simp
      have hno : some wr.heap.size ≠ vq.ownBlock := fun h => by have := (hown.lt _ h.symm).2; omega
      generalize wr.alloc (.cells #[.int .i64 x.frm, .int .i64 x.til] 102) = wa at hX hownA hbA hsz ⊢
      obtain ⟨X, hXe⟩ : ∃ X, wr.heap.size = X := ⟨_, rfl⟩
      have hXb : w1.heap.size ≤ X := by omega
      rw [hXe] at hX hsz hno ⊢
      have HX := hidden hX
      have HN := hidden hno
      clear hX hXe hown hb hbs c0 c1 hno
      by_cases h1 : x.frm < a
      · by_cases h2 : b < x.til
        · have e0 := HX.out.cell 0
          have e1 := HX.out.cell 1
          have f0 := HX.out.free 0
          have f1 := HX.out.free 1
          have hf : y.frm = a := by rw [← HY0.out]; exact if_pos h1
          have ht : y.til = b := by rw [← HY1.out]; exact if_pos h2
          have hWX : Whole1 ((wa.setCell ⟨X, 0, none⟩ (.int .i64 a)).setCell ⟨X, 1, none⟩ (.int .i64 b)) X 102 #[.int .i64 y.frm, .int .i64 y.til] := by rw [hf, ht]; exact ((HX.out.put 0 (.int .i64 a)).put 1 (.int .i64 b))
          have hWO : World.ownsRow ((wa.setCell ⟨X, 0, none⟩ (.int .i64 a)).setCell ⟨X, 1, none⟩ (.int .i64 b)) w1.heap.size 102 2 vq Q.length (Q.flatMap Spn.cells) := (own_setX (own_setX hownA HN.out 0 (.int .i64 a)) HN.out 1 (.int .i64 b))
          have hWB : Below w1.heap.size w1 ((wa.setCell ⟨X, 0, none⟩ (.int .i64 a)).setCell ⟨X, 1, none⟩ (.int .i64 b)) := ((hbA.setCell (p := ⟨X, 0, none⟩) hXb (.int .i64 a)).setCell (p := ⟨X, 1, none⟩) hXb (.int .i64 b))
          have HWX := hidden hWX
          have HWO := hidden hWO
          have HWB := hidden hWB
          clear hf ht hWX hWO hWB hownA hbA
          go_upto_region 11 with (fail)
          have hWX := HWX.out
          have hWO := HWO.out
          have hWB := HWB.out
          generalize ((wa.setCell ⟨X, 0, none⟩ (.int .i64 a)).setCell ⟨X, 1, none⟩ (.int .i64 b)) = wb at hWX hWO hWB ⊢
          clear e0 e1 f0 f1 HWX HWO HWB
          have e0 := hWX.cell 0
          have e1 := hWX.cell 1
          have hbs := hWB.size
          by_cases h3 : y.til < y.frm
          · have g3 : decide (y.frm ≤ y.til) = false := decide_eq_false (by omega)
            go_wp2_with fail
            go_roundw
            case rel => exact ⟨k + 1, Q, _, rfl, by omega, by go_num, hWO, hidden (hT.out.trans (if_pos h3)).symm, by omega, hWB⟩
            case measure => simp [intOf]; omega
          · have g3 : y.frm ≤ y.til := by omega
            have hfr := Row.fresh wb 102 2 1 [.int .i64 y.frm, .int .i64 y.til] rfl
            have HT := hidden (hT.out.trans (if_neg h3))
            go_wp2_with (at_builtin; refine wpList_app _ rfl _ _ 34 rfl w1.heap.size 102 i0 _ 2 16 Try.underlying34 hi hz0 hz1 hz2 rfl (by decide) _ _ _ rfl (hWO.alloc _) _ _ _ _ _ rfl hfr (by simp [Value.oneCell']) (by unfold maxLen; omega) (by omega) (by simp; omega) ?_; intro v9 w9 hown9 hg9 hat9)
            go_roundw
            case rel => exact ⟨k + 1, Q ++ [y], v9, rfl, by omega, by go_num, (by rw [List.flatMap_append, List.length_append]; exact hown9), HT.out.symm, by simp; omega, (hWB.alloc hbs _).grown hg9 (by simp; omega) (fun q hq => (hWO.lt q hq).1)⟩
            case measure => simp [intOf]; omega
        · have e0 := HX.out.cell 0
          have e1 := HX.out.cell 1
          have f0 := HX.out.free 0
          have f1 := HX.out.free 1
          have hf : y.frm = a := by rw [← HY0.out]; exact if_pos h1
          have ht : y.til = x.til := by rw [← HY1.out]; exact if_neg h2
          have hWX : Whole1 (wa.setCell ⟨X, 0, none⟩ (.int .i64 a)) X 102 #[.int .i64 y.frm, .int .i64 y.til] := by rw [hf, ht]; exact (HX.out.put 0 (.int .i64 a))
          have hWO : World.ownsRow (wa.setCell ⟨X, 0, none⟩ (.int .i64 a)) w1.heap.size 102 2 vq Q.length (Q.flatMap Spn.cells) := (own_setX hownA HN.out 0 (.int .i64 a))
          have hWB : Below w1.heap.size w1 (wa.setCell ⟨X, 0, none⟩ (.int .i64 a)) := (hbA.setCell (p := ⟨X, 0, none⟩) hXb (.int .i64 a))
          have g2 : decide (b < x.til) = false := decide_eq_false h2
          have HWX := hidden hWX
          have HWO := hidden hWO
          have HWB := hidden hWB
          clear hf ht hWX hWO hWB hownA hbA
          go_upto_region 11 with (fail)
          have hWX := HWX.out
          have hWO := HWO.out
          have hWB := HWB.out
          generalize (wa.setCell ⟨X, 0, none⟩ (.int .i64 a)) = wb at hWX hWO hWB ⊢
          clear e0 e1 f0 f1 HWX HWO HWB
          have e0 := hWX.cell 0
          have e1 := hWX.cell 1
          have hbs := hWB.size
          by_cases h3 : y.til < y.frm
          · have g3 : decide (y.frm ≤ y.til) = false := decide_eq_false (by omega)
            go_wp2_with fail
            go_roundw
            case rel => exact ⟨k + 1, Q, _, rfl, by omega, by go_num, hWO, hidden (hT.out.trans (if_pos h3)).symm, by omega, hWB⟩
            case measure => simp [intOf]; omega
          · have g3 : y.frm ≤ y.til := by omega
            have hfr := Row.fresh wb 102 2 1 [.int .i64 y.frm, .int .i64 y.til] rfl
            have HT := hidden (hT.out.trans (if_neg h3))
            go_wp2_with (at_builtin; refine wpList_app _ rfl _ _ 34 rfl w1.heap.size 102 i0 _ 2 16 Try.underlying34 hi hz0 hz1 hz2 rfl (by decide) _ _ _ rfl (hWO.alloc _) _ _ _ _ _ rfl hfr (by simp [Value.oneCell']) (by unfold maxLen; omega) (by omega) (by simp; omega) ?_; intro v9 w9 hown9 hg9 hat9)
            go_roundw
            case rel => exact ⟨k + 1, Q ++ [y], v9, rfl, by omega, by go_num, (by rw [List.flatMap_append, List.length_append]; exact hown9), HT.out.symm, by simp; omega, (hWB.alloc hbs _).grown hg9 (by simp; omega) (fun q hq => (hWO.lt q hq).1)⟩
            case measure => simp [intOf]; omega
      · by_cases h2 : b < x.til
        · have e0 := HX.out.cell 0
          have e1 := HX.out.cell 1
          have f0 := HX.out.free 0
          have f1 := HX.out.free 1
          have hf : y.frm = x.frm := by rw [← HY0.out]; exact if_neg h1
          have ht : y.til = b := by rw [← HY1.out]; exact if_pos h2
          have hWX : Whole1 (wa.setCell ⟨X, 1, none⟩ (.int .i64 b)) X 102 #[.int .i64 y.frm, .int .i64 y.til] := by rw [hf, ht]; exact (HX.out.put 1 (.int .i64 b))
          have hWO : World.ownsRow (wa.setCell ⟨X, 1, none⟩ (.int .i64 b)) w1.heap.size 102 2 vq Q.length (Q.flatMap Spn.cells) := (own_setX hownA HN.out 1 (.int .i64 b))
          have hWB : Below w1.heap.size w1 (wa.setCell ⟨X, 1, none⟩ (.int .i64 b)) := (hbA.setCell (p := ⟨X, 1, none⟩) hXb (.int .i64 b))
          have g1 : decide (x.frm < a) = false := decide_eq_false h1
          have HWX := hidden hWX
          have HWO := hidden hWO
          have HWB := hidden hWB
          clear hf ht hWX hWO hWB hownA hbA
          go_upto_region 11 with (fail)
          have hWX := HWX.out
          have hWO := HWO.out
          have hWB := HWB.out
          generalize (wa.setCell ⟨X, 1, none⟩ (.int .i64 b)) = wb at hWX hWO hWB ⊢
          clear e0 e1 f0 f1 HWX HWO HWB
          have e0 := hWX.cell 0
          have e1 := hWX.cell 1
          have hbs := hWB.size
          by_cases h3 : y.til < y.frm
          · have g3 : decide (y.frm ≤ y.til) = false := decide_eq_false (by omega)
            go_wp2_with fail
            go_roundw
            case rel => exact ⟨k + 1, Q, _, rfl, by omega, by go_num, hWO, hidden (hT.out.trans (if_pos h3)).symm, by omega, hWB⟩
            case measure => simp [intOf]; omega
          · have g3 : y.frm ≤ y.til := by omega
            have hfr := Row.fresh wb 102 2 1 [.int .i64 y.frm, .int .i64 y.til] rfl
            have HT := hidden (hT.out.trans (if_neg h3))
            go_wp2_with (at_builtin; refine wpList_app _ rfl _ _ 34 rfl w1.heap.size 102 i0 _ 2 16 Try.underlying34 hi hz0 hz1 hz2 rfl (by decide) _ _ _ rfl (hWO.alloc _) _ _ _ _ _ rfl hfr (by simp [Value.oneCell']) (by unfold maxLen; omega) (by omega) (by simp; omega) ?_; intro v9 w9 hown9 hg9 hat9)
            go_roundw
            case rel => exact ⟨k + 1, Q ++ [y], v9, rfl, by omega, by go_num, (by rw [List.flatMap_append, List.length_append]; exact hown9), HT.out.symm, by simp; omega, (hWB.alloc hbs _).grown hg9 (by simp; omega) (fun q hq => (hWO.lt q hq).1)⟩
            case measure => simp [intOf]; omega
        · have e0 := HX.out.cell 0
          have e1 := HX.out.cell 1
          have f0 := HX.out.free 0
          have f1 := HX.out.free 1
          have hf : y.frm = x.frm := by rw [← HY0.out]; exact if_neg h1
          have ht : y.til = x.til := by rw [← HY1.out]; exact if_neg h2
          have hWX : Whole1 wa X 102 #[.int .i64 y.frm, .int .i64 y.til] := by rw [hf, ht]; exact HX.out
          have hWO : World.ownsRow wa w1.heap.size 102 2 vq Q.length (Q.flatMap Spn.cells) := hownA
          have hWB : Below w1.heap.size w1 wa := hbA
          have g1 : decide (x.frm < a) = false := decide_eq_false h1
          have g2 : decide (b < x.til) = false := decide_eq_false h2
          have HWX := hidden hWX
          have HWO := hidden hWO
          have HWB := hidden hWB
          clear hf ht hWX hWO hWB hownA hbA
          go_upto_region 11 with (fail)
          have hWX := HWX.out
          have hWO := HWO.out
          have hWB := HWB.out
          generalize wa = wb at hWX hWO hWB ⊢
          clear e0 e1 f0 f1 HWX HWO HWB
          have e0 := hWX.cell 0
          have e1 := hWX.cell 1
          have hbs := hWB.size
          by_cases h3 : y.til < y.frm
          · have g3 : decide (y.frm ≤ y.til) = false := decide_eq_false (by omega)
            go_wp2_with fail
            go_roundw
            case rel => exact ⟨k + 1, Q, _, rfl, by omega, by go_num, hWO, hidden (hT.out.trans (if_pos h3)).symm, by omega, hWB⟩
            case measure => simp [intOf]; omega
          · have g3 : y.frm ≤ y.til := by omega
            have hfr := Row.fresh wb 102 2 1 [.int .i64 y.frm, .int .i64 y.til] rfl
            have HT := hidden (hT.out.trans (if_neg h3))
            go_wp2_with (at_builtin; refine wpList_app _ rfl _ _ 34 rfl w1.heap.size 102 i0 _ 2 16 Try.underlying34 hi hz0 hz1 hz2 rfl (by decide) _ _ _ rfl (hWO.alloc _) _ _ _ _ _ rfl hfr (by simp [Value.oneCell']) (by unfold maxLen; omega) (by omega) (by simp; omega) ?_; intro v9 w9 hown9 hg9 hat9)
            go_roundw
            case rel => exact ⟨k + 1, Q ++ [y], v9, rfl, by omega, by go_num, (by rw [List.flatMap_append, List.length_append]; exact hown9), HT.out.symm, by simp; omega, (hWB.alloc hbs _).grown hg9 (by simp; omega) (fun q hq => (hWO.lt q hq).1)⟩
            case measure => simp [intOf]; omega
    · obtain rfl : m = k := by omega
      have hE := hidden (show clipS a b R = Q by rw [hq.out, List.take_of_length_le (by rw [HM.out]; exact Nat.le_refl _)])
      go_wp2_with fail
      go_ret
      exact ⟨_, R, rfl, by rw [hE.out]; exact own_more hown B1.out.size, HR.out, by rw [hE.out]; omega, B1.out.trans (hb.mono B1.out.size)⟩
end Go.Proofs.Ytjklonfheenfbaa
