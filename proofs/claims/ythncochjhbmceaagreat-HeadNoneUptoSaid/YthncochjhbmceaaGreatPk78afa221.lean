/- spans.Clip and the reference's Clip. Condition: the row is within the reach. The reference's Encode, walked: the bytes of a set. Condition: the row is within the reach. The law's helpers labelsRef and samplesRef (chapter 18): what they return. Condition: the rows are within the reach. sort.Search over a predicate that is everywhere alike. Condition: the predicate has a contract, the length is within the reach. -/
import Derived.Test.YthncochjhbmceaaGreatPk28970e01
import Derived.Test.YthncochjhbmceaaGreatPk5edf48dd
import Derived.Test.YthncochjhbmceaaGreatPk8f29ada1
import Derived.Test.YthncochjhbmceaaGreatPkb5fb2d9c
import Derived.IntWalk
namespace Go.Proofs.YthncochjhbmceaaGreat
set_option maxRecDepth 100000
open Go.RowKit Go.Shelf

theorem clip1_max (a b : Int) (x : Spn) : clip1S a b x = ⟨max x.frm a, min x.til b⟩ := by
  unfold clip1S
  congr 1
  · split <;> omega
  · split <;> omega
theorem set_step {R : List Spn} {k : Nat} {x : Spn} (f : Spn → Spn) (h : R[k]? = some x) : ((R.take k).map f ++ R.drop k).set k (f x) = (R.take (k + 1)).map f ++ R.drop (k + 1) := by
  have hk := (List.getElem?_eq_some_iff.1 h).1
  have hl : ((R.take k).map f).length = k := by simp; omega
  rw [take_snoc? h, PutG.drop_cons? h, List.set_append_right _ _ (by omega), hl, Nat.sub_self]
  simp
set_option maxHeartbeats 6400000 in
theorem clipSpn_any (A : Option Addr) (n c : Nat) (l : List Spn) (a b : Int) (w : World) (hr : Row w w.heap.size 2 A n (l.flatMap Spn.cells)) (hl : l.length = n) (hn : n * 16 ≤ 140737488351232) (hok : ∀ x ∈ l, x.ok) (ha : -9223372036854775808 ≤ a ∧ a < 9223372036854775808) (hb : -9223372036854775808 ≤ b ∧ b < 9223372036854775808) :
    Calls Tryz.prog 43 #[.slice A n c, .int .i64 a, .int .i64 b] w fun e w' => ∃ v R, e = .returned v ∧ w'.ownsRow w.heap.size 33 2 v (clipS a b R).length ((clipS a b R).flatMap Spn.cells) ∧ OfRes l R ∧ (clipS a b R).length ≤ n ∧ Below w.heap.size w w' := by
  have HOF := hidden (spnOf_any A n c l w hr hl hn hok)
  have HOK := hidden hok
  clear hr hl hok
  go_enter Tryz.func43, Tryz.ntmps43
  go_wp2_with fail
  refine HOF.out.mono ?_
  rintro e w1 ⟨v, R, rfl, ho, hR, hlen, hb1⟩
  obtain ⟨m, hm⟩ : ∃ m, R.length = m := ⟨_, rfl⟩
  rw [hm] at ho hlen
  obtain ⟨A2, c2, rfl, hc2, _⟩ := own_shape ho
  have HR := hidden hR
  have HM := hidden hm
  have B1 := hidden hb1
  clear hR hm HOF
  go_wp2_with fail
  go_loopw [14] (fun i wr => ∃ k : Nat, k ≤ m ∧ i = .int .i64 k ∧ wr.ownsRow w.heap.size 33 2 (.slice A2 m c2) m (((R.take k).map (clip1S a b) ++ R.drop k).flatMap Spn.cells) ∧ Below w.heap.size w wr) (fun i _ => m - (intOf i).toNat)
  case atStart => exact ⟨0, Nat.zero_le _, rfl, ho, hb1⟩
  case round =>
    obtain ⟨k, hk, rfl, hown, hbr⟩ := hrel
    by_cases hlt : k < m
    · obtain ⟨g, cap, rest, hv, hg, hw, hnc, hc, _, hm2⟩ := own_whole_g spnK hown (by omega)
      injection hv with hA _ hcc
      subst hA hcc
      obtain ⟨x, hx⟩ : ∃ x, R[k]? = some x := ⟨_, List.getElem?_eq_getElem (by rw [HM.out]; exact hlt)⟩
      have hlk : ((R.take k).map (clip1S a b)).length = k := by rw [List.length_map, List.length_take, HM.out]; omega
      have hxk : ((R.take k).map (clip1S a b) ++ R.drop k)[k]? = some x := by
        rw [List.getElem?_append_right (by omega), hlk, Nat.sub_self, PutG.drop_cons? hx]; rfl
      have c0 : wr.cell? ⟨g, k * 2, none⟩ = some (.int .i64 x.frm) := whole_at spnK hw hxk 0 (by omega)
      have c1 : wr.cell? ⟨g, k * 2 + 1, none⟩ = some (.int .i64 x.til) := whole_at spnK hw hxk 1 (by omega)
      have k0 : (0 : Int) ≤ (k : Int) := by omega
      have k1 : (k : Int) < (m : Int) := by omega
      have HX := hidden hx
      have HXK := hidden hxk
      have HLK := hidden hlk
      have hbs := hbr.size
      have hgl := hw.lt
      have hW2 := hw.alloc (.cells #[.int .i64 x.frm, .int .i64 x.til] 33)
      have z0 := hW2.free (k * 2)
      have z1 := hW2.free (k * 2 + 1)
      have hb2 := hbr.alloc hbs (.cells #[.int .i64 x.frm, .int .i64 x.til] 33)
      have HW2 := hidden hW2
      clear hx hxk hlk hown hw hW2
      go_upto_region 5 with (fail)
      have hY := Whole1.new wr 33 #[.int .i64 x.frm, .int .i64 x.til]
      have HW3 := HW2.out
      generalize wr.alloc (.cells #[.int .i64 x.frm, .int .i64 x.til] 33) = w2 at hY HW3 hb2 z0 z1 ⊢
      obtain ⟨X, hX⟩ : ∃ X, wr.heap.size = X := ⟨_, rfl⟩
      rw [hX] at hY hgl ⊢
      have y0 := hY.cell 0
      have y1 := hY.cell 1
      have e0 : w2.cell? ⟨g, k * 2, none⟩ = some (.int .i64 x.frm) := whole_at spnK HW3 HXK.out 0 (by omega)
      have e1 : w2.cell? ⟨g, k * 2 + 1, none⟩ = some (.int .i64 x.til) := whole_at spnK HW3 HXK.out 1 (by omega)
      have HB2 := hidden hb2
      have HW4 := hidden HW3
      clear hY hX c0 c1 HW3 hb2
      go_wp2_with fail
      go_roundw
      case rel =>
        have hW5 := puts_elem spnK HW4.out (i := k) (by rw [List.length_append, HLK.out, List.length_drop, HM.out]; omega) (clip1S a b x)
        rw [set_step _ HX.out] at hW5
        have e5 : (clip1S a b x).cells = [.int .i64 (max x.frm a), .int .i64 (min x.til b)] := by rw [clip1_max]; rfl
        rw [e5] at hW5
        refine ⟨k + 1, by omega, by go_num, own_of_whole_g spnK hg hW5 hnc hc (by rw [List.length_append, List.length_map, List.length_take, List.length_drop, HM.out]; omega) ?_, below_gb HB2.out (puts_gb [.int .i64 (max x.frm a), .int .i64 (min x.til b)] (k * 2) w2) HB2.out.size hg⟩
        rw [List.length_append, fm_len spnK] at hm2 ⊢
        have : ((R.take (k + 1)).map (clip1S a b) ++ R.drop (k + 1)).length = ((R.take k).map (clip1S a b) ++ R.drop k).length := by
          rw [List.length_append, List.length_append, List.length_map, List.length_map, List.length_take, List.length_take, List.length_drop, List.length_drop, HM.out]; omega
        rw [this]; exact hm2
      case measure => simp [intOf]; omega
    · obtain rfl : m = k := by omega
      have hE : (R.take m).map (clip1S a b) ++ R.drop m = R.map (clip1S a b) := by
        rw [List.take_of_length_le (by rw [HM.out]; exact Nat.le_refl _), List.drop_eq_nil_of_le (by rw [HM.out]; exact Nat.le_refl _), List.append_nil]
      rw [hE] at hown
      have S2 := hidden (spnOf_any A2 m c2 (R.map (clip1S a b)) wr (Row.of_own hown) (by rw [List.length_map]; exact HM.out) (by omega) (fun x hx => by
        obtain ⟨y, hy, rfl⟩ := List.mem_map.1 hx
        obtain ⟨y1, y2, y3, y4⟩ := HR.out.ok HOK.out y hy
        rw [clip1_max]
        exact ⟨by show _ ≤ max y.frm a; omega, by show max y.frm a < _; omega, by show _ ≤ min y.til b; omega, by show min y.til b < _; omega⟩))
      have HBR := hidden hbr
      clear hown hE hbr
      go_wp2_with fail
      refine S2.out.mono ?_
      rintro e w3 ⟨v3, R3, rfl, ho3, hR3, hl3, hb3⟩
      have he := clipS_of HR.out.one hR3
      subst he
      have HO3 := hidden ho3
      have HB3 := hidden hb3
      clear ho3 hb3 hR3 S2
      go_wp2_with fail
      go_ret
      exact ⟨_, R, rfl, own_more HO3.out HBR.out.size, HR.out, by omega, HBR.out.trans (HB3.out.mono HBR.out.size)⟩
theorem own_setX {w : World} {base n X : Nat} {T : TypeId} {v : Value} {xs : List Value} (h : w.ownsRow base T 2 v n xs) (hX : some X ≠ v.ownBlock) (i : Nat) (u : Value) : (w.setCell ⟨X, i, none⟩ u).ownsRow base T 2 v n xs :=
  h.kept (gb_put (gb_refl w (some X)) i u) (.inr fun h2 => hX h2.symm)
theorem clipS_snoc (a b : Int) (l : List Spn) (x : Spn) : clipS a b (l ++ [x]) = if (clip1S a b x).til < (clip1S a b x).frm then clipS a b l else clipS a b l ++ [clip1S a b x] := by
  unfold clipS
  rw [List.map_append, List.map_singleton, fullS_snoc]
theorem clipS_le (a b : Int) (l : List Spn) : (clipS a b l).length ≤ l.length := by
  unfold clipS fullS
  refine Nat.le_trans (List.length_filter_le _ _) ?_
  rw [List.length_map]; exact Nat.le_refl _
end Go.Proofs.YthncochjhbmceaaGreat

namespace Go.Proofs.YthncochjhbmceaaGreat
set_option maxRecDepth 100000
open Go.RowKit

theorem sizeB (l : List UInt8) : (⟨l.toArray⟩ : ByteArray).size = l.length := rfl

set_option maxHeartbeats 6400000 in
theorem renc_any (A : Option Addr) (n c : Nat) (l : List Lbl) (w : World) (h : LbF w A n l) :
    Calls Tryz.prog 75 #[.slice A n c] w fun e w' => e = .returned (.tuple #[.string (encLb l).1, .int .i64 (encLb l).2]) ∧ Below w.heap.size w w' := by
  have H := hidden h
  have S1 := hidden (makeRef A n c l w h)
  have S2 := hidden (fun W hW => rvalid_any A n c l W (h.on hW))
  clear h
  by_cases he : makeErr l = 0
  · rw [he] at S1
    by_cases hv : validP l
    · have HU := hidden (encLb_ok hv)
      obtain ⟨hl8, hlx⟩ := valid_small hv
      have hn8 : n ≤ 8 := by have := H.out.len; omega
      have HLX := hidden hlx
      rw [decide_eq_true hv] at S2
      have hu : IntKind.u64.wrap (n : Int) = (n : Int) := Go.IntWalk.u64_in _ (by omega)
      have hut := uintL_ten (v := n) (by omega)
      clear hv he hlx hl8
      go_enter Tryz.func75, Tryz.ntmps75
      go_wp2_with fail
      refine S1.out.mono ?_
      rintro e w1 ⟨B1, c1, rfl, _, b1⟩
      have B1 := hidden b1
      have S3 := hidden (S2.out w1 b1)
      clear b1 S1 S2
      go_wp2_with fail
      refine S3.out.mono ?_
      rintro e w2 ⟨rfl, b2⟩
      have HB2 := hidden (B1.out.trans (b2.mono B1.out.size))
      clear b2 S3 B1
      go_wp2_with fail
      refine (uintR_any n w2 (by omega)).mono ?_
      rintro e w3 ⟨rfl, b3⟩
      have HB3 := hidden (HB2.out.trans (b3.mono HB2.out.size))
      clear b3 HB2
      go_wp2_with fail
      go_loopw [7, 8] (fun vs vi wr => ∃ (k : Nat) (s : ByteArray), k ≤ n ∧ vi = .int .i64 k ∧ vs = .string s ∧ Hid (s = ⟨(uintL n ++ encB (l.take k)).toArray⟩) ∧ Hid (Below w.heap.size w wr)) (fun _ vi _ => n - (intOf vi).toNat)
      case atStart => exact ⟨0, _, Nat.zero_le _, rfl, rfl, hidden (bytes_eq (by simp [encB])), HB3⟩
      case round =>
        obtain ⟨k, s, hk, rfl, rfl, hs, hb⟩ := hrel
        have k0 : (0 : Int) ≤ (k : Int) := by omega
        by_cases hlt : k < n
        · have k1 : (k : Int) < (n : Int) := by omega
          obtain ⟨g, o, x, rfl, hg, hx, c0, c1, hxm⟩ := lb_cells (H.out.on hb.out) hlt
          obtain ⟨hx1, hx2⟩ := HLX.out x hxm
          have hel : (encB (l.take k)).length ≤ 116 * 8 := by
            have h1 := encB_len (l := l.take k) fun y hy => HLX.out y (List.mem_of_mem_take hy)
            have h2 : (l.take k).length ≤ 8 := by rw [List.length_take]; omega
            omega
          have hss : s.size ≤ 10 + 116 * 8 := by rw [hs.out, sizeB, List.length_append]; omega
          have t1 := textL_len hx1 (by omega)
          have t2 := textL_len hx2 (by omega)
          obtain ⟨T1, hT1⟩ : ∃ T, (⟨(textL x.name).toArray⟩ : ByteArray) = T := ⟨_, rfl⟩
          obtain ⟨T2, hT2⟩ : ∃ T, (⟨(textL x.value).toArray⟩ : ByteArray) = T := ⟨_, rfl⟩
          have z1 : T1.size ≤ 42 := by rw [← hT1, sizeB]; omega
          have z2 : T2.size ≤ 74 := by rw [← hT2, sizeB]; omega
          have S4 := hidden (fun W => textR_any x.name W (by omega))
          have S5 := hidden (fun W => textR_any x.value W (by omega))
          rw [hT1] at S4
          rw [hT2] at S5
          have hs2 : Hid (s ++ T1 ++ T2 = ⟨(uintL n ++ encB (l.take (k + 1))).toArray⟩) := by
            rw [Hid, hs.out, ← hT1, ← hT2, take_snoc? hx, encB_snoc]
            exact bytes_eq (by simp)
          have l1 : ¬ 9223372036854775807 < s.size + T1.size := by omega
          have l2 : ¬ 9223372036854775807 < s.size + T1.size + T2.size := by omega
          clear hx hxm hT1 hT2 t1 t2
          go_wp2_with fail
          refine (S4.out _).mono ?_
          rintro e w5 ⟨rfl, b5⟩
          have e1 : w5.cell? ⟨g, o + k * 2 + 1, none⟩ = some (.string x.value) := (b5.cell (p := ⟨g, o + k * 2 + 1, none⟩) hg).trans c1
          have HB5 := hidden (hb.out.trans (b5.mono hb.out.size))
          clear b5 c0 c1
          go_wp2_with fail
          refine (S5.out _).mono ?_
          rintro e w6 ⟨rfl, b6⟩
          have HB6 := hidden (HB5.out.trans (b6.mono HB5.out.size))
          clear b6 e1
          go_wp2_with fail
          go_roundw
          case rel => exact ⟨k + 1, _, by omega, by go_num, rfl, hs2, HB6⟩
          case measure => simp [intOf]; omega
        · have k2 : ¬ (k : Int) < (n : Int) := by omega
          have hkn : k = n := by omega
          go_wp2_with fail
          go_ret2
          rw [HU.out]
          have ht : l.take n = l := List.take_of_length_le (by have := H.out.len; omega)
          subst hkn
          have hln := H.out.len
          rw [hs.out]
          exact ⟨by rw [ht, hln]; rfl, hb.out⟩
    · have HU := hidden (encLb_bad he hv)
      rw [decide_eq_false hv] at S2
      clear hv he
      go_enter Tryz.func75, Tryz.ntmps75
      go_wp2_with fail
      refine S1.out.mono ?_
      rintro e w1 ⟨B1, c1, rfl, _, b1⟩
      have B1 := hidden b1
      have S3 := hidden (S2.out w1 b1)
      clear b1 S1 S2
      go_wp2_with fail
      refine S3.out.mono ?_
      rintro e w2 ⟨rfl, b2⟩
      have HB2 := hidden (B1.out.trans (b2.mono B1.out.size))
      clear b2 S3 B1
      go_wp2_with fail
      go_ret2
      rw [HU.out]
      exact ⟨rfl, HB2.out⟩
  · have HU := hidden (encLb_err he)
    have e0 : (((makeErr l : Nat) : Int) != 0) = true := by simpa using he
    clear he
    go_enter Tryz.func75, Tryz.ntmps75
    go_wp2_with fail
    refine S1.out.mono ?_
    rintro e w1 ⟨B1, c1, rfl, _, b1⟩
    go_wp2_with fail
    go_ret2
    rw [HU.out]
    exact ⟨rfl, b1⟩
end Go.Proofs.YthncochjhbmceaaGreat

namespace Go.Proofs.YthncochjhbmceaaGreat
set_option maxRecDepth 100000
open Go.RowKit

theorem info_rsmp18 : (Tryz.prog.info? 155).map (fun i => (i.zero, i.size, i.bytes)) = some (some (.agg #[.int .i64 0, .int .u64 0]), 2, 16) := by kernel_rfl
set_option maxHeartbeats 1600000 in
theorem labelsRef18_any (A : Option Addr) (n cap : Nat) (l : List Lbl) (w : World) (hr : Row w w.heap.size 2 A n (lblCells l)) (hl : l.length = n) (hn : n * 32 ≤ 140737488351232) :
    Calls Tryz.prog 24 #[.slice A n cap] w fun e w' => ∃ v, e = .returned v ∧ w'.ownsRow w.heap.size 167 2 v n (lblCells l) ∧ Below w.heap.size w w' := by
  obtain ⟨i0, hi, hz0, hz1, hz2⟩ := info_parts info_rlbl
  go_enter Tryz.func24, Tryz.ntmps24
  go_wp2
  go_loopw [3, 8] (fun v i wr => ∃ k : Nat, k ≤ n ∧ i = .int .i64 k ∧ wr.ownsRow w.heap.size 167 2 v k (lblCells (l.take k)) ∧ Below w.heap.size w wr) (fun _ i _ => n - (intOf i).toNat)
  case atStart => exact ⟨0, Nat.zero_le _, rfl, World.ownsRow_nil _ _ _ _, Below.refl _ _⟩
  case round =>
    obtain ⟨k, hk, rfl, hown, hb⟩ := hrel
    by_cases hlt : k < n
    · obtain ⟨gs, o, rfl, hgs, hc⟩ := hr.at_ (by omega)
      have hkl : k < l.length := by omega
      have hs := lblCells_at l k hkl
      have c0 : wr.cell? ⟨gs, o + k * 2, none⟩ = some (.string l[k].name) := ((hb.cell (p := ⟨gs, o + k * 2, none⟩) hgs).trans (hc (k * 2) (by omega))).trans hs.1
      have c1 : wr.cell? ⟨gs, o + k * 2 + 1, none⟩ = some (.string l[k].value) := ((hb.cell (p := ⟨gs, o + k * 2 + 1, none⟩) hgs).trans (hc (k * 2 + 1) (by omega))).trans hs.2
      have hT := hidden (take_succ_snoc l k hkl)
      have hbs := hb.size
      clear hs hc hr hl
      have hfr := Row.fresh (wr.alloc (Obj.cells #[Value.string l[k].name, Value.string l[k].value] 70)) 167 2 1 [Value.string l[k].name, Value.string l[k].value] rfl
      rw [World.size_alloc] at hfr
      go_wp2_with (at_builtin; refine wpList_app _ rfl _ _ 83 rfl w.heap.size 167 i0 _ 2 32 Tryz.underlying83 hi hz0 hz1 hz2 rfl (by decide) _ _ _ rfl ((hown.alloc _).alloc _) _ _ _ _ _ rfl hfr (by simp [Value.oneCell']) (by unfold maxLen; omega) (by omega) (by simp; omega) ?_; intro v1 w1 hown1 hg1 hat1)
      go_roundw
      case rel =>
        refine ⟨k + 1, by omega, by go_num, ?_, ?_⟩
        · rw [hT.out, lblCells_snoc]; exact hown1
        · exact ((hb.alloc hbs _).alloc (by simp; omega) _).grown hg1 (by simp; omega) (fun j hj => (hown.lt j hj).1)
      case measure => simp [intOf]; omega
    · obtain rfl : k = n := by omega
      have hL := hidden hl
      clear hl
      go_wp2
      go_ret
      exact ⟨_, rfl, by rw [List.take_of_length_le (by rw [hL.out]; exact Nat.le_refl _)] at hown; exact hown, hb⟩

set_option maxHeartbeats 1600000 in
theorem samplesRef18_any (A : Option Addr) (n cap : Nat) (l : List Smp) (w : World) (hr : Row w w.heap.size 2 A n (smpCells l)) (hl : l.length = n) (hn : n * 16 ≤ 140737488351232) :
    Calls Tryz.prog 25 #[.slice A n cap] w fun e w' => ∃ v, e = .returned v ∧ w'.ownsRow w.heap.size 155 2 v n (smpCells l) ∧ Below w.heap.size w w' := by
  obtain ⟨i0, hi, hz0, hz1, hz2⟩ := info_parts info_rsmp18
  go_enter Tryz.func25, Tryz.ntmps25
  go_wp2
  go_loopw [3, 8] (fun v i wr => ∃ k : Nat, k ≤ n ∧ i = .int .i64 k ∧ wr.ownsRow w.heap.size 155 2 v k (smpCells (l.take k)) ∧ Below w.heap.size w wr) (fun _ i _ => n - (intOf i).toNat)
  case atStart => exact ⟨0, Nat.zero_le _, rfl, World.ownsRow_nil _ _ _ _, Below.refl _ _⟩
  case round =>
    obtain ⟨k, hk, rfl, hown, hb⟩ := hrel
    by_cases hlt : k < n
    · obtain ⟨gs, o, rfl, hgs, hc⟩ := hr.at_ (by omega)
      have hkl : k < l.length := by omega
      have hs := smpCells_at l k hkl
      have c0 : wr.cell? ⟨gs, o + k * 2, none⟩ = some (.int .i64 l[k].t) := ((hb.cell (p := ⟨gs, o + k * 2, none⟩) hgs).trans (hc (k * 2) (by omega))).trans hs.1
      have c1 : wr.cell? ⟨gs, o + k * 2 + 1, none⟩ = some (.int .u64 (l[k].v : Nat)) := ((hb.cell (p := ⟨gs, o + k * 2 + 1, none⟩) hgs).trans (hc (k * 2 + 1) (by omega))).trans hs.2
      have hT := hidden (take_succ_snoc l k hkl)
      have hbs := hb.size
      clear hs hc hr hl
      have hfr := Row.fresh (wr.alloc (Obj.cells #[Value.int .i64 l[k].t, Value.int .u64 (l[k].v : Nat)] 68)) 155 2 1 [Value.int .i64 l[k].t, Value.int .u64 (l[k].v : Nat)] rfl
      rw [World.size_alloc] at hfr
      go_wp2_with (at_builtin; refine wpList_app _ rfl _ _ 85 rfl w.heap.size 155 i0 _ 2 16 Tryz.underlying85 hi hz0 hz1 hz2 rfl (by decide) _ _ _ rfl ((hown.alloc _).alloc _) _ _ _ _ _ rfl hfr (by simp [Value.oneCell']) (by unfold maxLen; omega) (by omega) (by simp; omega) ?_; intro v1 w1 hown1 hg1 hat1)
      go_roundw
      case rel =>
        refine ⟨k + 1, by omega, by go_num, ?_, ?_⟩
        · rw [hT.out, smpCells_snoc]; exact hown1
        · exact ((hb.alloc hbs _).alloc (by simp; omega) _).grown hg1 (by simp; omega) (fun j hj => (hown.lt j hj).1)
      case measure => simp [intOf]; omega
    · obtain rfl : k = n := by omega
      have hL := hidden hl
      clear hl
      go_wp2
      go_ret
      exact ⟨_, rfl, by rw [List.take_of_length_le (by rw [hL.out]; exact Nat.le_refl _)] at hown; exact hown, hb⟩

end Go.Proofs.YthncochjhbmceaaGreat

namespace Go.Proofs.YthncochjhbmceaaGreat
set_option maxRecDepth 100000
open Go.RowKit

set_option maxHeartbeats 3200000 in
theorem search_any (n : Nat) (f : FuncId) (cb : Array Value) (b : Bool) (w : World) (hn : n ≤ 1099511627776) (eg : ∀ args w, (callFunc f args).run Tryz.prog w = .ok (.enter f args) w)
    (hC : ∀ i : Nat, i < n → ∀ W, Below w.heap.size w W → Calls Tryz.prog f (#[.int .i64 i] ++ cb) W fun e w2 => e = .returned (.bool b) ∧ Below W.heap.size W w2) :
    Calls Tryz.prog 47 #[.int .i64 n, .func (.func f) #[] cb] w fun e w' => e = .returned (.int .i64 (if b then 0 else (n : Int))) ∧ Below w.heap.size w w' := by
  have HC := hidden hC
  clear hC
  go_enter Tryz.func47, Tryz.ntmps47
  go_wp2_with fail
  go_loopw [5, 6] (fun vi vj wr => ∃ i j : Nat, vi = .int .i64 i ∧ vj = .int .i64 j ∧ i ≤ j ∧ j ≤ n ∧ Hid (b = true → i = 0) ∧ Hid (b = false → j = n) ∧ Hid (Below w.heap.size w wr)) (fun vi vj _ => (intOf vj).toNat - (intOf vi).toNat)
  case atStart => exact ⟨0, n, rfl, rfl, Nat.zero_le _, Nat.le_refl _, hidden fun _ => rfl, hidden fun _ => rfl, hidden (Below.refl _ _)⟩
  case round =>
    obtain ⟨i, j, rfl, rfl, hij, hjn, h0, h1, hb⟩ := hrel
    by_cases hlt : i < j
    · have k1 : (i : Int) < (j : Int) := by omega
      have fw1 : IntKind.i64.wrap ((i : Int) + (j : Int)) = ((i + j : Nat) : Int) := by rw [Go.IntWalk.i64_in _ (by omega)]; simp
      have fw2 : IntKind.u64.wrap ((i + j : Nat) : Int) = ((i + j : Nat) : Int) := Go.IntWalk.u64_in _ (by omega)
      obtain ⟨m, hmm⟩ : ∃ m, (i + j) / 2 = m := ⟨_, rfl⟩
      have hm2 : ((i : Int) + (j : Int)) / 2 = (m : Int) := by omega
      have hmi : i ≤ m ∧ m < j := by omega
      have S1 := hidden (HC.out m (by omega) wr hb.out)
      have fw3 : IntKind.i64.wrap ((m : Int) + 1) = (m : Int) + 1 := Go.IntWalk.i64_in _ (by omega)
      have HM2 := hidden hm2
      have HM := hidden hmi
      have hmj : m ≤ n := by omega
      clear hm2 hmm
      go_wp2_with fail
      rw [HM2.out]
      refine S1.out.mono ?_
      rintro e w2 ⟨rfl, b2⟩
      have HB := hidden (hb.out.trans (b2.mono hb.out.size))
      clear S1 b2 hb
      cases b with
      | true =>
        go_wp2_with fail
        go_roundw
        case rel => exact ⟨i, m, rfl, rfl, HM.out.1, hmj, h0, hidden (by simp), HB⟩
        case measure => have := HM.out; simp [intOf]; omega
      | false =>
        go_wp2_with fail
        go_roundw
        case rel => exact ⟨m + 1, j, by go_num, rfl, HM.out.2, hjn, hidden (by simp), h1, HB⟩
        case measure => have := HM.out; simp [intOf]; omega
    · have hij2 : i = j := by omega
      subst hij2
      cases b with
      | true =>
        obtain rfl : i = 0 := h0.out rfl
        go_wp2_with fail
        go_ret
        exact ⟨rfl, hb.out⟩
      | false =>
        obtain rfl : i = n := h1.out rfl
        go_wp2_with fail
        go_ret
        exact ⟨rfl, hb.out⟩
end Go.Proofs.YthncochjhbmceaaGreat
