/- almanacref05: merge and Of, walked. Condition: the rows are within the reach. -/
import Derived.Test.YtalnndenncnbdaaGreatStrO
namespace Go.Proofs.YtalnndenncnbdaaGreat
set_option maxRecDepth 100000
open Go.RowKit

theorem infoS : (Tryz.prog.info? 9).map (fun i => (i.zero, i.size, i.bytes)) = some (some (.string ⟨#[]⟩), 1, 16) := by kernel_rfl
set_option maxHeartbeats 1600000 in
theorem rmerge_any (A B : Option Addr) (n m c d : Nat) (a b : List ByteArray) (w : World) (ha : TxF w A n a) (hb : TxF w B m b) (hnm : (n + m) * 16 ≤ 140737488351232) :
    Calls Tryz.prog 81 #[.slice A n c, .slice B m d] w fun e w' => ∃ v, e = .returned v ∧ w'.ownsRow w.heap.size 9 1 v (mrgS a b).length ((mrgS a b).map Value.string) ∧ Below w.heap.size w w' := by
  obtain ⟨iz, hi, hz0, hz1, hz2⟩ := info_parts infoS
  have HA := hidden ha
  have HB := hidden hb
  obtain ⟨M, hM⟩ : ∃ M, mrgS a b = M := ⟨_, rfl⟩
  rw [hM]
  have HM := hidden hM
  clear ha hb hM
  go_enter Tryz.func81, Tryz.ntmps81
  go_wp2_with fail
  go_loopw [5, 6, 7] (fun v vi vk wr => ∃ (i k j : Nat) (out : List ByteArray), vi = .int .i64 (i : Int) ∧ vk = .int .i64 (k : Int) ∧ i ≤ n ∧ k ≤ m ∧ j ≤ i + k ∧ wr.ownsRow w.heap.size 9 1 v j (out.map Value.string) ∧ Hid (out ++ mrgS (a.drop i) (b.drop k) = M) ∧ Hid (Below w.heap.size w wr)) (fun _ vi vk _ => (n - (intOf vi).toNat) + (m - (intOf vk).toNat))
  case atStart => exact ⟨0, 0, 0, [], rfl, rfl, Nat.zero_le _, Nat.zero_le _, Nat.le_refl _, World.ownsRow_nil _ _ _ _, hidden HM.out, hidden (Below.refl _ _)⟩
  case round =>
    obtain ⟨i, k, j, out, rfl, rfl, hin, hkm, hj, hown, hout, hbel⟩ := hrel
    have i0' : (0 : Int) ≤ (i : Int) := by omega
    have k0 : (0 : Int) ≤ (k : Int) := by omega
    have hal := HA.out.len
    have hbl := HB.out.len
    by_cases hi1 : i < n
    · have i1 : (i : Int) < (n : Int) := by omega
      have fwi : IntKind.i64.wrap ((i : Int) + 1) = (i : Int) + 1 := Go.IntWalk.i64_in _ (by omega)
      obtain ⟨ga, oa, x, rfl, hga, hx, cx⟩ := tx_cell (HA.out.on hbel.out) hi1
      by_cases hk1 : k < m
      · have k1 : (k : Int) < (m : Int) := by omega
        obtain ⟨gb, ob, y, rfl, hgb, hy, cy⟩ := tx_cell (HB.out.on hbel.out) hk1
        have fwk : IntKind.i64.wrap ((k : Int) + 1) = (k : Int) + 1 := Go.IntWalk.i64_in _ (by omega)
        have dk : decide (m ≤ k) = false := by simpa using hk1
        rcases bLt_tri x y with h | h | h
        · have hl := bl_true h
          have HO : Hid ((out ++ [x]) ++ mrgS (a.drop (i + 1)) (b.drop k) = M) := by rw [Hid, List.append_assoc, List.singleton_append, ← mrgS_left hx (.inr ⟨y, hy, h⟩)]; exact hout.out
          clear hx hy hout h hal hbl
          go_wp2_with fail
          go_quiet (fail)
          have ho1 := own_drewN hown nq
          have HB2 := hidden (below_drewN hbel.out nq)
          have cx1 : (wr.drewN nq).cell? ⟨ga, oa + i, none⟩ = some (.string x) := cx
          clear cx
          clear hown hbel
          generalize wr.drewN nq = w2 at *
          have hbs := HB2.out.size
          have hfr := Row.fresh w2 9 1 1 [.string x] rfl
          go_wp2_with (at_builtin; refine wpList_app _ rfl _ _ 44 rfl w.heap.size 9 iz _ 1 16 Tryz.underlying44 hi hz0 hz1 hz2 rfl (by decide) _ _ _ rfl (ho1.alloc _) _ _ _ _ _ rfl hfr (by simp [Value.oneCell']) (by unfold maxLen; omega) (by omega) (by simp; omega) ?_; intro v1 w9 hown1 hg1 hat1)
          go_roundw
          case rel => exact ⟨i + 1, k, j + 1, out ++ [x], by go_num, by go_num, by omega, by omega, by omega, by rw [List.map_append]; exact hown1, hidden HO.out, hidden ((HB2.out.alloc hbs _).grown hg1 (by simp; omega) (fun q hq => (ho1.lt q hq).1))⟩
          case measure => simp [intOf]; omega
        · subst h
          have hl := bl_false (bLt_irr x)
          have hee : (x.toList == x.toList) = true := by simp
          have HO : Hid ((out ++ [x]) ++ mrgS (a.drop (i + 1)) (b.drop (k + 1)) = M) := by rw [Hid, List.append_assoc, List.singleton_append, ← mrgS_same hx hy]; exact hout.out
          clear hx hy hout hal hbl
          go_wp2_with fail
          go_quiet (fail)
          have ho1 := own_drewN hown nq
          have HB2 := hidden (below_drewN hbel.out nq)
          have cx1 : (wr.drewN nq).cell? ⟨ga, oa + i, none⟩ = some (.string x) := cx
          clear cx
          have cy1 : (wr.drewN nq).cell? ⟨gb, ob + k, none⟩ = some (.string x) := cy
          clear cy
          clear hown hbel
          generalize wr.drewN nq = w2 at *
          go_wp2_with fail
          have ho0 := ho1
          have HB1 := HB2
          clear ho1 HB2
          go_quiet (fail)
          have ho1 := own_drewN ho0 nq
          have HB2 := hidden (below_drewN HB1.out nq)
          have cx2 : (w2.drewN nq).cell? ⟨ga, oa + i, none⟩ = some (.string x) := cx1
          clear cx1
          have cy2 : (w2.drewN nq).cell? ⟨gb, ob + k, none⟩ = some (.string x) := cy1
          clear cy1
          clear ho0 HB1
          generalize w2.drewN nq = w3 at *
          have hbs := HB2.out.size
          have hfr := Row.fresh w3 9 1 1 [.string x] rfl
          go_wp2_with (at_builtin; refine wpList_app _ rfl _ _ 44 rfl w.heap.size 9 iz _ 1 16 Tryz.underlying44 hi hz0 hz1 hz2 rfl (by decide) _ _ _ rfl (ho1.alloc _) _ _ _ _ _ rfl hfr (by simp [Value.oneCell']) (by unfold maxLen; omega) (by omega) (by simp; omega) ?_; intro v1 w9 hown1 hg1 hat1)
          go_roundw
          case rel => exact ⟨i + 1, k + 1, j + 1, out ++ [x], by go_num, by go_num, by omega, by omega, by omega, by rw [List.map_append]; exact hown1, hidden HO.out, hidden ((HB2.out.alloc hbs _).grown hg1 (by simp; omega) (fun q hq => (ho1.lt q hq).1))⟩
          case measure => simp [intOf]; omega
        · have hl := bl_false (fun h2 => bLt_irr _ (bLt_trans _ _ _ h2 h))
          have hne : (x.toList == y.toList) = false := by
            rw [beq_eq_false_iff_ne, Lib.toList_data, Lib.toList_data]
            exact fun e => bLt_irr y (by rw [bytes_ext e] at h; exact h)
          have HO : Hid ((out ++ [y]) ++ mrgS (a.drop i) (b.drop (k + 1)) = M) := by rw [Hid, List.append_assoc, List.singleton_append, ← mrgS_right hy (.inr ⟨x, hx, h⟩)]; exact hout.out
          clear hx hy hout h hal hbl
          go_wp2_with fail
          go_quiet (fail)
          have ho1 := own_drewN hown nq
          have HB2 := hidden (below_drewN hbel.out nq)
          have cx1 : (wr.drewN nq).cell? ⟨ga, oa + i, none⟩ = some (.string x) := cx
          clear cx
          have cy1 : (wr.drewN nq).cell? ⟨gb, ob + k, none⟩ = some (.string y) := cy
          clear cy
          clear hown hbel
          generalize wr.drewN nq = w2 at *
          go_wp2_with fail
          have ho0 := ho1
          have HB1 := HB2
          clear ho1 HB2
          go_quiet (fail)
          have ho1 := own_drewN ho0 nq
          have HB2 := hidden (below_drewN HB1.out nq)
          have cx2 : (w2.drewN nq).cell? ⟨ga, oa + i, none⟩ = some (.string x) := cx1
          clear cx1
          have cy2 : (w2.drewN nq).cell? ⟨gb, ob + k, none⟩ = some (.string y) := cy1
          clear cy1
          clear ho0 HB1
          generalize w2.drewN nq = w3 at *
          have hbs := HB2.out.size
          have hfr := Row.fresh w3 9 1 1 [.string y] rfl
          go_wp2_with (at_builtin; refine wpList_app _ rfl _ _ 44 rfl w.heap.size 9 iz _ 1 16 Tryz.underlying44 hi hz0 hz1 hz2 rfl (by decide) _ _ _ rfl (ho1.alloc _) _ _ _ _ _ rfl hfr (by simp [Value.oneCell']) (by unfold maxLen; omega) (by omega) (by simp; omega) ?_; intro v1 w9 hown1 hg1 hat1)
          go_roundw
          case rel => exact ⟨i, k + 1, j + 1, out ++ [y], by go_num, by go_num, by omega, by omega, by omega, by rw [List.map_append]; exact hown1, hidden HO.out, hidden ((HB2.out.alloc hbs _).grown hg1 (by simp; omega) (fun q hq => (ho1.lt q hq).1))⟩
          case measure => simp [intOf]; omega
      · have dk : decide (m ≤ k) = true := by simpa using hk1
        obtain rfl : m = k := by omega
        have HO : Hid ((out ++ [x]) ++ mrgS (a.drop (i + 1)) (b.drop m) = M) := by rw [Hid, List.append_assoc, List.singleton_append, ← mrgS_left hx (.inl (by rw [hbl]; exact Nat.le_refl _))]; exact hout.out
        clear hx hout hal hbl
        go_wp2_with fail
        go_quiet (fail)
        have ho1 := own_drewN hown nq
        have HB2 := hidden (below_drewN hbel.out nq)
        have cx1 : (wr.drewN nq).cell? ⟨ga, oa + i, none⟩ = some (.string x) := cx
        clear cx
        clear hown hbel
        generalize wr.drewN nq = w2 at *
        have hbs := HB2.out.size
        have hfr := Row.fresh w2 9 1 1 [.string x] rfl
        go_wp2_with (at_builtin; refine wpList_app _ rfl _ _ 44 rfl w.heap.size 9 iz _ 1 16 Tryz.underlying44 hi hz0 hz1 hz2 rfl (by decide) _ _ _ rfl (ho1.alloc _) _ _ _ _ _ rfl hfr (by simp [Value.oneCell']) (by unfold maxLen; omega) (by omega) (by simp; omega) ?_; intro v1 w9 hown1 hg1 hat1)
        go_roundw
        case rel => exact ⟨i + 1, m, j + 1, out ++ [x], by go_num, by go_num, by omega, by omega, by omega, by rw [List.map_append]; exact hown1, hidden HO.out, hidden ((HB2.out.alloc hbs _).grown hg1 (by simp; omega) (fun q hq => (ho1.lt q hq).1))⟩
        case measure => simp [intOf]; omega
    · obtain rfl : n = i := by omega
      by_cases hk1 : k < m
      · have k1 : (k : Int) < (m : Int) := by omega
        obtain ⟨gb, ob, y, rfl, hgb, hy, cy⟩ := tx_cell (HB.out.on hbel.out) hk1
        have fwk : IntKind.i64.wrap ((k : Int) + 1) = (k : Int) + 1 := Go.IntWalk.i64_in _ (by omega)
        have dk : decide (m ≤ k) = false := by simpa using hk1
        have HO : Hid ((out ++ [y]) ++ mrgS (a.drop n) (b.drop (k + 1)) = M) := by rw [Hid, List.append_assoc, List.singleton_append, ← mrgS_right hy (.inl (by rw [hal]; exact Nat.le_refl _))]; exact hout.out
        clear hy hout hal hbl
        go_wp2_with fail
        go_quiet (fail)
        have ho1 := own_drewN hown nq
        have HB2 := hidden (below_drewN hbel.out nq)
        have cy1 : (wr.drewN nq).cell? ⟨gb, ob + k, none⟩ = some (.string y) := cy
        clear cy
        clear hown hbel
        generalize wr.drewN nq = w2 at *
        go_wp2_with fail
        have ho0 := ho1
        have HB1 := HB2
        clear ho1 HB2
        go_quiet (fail)
        have ho1 := own_drewN ho0 nq
        have HB2 := hidden (below_drewN HB1.out nq)
        have cy2 : (w2.drewN nq).cell? ⟨gb, ob + k, none⟩ = some (.string y) := cy1
        clear cy1
        clear ho0 HB1
        generalize w2.drewN nq = w3 at *
        have hbs := HB2.out.size
        have hfr := Row.fresh w3 9 1 1 [.string y] rfl
        go_wp2_with (at_builtin; refine wpList_app _ rfl _ _ 44 rfl w.heap.size 9 iz _ 1 16 Tryz.underlying44 hi hz0 hz1 hz2 rfl (by decide) _ _ _ rfl (ho1.alloc _) _ _ _ _ _ rfl hfr (by simp [Value.oneCell']) (by unfold maxLen; omega) (by omega) (by simp; omega) ?_; intro v1 w9 hown1 hg1 hat1)
        go_roundw
        case rel => exact ⟨n, k + 1, j + 1, out ++ [y], by go_num, by go_num, by omega, by omega, by omega, by rw [List.map_append]; exact hown1, hidden HO.out, hidden ((HB2.out.alloc hbs _).grown hg1 (by simp; omega) (fun q hq => (ho1.lt q hq).1))⟩
        case measure => simp [intOf]; omega
      · obtain rfl : m = k := by omega
        have e := hout.out
        rw [List.drop_of_length_le (by rw [hal]; exact Nat.le_refl _), List.drop_of_length_le (by rw [hbl]; exact Nat.le_refl _), nil_mrgS, List.append_nil] at e
        subst e
        have hlo := hown.1
        rw [List.length_map, Nat.mul_one] at hlo
        clear hal hbl
        go_wp2_with fail
        go_ret
        exact ⟨_, rfl, by rw [hlo]; exact hown, hbel.out⟩
/-- a rising list of just these texts -/
def OfAns (w : World) (l : List ByteArray) (e : Ending) (w' : World) : Prop := ∃ v S, e = .returned v ∧ w'.ownsRow w.heap.size 9 1 v S.length (S.map Value.string) ∧ riseB S ∧ (∀ x, x ∈ S ↔ x ∈ l) ∧ S.length ≤ l.length ∧ Below w.heap.size w w'
theorem mrgS_len (a b : List ByteArray) : (mrgS a b).length ≤ a.length + b.length := by
  fun_induction mrgS a b <;> simp_all <;> omega
theorem row_front {w : World} {B n k : Nat} {A : Option Addr} {l : List ByteArray} (h : Row w B 1 A n (l.map Value.string)) (hk : k ≤ n) : Row w B 1 A k ((l.take k).map Value.string) := by
  have hl := h.len
  rw [List.length_map] at hl
  refine ⟨by rw [List.length_map, List.length_take]; omega, fun h0 => ?_⟩
  obtain ⟨g, o, e, hb, hc⟩ := h.at_ (by omega)
  refine ⟨g, o, e, hb, fun j hj => ?_⟩
  rw [hc j (by omega), List.getElem?_map, List.getElem?_map, List.getElem?_take_of_lt (by omega)]
theorem row_back {w : World} {B n k g o : Nat} {l : List ByteArray} (h : Row w B 1 (some ⟨g, o, none⟩) n (l.map Value.string)) (hk : k < n) : Row w B 1 (some ⟨g, o + k, none⟩) (n - k) ((l.drop k).map Value.string) := by
  have hl := h.len
  rw [List.length_map] at hl
  refine ⟨by rw [List.length_map, List.length_drop]; omega, fun h0 => ?_⟩
  obtain ⟨g', o', e, hb, hc⟩ := h.at_ (by omega)
  cases e
  refine ⟨g, o + k, rfl, hb, fun j hj => ?_⟩
  rw [Nat.add_assoc, hc (k + j) (by omega), List.getElem?_map, List.getElem?_map, List.getElem?_drop]
/-- one text in a block of its own -/
theorem own_one (w : World) (t : TypeId) (u : Value) (B : Nat) (hB : B ≤ w.heap.size) : (w.alloc (.cells #[u] t)).ownsRow B t 1 (.slice (some ⟨w.heap.size, 0, none⟩) 1 1) 1 [u] :=
  ⟨rfl, .inr ⟨w.heap.size, 1, #[u], rfl, hB, Whole1.new w _ _, Nat.le_refl _, by decide, rfl, rfl⟩⟩
set_option maxHeartbeats 1600000 in
theorem rof_any : ∀ (N : Nat) (A : Option Addr) (n c : Nat) (l : List ByteArray) (w : World), n ≤ N → TxF w A n l → n ≤ c →
    Calls Tryz.prog 42 #[.slice A n c] w (OfAns w l) := by
  intro N
  induction N with
  | zero =>
    intro A n c l w hN h hnc
    obtain rfl : n = 0 := by omega
    have hlen := h.len
    clear h
    go_enter Tryz.func42, Tryz.ntmps42
    go_wp2_with fail
    go_ret
    exact ⟨_, [], rfl, World.ownsRow_nil _ _ _ _, List.Pairwise.nil, by rw [List.length_eq_zero_iff.1 hlen]; simp, Nat.zero_le _, Below.refl _ _⟩
  | succ N ih =>
    intro A n c l w hN h hnc
    have H := hidden h
    have hfit := h.fit
    have hlen := h.len
    by_cases h0 : n = 0
    · exact (by subst h0; exact ih A 0 c l w (by omega) h (by omega))
    · by_cases h1 : n = 1
      · subst h1
        obtain ⟨g, o, x, rfl, hg, hx, cx⟩ := tx_cell H.out (k := 0) (by omega)
        have hl : l = [x] := by
          match l, hlen with
          | [y], _ => simp at hx; rw [hx]
        rw [Nat.add_zero] at cx
        have HL := hidden hl
        clear h hl hx hlen
        go_enter Tryz.func42, Tryz.ntmps42
        go_wp2_with fail
        go_ret
        exact ⟨_, [x], rfl, own_one w _ _ _ (Nat.le_refl _), List.pairwise_singleton _ _, by rw [HL.out]; simp, by rw [HL.out]; exact Nat.le_refl _, (Below.refl _ _).alloc (Nat.le_refl _) _⟩
      · obtain ⟨g, o, rfl, _, _⟩ := h.row.at_ (by omega)
        obtain ⟨k, hk⟩ : ∃ k : Nat, n / 2 = k := ⟨_, rfl⟩
        have hk1 : k < n := by omega
        have hk2 : 0 < k := by omega
        have hkz : (n : Int) / 2 = (k : Int) := by omega
        have HF := hidden (show TxF w (some ⟨g, o, none⟩) k (l.take k) from ⟨row_front h.row (by omega), by rw [List.length_take]; omega, by omega⟩)
        have HB := hidden (show TxF w (some ⟨g, o + k, none⟩) (n - k) (l.drop k) from ⟨row_back h.row hk1, by rw [List.length_drop]; omega, by omega⟩)
        have S1 := hidden (ih (some ⟨g, o, none⟩) k c (l.take k) w (by omega) HF.out (by omega))
        have k0 : (0 : Int) ≤ (k : Int) := by omega
        have kn : (k : Int) ≤ (n : Int) := by omega
        have kc : (k : Int) ≤ (c : Int) := by omega
        have nc : (n : Int) ≤ (c : Int) := by omega
        clear h hlen hk
        go_enter Tryz.func42, Tryz.ntmps42
        go_wp2_with fail
        refine S1.out.mono ?_
        rintro e w1 ⟨v1, S1l, rfl, ho1, hr1, hm1, hl1, b1⟩
        obtain ⟨A1, c1, rfl, _, _⟩ := own_shape ho1
        have S2 := hidden (ih (some ⟨g, o + k, none⟩) (n - k) (c - k) (l.drop k) w1 (by omega) (HB.out.on b1) (by omega))
        have HO1 := hidden ho1
        have HR1 := hidden (And.intro hr1 (And.intro hm1 hl1))
        have B1 := hidden b1
        clear S1 ho1 hr1 hm1 hl1 b1
        go_wp2_with fail
        refine S2.out.mono ?_
        rintro e w2 ⟨v2, S2l, rfl, ho2, hr2, hm2, hl2, b2⟩
        obtain ⟨A2, c2, rfl, _, _⟩ := own_shape ho2
        have B2 := hidden (B1.out.trans (b2.mono B1.out.size))
        have HO1' := own_below HO1.out b2 (Nat.le_refl _)
        have hle1 : S1l.length ≤ k := by have := HR1.out.2.2; rw [HF.out.len] at this; exact this
        have hle2 : S2l.length ≤ n - k := by have := hl2; rw [HB.out.len] at this; exact this
        have S3 := hidden (rmerge_any A1 A2 S1l.length S2l.length c1 c2 S1l S2l w2 (by obtain ⟨_, _, e, _, hr⟩ := own_shape HO1'; simp only [Value.slice.injEq, true_and] at e; obtain ⟨rfl, rfl⟩ := e; exact ⟨hr, rfl, by omega⟩) (by obtain ⟨_, _, e, _, hr⟩ := own_shape ho2; simp only [Value.slice.injEq, true_and] at e; obtain ⟨rfl, rfl⟩ := e; exact ⟨hr, rfl, by omega⟩) (by omega))
        have HFIN := hidden (show riseB (mrgS S1l S2l) ∧ (∀ x, x ∈ mrgS S1l S2l ↔ x ∈ l) ∧ (mrgS S1l S2l).length ≤ l.length from ⟨mrgS_rise HR1.out.1 hr2, fun x => by rw [mem_mrgS, HR1.out.2.1, hm2, ← List.mem_append, List.take_append_drop], Nat.le_trans (mrgS_len _ _) (by have := HF.out.len; have := HB.out.len; rw [List.length_take] at *; rw [List.length_drop] at *; omega)⟩)
        clear S2 ho2 hr2 hm2 hl2 b2 HO1' hle1 hle2
        go_wp2_with fail
        refine S3.out.mono ?_
        rintro e w3 ⟨v3, rfl, ho3, b3⟩
        have HO3 := hidden ho3
        have B3 := hidden (B2.out.trans (b3.mono B2.out.size))
        clear S3 ho3 b3
        go_wp2_with fail
        go_ret
        exact ⟨v3, _, rfl, own_more HO3.out B2.out.size, HFIN.out.1, HFIN.out.2.1, HFIN.out.2.2, B3.out⟩
end Go.Proofs.YtalnndenncnbdaaGreat
