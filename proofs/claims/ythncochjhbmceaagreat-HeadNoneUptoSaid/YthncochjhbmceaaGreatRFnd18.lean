/- The document's twin of a head without series, and its Find, walked. Condition: the list on trial is one. -/
import Derived.Test.YthncochjhbmceaaGreatRPlP
namespace Go.Proofs.YthncochjhbmceaaGreat
set_option maxRecDepth 100000
open Go.RowKit

theorem twin18_nil (w : World) (h : Nat) (hh : Whole1 w h 50 #[.slice none 0 0]) :
    Calls Tryz.prog 74 #[.pointer (some ⟨h, 0, none⟩)] w fun e w' => e = .returned (.pointer (some ⟨w.heap.size, 0, none⟩)) ∧ w' = w.alloc (.cells #[.slice none 0 0] 50) := by
  have c0 := hh.cell 0
  have c1 := (hh.alloc (.cells #[.slice none 0 0] 50)).cell 0
  clear hh
  go_enter Tryz.func74, Tryz.ntmps74
  go_wp2_with fail
  refine wp_loop_rounds 1 ?_
  rw [rounds_succ]
  go_wp2_with fail
  go_ret
  exact ⟨rfl, rfl⟩
/-- the number of a set, or -1 -/
noncomputable def fndE (E : List (List Lbl)) (l : List Lbl) : Int := match atE E l with | some i => (i : Nat) | none => -1
theorem fndE_at {E : List (List Lbl)} {l : List Lbl} {k : Nat} (hk : E[k]? = some l) (h : ∀ j < k, ∀ x, E[j]? = some x → x ≠ l) : fndE E l = (k : Int) := by
  have : atE E l = some k := by
    unfold atE
    rw [List.findIdx?_eq_some_iff_getElem]
    obtain ⟨h1, h2⟩ := List.getElem?_eq_some_iff.1 hk
    refine ⟨h1, by simpa using h2, fun j hj => ?_⟩
    have := h j hj _ (List.getElem?_eq_getElem (Nat.lt_trans hj h1))
    simpa using this
  rw [fndE, this]
set_option maxHeartbeats 6400000 in
theorem find18_any (H : Nat) (lv : Value) (T : List TrR) (l : List Lbl) (A : Option Addr) (n c lb base : Nat) (w : World) (hh : Whole1 w H 50 #[lv]) (hT : w.ownsRow base 153 6 lv T.length (T.flatMap TrR.cells))
    (hlab : ∀ x ∈ T, w.ownsRow lb 167 2 x.lab.val x.lab.n (x.lab.l.flatMap Lbl.cells) ∧ x.lab.l.length = x.lab.n) (hr : Row w w.heap.size 2 A n (l.flatMap Lbl.cells)) (hl : l.length = n) (hx : ∀ x ∈ T, x.lab.n ≤ 8) (hn : T.length ≤ 2097152) :
    Calls Tryz.prog 76 #[.pointer (some ⟨H, 0, none⟩), .slice A n c] w fun e w' => e = .returned (.int .i64 (fndE (T.map fun x => x.lab.l) l)) ∧ Below w.heap.size w w' := by
  obtain ⟨As, cs, rfl, _, _⟩ := own_shape hT
  obtain ⟨k0, hk0⟩ : ∃ k, T.length = k := ⟨_, rfl⟩
  obtain ⟨r, hr0⟩ : ∃ r, fndE (T.map fun x => x.lab.l) l = r := ⟨_, rfl⟩
  rw [hr0]
  rw [hk0] at hh hT hn
  have HT := hidden hT
  have HH := hidden hh
  have HLB := hidden hlab
  have HR := hidden hr
  have HL := hidden hl
  have HX := hidden hx
  have HK0 := hidden hk0
  have HRR := hidden hr0
  clear hh hT hlab hr hl hx hk0 hr0
  go_enter Tryz.func76, Tryz.ntmps76
  go_wp2_with fail
  go_loopw [5] (fun vi wr => ∃ k : Nat, vi = .int .i64 (k : Int) ∧ k ≤ k0 ∧ Hid (∀ j < k, ∀ x, T[j]? = some x → x.lab.l ≠ l) ∧ Hid (Below w.heap.size w wr)) (fun vi _ => k0 - (intOf vi).toNat)
  case atStart => exact ⟨0, rfl, Nat.zero_le _, hidden (by simp), hidden (Below.refl _ _)⟩
  case round =>
    obtain ⟨k, rfl, hk, hnot, hb⟩ := hrel
    have c0 := (HH.out.below hb.out HH.out.lt).cell 0
    have kk0 : (0 : Int) ≤ (k : Int) := by omega
    by_cases hlt : k < k0
    · have k1 : (k : Int) < (k0 : Int) := by omega
      have fwk : IntKind.i64.wrap ((k : Int) + 1) = (k : Int) + 1 := Go.IntWalk.i64_in _ (by omega)
      obtain ⟨As', cs', e1, _, hrow⟩ := own_shape (own_below HT.out hb.out (Nat.le_refl _))
      injection e1 with e1 _ e2
      subst e1 e2
      obtain ⟨g, o, x, rfl, _, hx, hc⟩ := row_at (enc := TrR.cells) (k := 6) (fun _ => rfl) hrow HK0.out k hlt
      have ck := hc 0 (by omega)
      have hxm := List.mem_of_getElem? hx
      obtain ⟨hxo, hxl⟩ := HLB.out x hxm
      have hx8 := HX.out x hxm
      have HXT := hidden hx
      obtain ⟨⟨xA, xn, xc, xl⟩, xm⟩ := x
      simp only [TrR.cells, Sl.val, Nat.add_zero, List.getElem?_cons_zero] at ck hxo hxl hx8
      obtain ⟨A2, c2, e3, _, hxr⟩ := own_shape (own_below hxo hb.out (Nat.le_refl _))
      injection e3 with e3 _ e4
      subst e3 e4
      have S1 := hidden (rcompare_any xA A xn n xc c xl l wr wr.heap.size wr.heap.size hxr ((HR.out.below hb.out).more hb.out.size) hxl HL.out (by omega))
      have HLT := hidden (show k + 1 ≤ k0 from hlt)
      have HZ := hidden (cmpLs_zero xl l)
      obtain ⟨z, hz⟩ : ∃ z, cmpLs xl l = z := ⟨_, rfl⟩
      rw [hz] at S1 HZ
      clear hc hrow hx hxm hxo hxl hx8 hxr hz
      go_wp2_with fail
      refine S1.out.mono ?_
      rintro e w2 ⟨rfl, q, hw2⟩
      have HB2 := hidden (show Below w.heap.size w w2 by rw [hw2]; exact below_drewN hb.out q)
      clear S1 hw2
      by_cases hz : z = 0
      · subst hz
        have hfin : Hid (r = (k : Int)) := by
          rw [Hid, ← HRR.out]
          refine fndE_at (by rw [List.getElem?_map, HXT.out]; exact congrArg some (HZ.out.1 rfl)) fun j hj y hy => ?_
          rw [List.getElem?_map] at hy
          obtain ⟨t, ht, rfl⟩ := Option.map_eq_some_iff.1 hy
          exact hnot.out j hj t ht
        go_wp2_with fail
        go_ret
        exact ⟨by rw [hfin.out]; rfl, HB2.out⟩
      · have hne : Hid (xl ≠ l) := fun e => hz (HZ.out.2 e)
        have hzb : (z == 0) = false := by simpa using hz
        go_wp2_with fail
        go_roundw
        case rel =>
          refine ⟨k + 1, by go_num, HLT.out, hidden fun j hj t ht => ?_, HB2⟩
          rcases Nat.lt_succ_iff_lt_or_eq.1 hj with hj | rfl
          · exact hnot.out j hj t ht
          · rw [HXT.out] at ht
            cases ht
            exact hne.out
        case measure => have := HLT.out; simp [intOf]; omega
    · obtain rfl : k = k0 := by omega
      have hfin : Hid (r = -1) := by
        rw [Hid, ← HRR.out, fndE, atE_none.2 fun hm => ?_]
        obtain ⟨t, ht, e⟩ := List.mem_map.1 hm
        obtain ⟨j, hj⟩ := List.mem_iff_getElem?.1 ht
        exact hnot.out j (by rw [← HK0.out]; exact (List.getElem?_eq_some_iff.1 hj).1) t hj e
      go_wp2_with fail
      go_ret
      exact ⟨by rw [hfin.out]; rfl, hb.out⟩
end Go.Proofs.YthncochjhbmceaaGreat
