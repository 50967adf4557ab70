/- The document's Alike of two lists of series that say the same and of which nothing was taken away, walked. Condition: the lists' rows show what they say. -/
import Derived.Test.YthncochjhbmceaaGreatHedList
namespace Go.Proofs.YthncochjhbmceaaGreat
set_option maxRecDepth 100000
open Go.RowKit

theorem rspans_nil (w : World) : Calls Tryz.prog 55 #[.slice none 0 0, .slice none 0 0] w fun e w' => e = .returned (.bool true) ∧ w' = w := by
  go_enter Tryz.func55, Tryz.ntmps55
  go_wp2_with fail
  refine wp_loop_rounds 1 ?_
  rw [rounds_succ]
  go_wp2_with fail
  go_ret
  exact ⟨rfl, rfl⟩
/-- a list of series of which nothing was taken away, as it lies -/
structure CkF (w : World) (A : Option Addr) (n : Nat) (L : List CkR) : Prop where
  row : Row w w.heap.size 6 A n (L.flatMap CkR.cells)
  len : L.length = n
  lab : ∀ x ∈ L, Row w w.heap.size 2 x.lab.A x.lab.n (x.lab.l.flatMap Lbl.cells) ∧ x.lab.l.length = x.lab.n ∧ x.lab.n ≤ 8
  smp : ∀ x ∈ L, Row w w.heap.size 2 x.smp.A x.smp.n (x.smp.l.flatMap Smp.cells) ∧ x.smp.l.length = x.smp.n ∧ x.smp.n ≤ 1048576
theorem CkF.on {w w' : World} {A : Option Addr} {n : Nat} {L : List CkR} (h : CkF w A n L) (hb : Below w.heap.size w w') : CkF w' A n L :=
  ⟨(h.row.below hb).more hb.size, h.len, fun x hx => ⟨((h.lab x hx).1.below hb).more hb.size, (h.lab x hx).2⟩, fun x hx => ⟨((h.smp x hx).1.below hb).more hb.size, (h.smp x hx).2⟩⟩
theorem CkF.of {tT tL tS : TypeId} {w : World} {base n c : Nat} {A : Option Addr} {L : List CkR} (h : CkO tT tL tS w base (.slice A n c) L) (hl : ∀ x ∈ L, x.lab.n ≤ 8) (hs : ∀ x ∈ L, x.smp.n ≤ 1048576) (hn : L.length = n) : CkF w A n L := by
  subst hn
  obtain ⟨A', c', e, _, hr⟩ := own_shape h.row
  injection e with e _ _
  subst e
  refine ⟨hr, rfl, fun x hx => ?_, fun x hx => ?_⟩
  · obtain ⟨A1, c1, e1, _, h1⟩ := own_shape (h.lab x hx).1
    simp only [Sl.val] at e1
    injection e1 with e1 _ _
    subst e1
    exact ⟨h1, (h.lab x hx).2, hl x hx⟩
  · refine ⟨?_, (h.smp x hx).2, hs x hx⟩
    rcases Nat.eq_zero_or_pos x.smp.n with h0 | h0
    · have h2 := (h.smp x hx).2
      rw [h0] at h2 ⊢
      rw [List.eq_nil_of_length_eq_zero h2]
      exact Row.nil
    · obtain ⟨A1, c1, e1, _, h1⟩ := own_shape ((h.smp x hx).1 h0)
      simp only [Sl.val] at e1
      injection e1 with e1 _ _
      subst e1
      exact h1
set_option maxHeartbeats 6400000 in
theorem alike17_same (A B : Option Addr) (n c d : Nat) (L L' : List CkR) (w : World) (h : CkF w A n L) (h' : CkF w B n L') (hLL : L.map CkR.q = L'.map CkR.q) (hn : n ≤ 1048576) :
    Calls Tryz.prog 19 #[.slice A n c, .slice B n d] w fun e w' => e = .returned (.bool true) ∧ Below w.heap.size w w' := by
  have e1 : ((n : Int) != (n : Int)) = false := by simp
  have H := hidden h
  have H' := hidden h'
  have HLL := hidden hLL
  clear h h' hLL
  go_enter Tryz.func19, Tryz.ntmps19
  go_wp2_with fail
  go_loopw [5] (fun vi wr => ∃ k : Nat, k ≤ n ∧ vi = .int .i64 (k : Int) ∧ ∃ q, wr = w.drewN q) (fun vi _ => n - (intOf vi).toNat)
  case atStart => exact ⟨0, Nat.zero_le _, rfl, 0, rfl⟩
  case round =>
    obtain ⟨k, hkn, rfl, q, hwq⟩ := hrel
    obtain ⟨wK, rfl⟩ : ∃ w', w' = wr := ⟨_, rfl⟩
    have HQ := hidden hwq
    have HWQ := hidden (show Below w.heap.size w wK by rw [hwq]; exact below_drewN (Below.refl _ _) q)
    have k0 : (0 : Int) ≤ (k : Int) := by omega
    clear hwq
    by_cases hlt : k < n
    · have k1 : (k : Int) < (n : Int) := by omega
      have fwk : IntKind.i64.wrap ((k : Int) + 1) = (k : Int) + 1 := Go.IntWalk.i64_in _ (by omega)
      have HLT := hidden (show k + 1 ≤ n from hlt)
      have hX := H.out.on HWQ.out
      have hX' := H'.out.on HWQ.out
      obtain ⟨gs, o, x, rfl, _, hx, hcl⟩ := row_at (enc := CkR.cells) (k := 6) (fun _ => rfl) hX.row hX.len k hlt
      obtain ⟨gt, p, y, rfl, _, hy, hdl⟩ := row_at (enc := CkR.cells) (k := 6) (fun _ => rfl) hX'.row hX'.len k hlt
      have hxy : x.q = y.q := by
        have := congrArg (fun z => z[k]?) HLL.out
        simp only [List.getElem?_map, hx, hy, Option.map_some, Option.some.injEq] at this
        exact this
      obtain ⟨z1, z2, z3⟩ := hX.lab x (List.mem_of_getElem? hx)
      obtain ⟨y1, y2, y3⟩ := hX'.lab y (List.mem_of_getElem? hy)
      obtain ⟨s1, s2, s3⟩ := hX.smp x (List.mem_of_getElem? hx)
      obtain ⟨t1, t2, t3⟩ := hX'.smp y (List.mem_of_getElem? hy)
      obtain ⟨⟨xA, xn, xc, xl⟩, xm, ⟨sA, sn, sc, sl⟩⟩ := x
      obtain ⟨⟨yA, yn, yc, yl⟩, ym, ⟨tA, tn, tc, tl⟩⟩ := y
      simp only [CkR.q, Prod.mk.injEq] at hxy z1 z2 z3 y1 y2 y3 s1 s2 s3 t1 t2 t3
      obtain ⟨rfl, rfl, rfl⟩ := hxy
      have HST := hidden (show tn = sn by omega)
      obtain rfl := HST.out
      have HCF := hidden (fun W (hW : Below wK.heap.size wK W) => ((⟨(hX.on hW).row, (hX'.on hW).row⟩ : _ ∧ _)))
      have c0 := hcl 0 (by omega)
      have c1 := hcl 1 (by omega)
      have c2 := hcl 2 (by omega)
      have c3 := hcl 3 (by omega)
      have c4 := hcl 4 (by omega)
      have c5 := hcl 5 (by omega)
      have d0 := hdl 0 (by omega)
      have d1 := hdl 1 (by omega)
      have d2 := hdl 2 (by omega)
      have d3 := hdl 3 (by omega)
      have d4 := hdl 4 (by omega)
      have d5 := hdl 5 (by omega)
      simp only [CkR.cells, Sl.val, List.getElem?_cons_zero, List.getElem?_cons_succ, Nat.add_zero] at c0 c1 c2 c3 c4 c5 d0 d1 d2 d3 d4 d5
      have S2 : ∀ t, Calls Tryz.prog 54 #[.slice xA xn xc, .slice yA yn yc] (wK.drewN t) fun e w' => e = .returned (.int .i64 0) ∧ ∃ r, w' = (wK.drewN t).drewN r := fun t => by
        have := rcompare_any xA yA xn yn xc yc xl xl (wK.drewN t) wK.heap.size wK.heap.size (z1.drewN t) (y1.drewN t) z2 y2 (by omega)
        rw [(cmpLs_zero _ _).2 rfl] at this
        exact this
      have S3 : ∀ W : World, Calls Tryz.prog 55 #[.slice none 0 0, .slice none 0 0] W fun e w' => e = .returned (.bool true) ∧ ∃ r, w' = W.drewN r := fun W => (rspans_nil W).mono fun e w' h => ⟨h.1, 0, h.2⟩
      have g0 : ((0 : Int) != 0) = false := rfl
      have g1 : (xm != xm) = false := by simp
      have g2 : ((tn : Int) != (tn : Int)) = false := by simp
      have HSR := hidden s1
      have HTR := hidden t1
      have HSL := hidden s2
      have HNC := hidden (fun (j : Nat) (hj : j < 3) => match j, hj with | 0, _ => ⟨c2, d2⟩ | 1, _ => ⟨c3, d3⟩ | 2, _ => ⟨c4, d4⟩ : ∀ j, j < 3 → wK.cell? ⟨gs, o + k * 6 + 2 + j, none⟩ = some (.slice none 0 0) ∧ wK.cell? ⟨gt, p + k * 6 + 2 + j, none⟩ = some (.slice none 0 0))
      clear hX hX' hx hy hcl hdl z1 z2 z3 y1 y2 y3 s1 s2 t1 t2 HCF
      go_upto_region 6 with (fail)
      go_quiet ((go_at_call 54; refine Calls.quiet_of (S2 _)))
      clear S2
      go_wp2_with fail
      go_quiet (fail)
      go_wp2_with fail
      rw [World.drewN_drewN]
      go_loopw [7] (fun vi wx => ∃ j : Nat, j ≤ 3 ∧ vi = .int .i64 (j : Int) ∧ ∃ q, wx = wK.drewN q) (fun vi _ => 3 - (intOf vi).toNat)
      case atStart => exact ⟨0, Nat.zero_le _, rfl, _, rfl⟩
      case round =>
        obtain ⟨j, hj, rfl, q, hwq⟩ := hrel
        have HQ2 := hidden hwq
        have j0 : (0 : Int) ≤ (j : Int) := by omega
        by_cases hlt2 : j < 3
        · have j1 : (j : Int) < 3 := by omega
          have fwj : IntKind.i64.wrap ((j : Int) + 1) = (j : Int) + 1 := Go.IntWalk.i64_in _ (by omega)
          obtain ⟨n1, n2⟩ := HNC.out j hlt2
          have m5 : wr.cell? ⟨gs, o + k * 6 + 2 + j, none⟩ = some (.slice none 0 0) := by rw [hwq]; exact n1
          have m6 : wr.cell? ⟨gt, p + k * 6 + 2 + j, none⟩ = some (.slice none 0 0) := by rw [hwq]; exact n2
          clear hwq n1 n2
          go_upto_region 12 with (fail)
          go_quiet ((go_at_call 55; refine Calls.quiet_of (S3 _)))
          go_wp2_with fail
          go_roundw
          case rel => exact ⟨j + 1, by omega, by go_num, _, by rw [HQ2.out, World.drewN_drewN]⟩
          case measure => simp only [intOf]; omega
        · obtain rfl : j = 3 := by omega
          clear hwq
          have m5 : wr.cell? ⟨gs, o + k * 6 + 5, none⟩ = some (.slice sA tn sc) := by rw [HQ2.out]; exact c5
          go_wp2_with fail
          go_loopw [9] (fun vi wx => ∃ i : Nat, i ≤ tn ∧ vi = .int .i64 (i : Int) ∧ ∃ q, wx = wK.drewN q) (fun vi _ => tn - (intOf vi).toNat)
          case atStart => exact ⟨0, Nat.zero_le _, rfl, _, HQ2.out⟩
          case round =>
            obtain ⟨i, hi, rfl, q, hwq⟩ := hrel
            have HQ3 := hidden hwq
            have i0 : (0 : Int) ≤ (i : Int) := by omega
            have m5 : wr.cell? ⟨gs, o + k * 6 + 5, none⟩ = some (.slice sA tn sc) := by rw [hwq]; exact c5
            have m6 : wr.cell? ⟨gt, p + k * 6 + 5, none⟩ = some (.slice tA tn tc) := by rw [hwq]; exact d5
            by_cases hlt3 : i < tn
            · have i1 : (i : Int) < (tn : Int) := by omega
              have fwi : IntKind.i64.wrap ((i : Int) + 1) = (i : Int) + 1 := Go.IntWalk.i64_in _ (by omega)
              have hr1 : Row wr wK.heap.size 2 sA tn (sl.flatMap Smp.cells) := by rw [hwq]; exact HSR.out.drewN q
              have hr2 : Row wr wK.heap.size 2 tA tn (sl.flatMap Smp.cells) := by rw [hwq]; exact HTR.out.drewN q
              obtain ⟨a1, b1, u1, rfl, _, hu1, hc1⟩ := row_at (enc := Smp.cells) (k := 2) (fun _ => rfl) hr1 HSL.out i hlt3
              obtain ⟨a2, b2, u2, rfl, _, hu2, hc2⟩ := row_at (enc := Smp.cells) (k := 2) (fun _ => rfl) hr2 HSL.out i hlt3
              obtain rfl : u2 = u1 := Option.some.inj (hu2.symm.trans hu1)
              have x0 := hc1 0 (by omega)
              have x1 := hc1 1 (by omega)
              have x2 := hc2 0 (by omega)
              have x3 := hc2 1 (by omega)
              obtain ⟨ut, uv⟩ := u2
              simp only [Smp.cells, List.getElem?_cons_zero, List.getElem?_cons_succ, Nat.add_zero] at x0 x1 x2 x3
              clear hr1 hr2 hu1 hu2 hc1 hc2 hwq
              go_wp2_with fail
              go_quiet (fail)
              go_wp2_with fail
              go_roundw
              case rel => exact ⟨i + 1, by omega, by go_num, _, by rw [HQ3.out, World.drewN_drewN]⟩
              case measure => simp only [intOf]; omega
            · obtain rfl : tn = i := by omega
              clear hwq
              go_wp2_with fail
              go_roundw
              case rel => exact ⟨k + 1, HLT.out, by go_num, _, by rw [HQ3.out, HQ.out, World.drewN_drewN]⟩
              case measure => have := HLT.out; simp only [intOf]; omega
    · obtain rfl : n = k := by omega
      go_wp2_with fail
      go_ret
      exact ⟨rfl, HWQ.out⟩
end Go.Proofs.YthncochjhbmceaaGreat
