/- The document's Alike of two records that take no times away and say the same, walked. Condition: the records' rows show what they say. -/
import Derived.Test.YthncochjhbmceaaGreatRPlP
namespace Go.Proofs.YthncochjhbmceaaGreat
set_option maxRecDepth 100000
open Go.RowKit

/-- a record without times that are taken away, as it lies -/
structure RecF (w : World) (A B : Option Addr) (n p : Nat) (L : List NewQ) (P : List PntR) : Prop where
  news : Row w w.heap.size 2 A n (L.flatMap NewQ.cells)
  newsL : L.length = n
  labs : ∀ x ∈ L, Row w w.heap.size 2 x.lab.A x.lab.n (x.lab.l.flatMap Lbl.cells) ∧ x.lab.l.length = x.lab.n ∧ x.lab.n ≤ 8
  pts : Row w w.heap.size 3 B p (P.flatMap PntR.cells)
  ptsL : P.length = p
theorem RecF.on {w w' : World} {A B : Option Addr} {n p : Nat} {L : List NewQ} {P : List PntR} (h : RecF w A B n p L P) (hb : Below w.heap.size w w') : RecF w' A B n p L P :=
  ⟨(h.news.below hb).more hb.size, h.newsL, fun x hx => ⟨((h.labs x hx).1.below hb).more hb.size, (h.labs x hx).2⟩, (h.pts.below hb).more hb.size, h.ptsL⟩
set_option maxHeartbeats 6400000 in
theorem ralike_same (A B A' B' : Option Addr) (n p c1 c2 d1 d2 : Nat) (L L' : List NewQ) (P : List PntR) (w : World) (h : RecF w A B n p L P) (h' : RecF w A' B' n p L' P) (hLL : L.map nwV = L'.map nwV) (hn : n ≤ 2097152) (hp : p ≤ 2097152) :
    Calls Tryz.prog 38 #[.agg #[.slice A n c1, .slice B p c2, .slice none 0 0], .agg #[.slice A' n d1, .slice B' p d2, .slice none 0 0]] w fun e w' => e = .returned (.bool true) ∧ Below w.heap.size w w' := by
  have e1 : ((n : Int) != (n : Int)) = false := by simp
  have e2 : ((p : Int) != (p : Int)) = false := by simp
  have hB0 := (Whole1.new w 126 #[.slice A n c1, .slice B p c2, .slice none 0 0]).alloc (.cells #[.slice A' n d1, .slice B' p d2, .slice none 0 0] 126)
  have hB1 := Whole1.new (w.alloc (.cells #[.slice A n c1, .slice B p c2, .slice none 0 0] 126)) 126 #[.slice A' n d1, .slice B' p d2, .slice none 0 0]
  have hbW : Below w.heap.size w ((w.alloc (.cells #[.slice A n c1, .slice B p c2, .slice none 0 0] 126)).alloc (.cells #[.slice A' n d1, .slice B' p d2, .slice none 0 0] 126)) := ((Below.refl _ _).alloc (Nat.le_refl _) _).alloc (by simp [World.size_alloc]) _
  obtain ⟨w1, hw1⟩ : ∃ w1, (w.alloc (.cells #[.slice A n c1, .slice B p c2, .slice none 0 0] 126)).alloc (.cells #[.slice A' n d1, .slice B' p d2, .slice none 0 0] 126) = w1 := ⟨_, rfl⟩
  obtain ⟨C, hC⟩ : ∃ B, w.heap.size = B := ⟨_, rfl⟩
  rw [World.size_alloc] at hB1
  rw [hw1] at hB0 hB1 hbW
  have H1 := hidden (h.on hbW)
  have H1' := hidden (h'.on hbW)
  rw [hC] at hB0 hB1
  have HB0 := hidden hB0
  have HB1 := hidden hB1
  have HW1 := hidden hw1
  have HCC := hidden hC
  have HBW := hidden hbW
  have HLL := hidden hLL
  have a0 := hB0.cell 0
  have a1 := hB0.cell 1
  have a2 := hB0.cell 2
  have b0 := hB1.cell 0
  have b1 := hB1.cell 1
  have b2 := hB1.cell 2
  clear hB0 hB1 hw1 hC hbW h h' hLL
  go_enter Tryz.func38, Tryz.ntmps38
  go_upto_region 1 with (fail)
  rw [HW1.out, HCC.out]
  go_wp2_with fail
  go_loopw [5] (fun vi wr => ∃ k : Nat, k ≤ n ∧ vi = .int .i64 k ∧ ∃ q, wr = w1.drewN q) (fun vi _ => n - (intOf vi).toNat)
  case atStart => exact ⟨0, Nat.zero_le _, rfl, 0, rfl⟩
  case round =>
    obtain ⟨k, hkn, rfl, q, hwq⟩ := hrel
    have HQ := hidden hwq
    have HWQ := hidden (show Below w1.heap.size w1 wr by rw [hwq]; exact below_drewN (Below.refl _ _) q)
    have HX := hidden (H1.out.on HWQ.out)
    have HX' := hidden (H1'.out.on HWQ.out)
    have a0 := (HB0.out.below HWQ.out HB0.out.lt).cell 0
    have b0 := (HB1.out.below HWQ.out HB1.out.lt).cell 0
    have k0 : (0 : Int) ≤ (k : Int) := by omega
    clear hwq
    by_cases hlt : k < n
    · have k1 : (k : Int) < (n : Int) := by omega
      have fwk : IntKind.i64.wrap ((k : Int) + 1) = (k : Int) + 1 := Go.IntWalk.i64_in _ (by omega)
      obtain ⟨gs, o, x, rfl, _, hx, hcl⟩ := row_at newK HX.out.news HX.out.newsL k hlt
      obtain ⟨gt, p', y, rfl, _, hy, hdl⟩ := row_at newK HX'.out.news HX'.out.newsL k hlt
      have c0 : wr.cell? ⟨gs, o + k * 2, none⟩ = some (.int .i64 x.ref) := hcl 0 (by omega)
      have c1 : wr.cell? ⟨gs, o + k * 2 + 1, none⟩ = some (.slice x.lab.A x.lab.n x.lab.c) := hcl 1 (by omega)
      have d0 : wr.cell? ⟨gt, p' + k * 2, none⟩ = some (.int .i64 y.ref) := hdl 0 (by omega)
      have d1 : wr.cell? ⟨gt, p' + k * 2 + 1, none⟩ = some (.slice y.lab.A y.lab.n y.lab.c) := hdl 1 (by omega)
      obtain ⟨z1, z2, z3⟩ := HX.out.labs x (List.mem_of_getElem? hx)
      obtain ⟨y1, y2, y3⟩ := HX'.out.labs y (List.mem_of_getElem? hy)
      have hxy : nwV x = nwV y := by
        have := congrArg (fun z => z[k]?) HLL.out
        simp only [List.getElem?_map, hx, hy, Option.map_some, Option.some.injEq] at this
        exact this
      simp only [nwV, Prod.mk.injEq] at hxy
      have S2 : ∀ t, Calls Tryz.prog 54 #[.slice x.lab.A x.lab.n x.lab.c, .slice y.lab.A y.lab.n y.lab.c] (wr.drewN t) fun e w' => e = .returned (.int .i64 0) ∧ ∃ r, w' = (wr.drewN t).drewN r := fun t => by
        have := rcompare_any x.lab.A y.lab.A x.lab.n y.lab.n x.lab.c y.lab.c x.lab.l y.lab.l (wr.drewN t) wr.heap.size wr.heap.size (z1.drewN t) (y1.drewN t) z2 y2 (by omega)
        rw [(cmpLs_zero _ _).2 hxy.2] at this
        exact this
      have g1 : (x.ref != y.ref) = false := by simpa using hxy.1
      clear z1 z2 y1 y2 hcl hdl hx hy hxy
      go_upto_region 6 with (fail)
      go_quiet ((go_at_call 54; refine Calls.quiet_of (S2 _)))
      clear S2
      go_wp2_with fail
      go_quiet (fail)
      go_wp2_with fail
      go_roundw
      case rel => exact ⟨k + 1, by omega, by go_num, _, by rw [HQ.out, World.drewN_drewN]⟩
      case measure => simp only [intOf]; omega
    · obtain rfl : k = n := by omega
      go_wp2_with fail
      go_loopw [7] (fun vi wx => ∃ j : Nat, j ≤ p ∧ vi = .int .i64 j ∧ ∃ q, wx = w1.drewN q) (fun vi _ => p - (intOf vi).toNat)
      case atStart => exact ⟨0, Nat.zero_le _, rfl, _, HQ.out⟩
      case round =>
        obtain ⟨j, hjn, rfl, q, hwq⟩ := hrel
        have HQ := hidden hwq
        have HWQ := hidden (show Below w1.heap.size w1 wr by rw [hwq]; exact below_drewN (Below.refl _ _) q)
        have HX := hidden (H1.out.on HWQ.out)
        have HX' := hidden (H1'.out.on HWQ.out)
        have a0 := (HB0.out.below HWQ.out HB0.out.lt).cell 1
        have b0 := (HB1.out.below HWQ.out HB1.out.lt).cell 1
        have a2 := (HB0.out.below HWQ.out HB0.out.lt).cell 2
        have j0 : (0 : Int) ≤ (j : Int) := by omega
        clear hwq
        by_cases hlt : j < p
        · have j1 : (j : Int) < (p : Int) := by omega
          have fwj : IntKind.i64.wrap ((j : Int) + 1) = (j : Int) + 1 := Go.IntWalk.i64_in _ (by omega)
          obtain ⟨gs, o, x, rfl, _, hx, hcl⟩ := row_at pntK HX.out.pts HX.out.ptsL j hlt
          obtain ⟨gt, p', y, rfl, _, hy, hdl⟩ := row_at pntK HX'.out.pts HX'.out.ptsL j hlt
          obtain rfl : x = y := Option.some.inj (hx.symm.trans hy)
          have c0 : wr.cell? ⟨gs, o + j * 3, none⟩ = some (.int .i64 x.ref) := hcl 0 (by omega)
          have c1 : wr.cell? ⟨gs, o + j * 3 + 1, none⟩ = some (.int .i64 x.t) := hcl 1 (by omega)
          have c2 : wr.cell? ⟨gs, o + j * 3 + 2, none⟩ = some (.int .u64 (x.v : Int)) := hcl 2 (by omega)
          have d0 : wr.cell? ⟨gt, p' + j * 3, none⟩ = some (.int .i64 x.ref) := hdl 0 (by omega)
          have d1 : wr.cell? ⟨gt, p' + j * 3 + 1, none⟩ = some (.int .i64 x.t) := hdl 1 (by omega)
          have d2 : wr.cell? ⟨gt, p' + j * 3 + 2, none⟩ = some (.int .u64 (x.v : Int)) := hdl 2 (by omega)
          clear hcl hdl hx hy
          go_wp2_with fail
          go_quiet (fail)
          go_wp2_with fail
          go_roundw
          case rel => exact ⟨j + 1, by omega, by go_num, _, by rw [HQ.out, World.drewN_drewN]⟩
          case measure => simp only [intOf]; omega
        · obtain rfl : j = p := by omega
          go_wp2_with fail
          refine wp_loop_rounds 1 ?_
          rw [rounds_succ]
          go_wp2_with fail
          go_ret
          exact ⟨rfl, HBW.out.trans (HWQ.out.mono HBW.out.size)⟩
end Go.Proofs.YthncochjhbmceaaGreat
