/- The law's helper joined: how long its list is; groups as elements. Condition: the rows are within the reach. -/
import Derived.Test.YtohocdbneopooaaPlanPlans
namespace Go.Proofs.Ytohocdbneopooaa
set_option maxRecDepth 100000
open Go.Shelf Go.RowKit Go.Lib Go.Sort Go.WideShapes Go.ChangeShapes

/-- is its ID among these? -/
def inG (g : List Int) (x : Inf) : Bool := g.any fun z => z == x.id
theorem inG_take (g : List Int) (x : Inf) (j : Nat) (z : Int) (hz : g[j]? = some z) : inG (g.take (j + 1)) x = (inG (g.take j) x || (z == x.id)) := by
  unfold inG
  rw [take_snoc? hz, List.any_append]
  simp
/-- how many are in -/
def cntG (g : List Int) (l : List Inf) : Nat := (l.filter (inG g)).length
theorem cntG_snoc (g : List Int) (l : List Inf) (x : Inf) : cntG g (l ++ [x]) = cntG g l + if inG g x = true then 1 else 0 := by
  unfold cntG
  rw [List.filter_append, List.length_append]
  by_cases h : inG g x = true <;> simp [h]

set_option maxHeartbeats 6400000 in
theorem joined_any (A : Option Addr) (n c : Nat) (l : List Inf) (B : Option Addr) (m cb : Nat) (g : List Int) (w : World) (hr : Row w w.heap.size 5 A n (infCells l)) (hl : l.length = n) (hn : n * 40 ≤ 140737488351232) (hg : Row w w.heap.size 1 B m (g.flatMap intc)) (hgl : g.length = m) (hm : m ≤ 1000000000000000) :
    Calls Try.prog 39 #[.slice A n c, .slice B m cb] w
      fun e w' => ∃ v O, e = .returned v ∧ w'.ownsRow w.heap.size 71 5 v O.length (infCells O) ∧ O.length + cntG g l ≤ n + 1 ∧ RowKit.Below w.heap.size w w' := by
  obtain ⟨i0, hi, hz0, hz1, hz2⟩ := info_parts info_inf
  have hL := hidden hl
  have HR := hidden hr
  have HG := hidden hg
  have HGL := hidden hgl
  clear hl hr hg hgl
  go_enter Try.func39, Try.ntmps39
  go_wp2
  have hX0 := Whole1.new w 71 #[.int .i64 0, .int .i64 0, .int .i64 0, .int .i64 0, .int .i64 0]
  have hB0 := (RowKit.Below.refl w.heap.size w).alloc (Nat.le_refl _) (.cells #[.int .i64 0, .int .i64 0, .int .i64 0, .int .i64 0, .int .i64 0] 71)
  have hsz0 : w.heap.size + 1 ≤ (w.alloc (.cells #[.int .i64 0, .int .i64 0, .int .i64 0, .int .i64 0, .int .i64 0] 71)).heap.size := by simp
  generalize w.alloc (.cells #[.int .i64 0, .int .i64 0, .int .i64 0, .int .i64 0, .int .i64 0] 71) = w0 at hX0 hB0 hsz0 ⊢
  go_loopw [5, 7, 15] (fun v vb vi wr => ∃ (k : Nat) (O : List Inf) (vo : Value) (b : Bool) (one : Inf), vo = v ∧ vb = .bool b ∧ vi = .int .i64 k ∧ k ≤ n ∧ wr.ownsRow (w.heap.size + 1) 71 5 v O.length (infCells O) ∧ Whole1 wr w.heap.size 71 #[.int .i64 one.id, .int .i64 one.res, .int .i64 one.frm, .int .i64 one.til, .int .i64 one.byt] ∧ Hid (O.length + cntG g (l.take k) = k) ∧ O.length ≤ k ∧ RowKit.Below w.heap.size w wr ∧ w.heap.size + 1 ≤ wr.heap.size) (fun _ _ vi _ => n - (intOf vi).toNat)
  case atStart => exact ⟨0, [], _, false, ⟨0, 0, 0, 0, 0⟩, rfl, rfl, rfl, Nat.zero_le _, World.ownsRow_nil _ _ _ _, hX0, hidden rfl, Nat.le_refl _, hB0, hsz0⟩
  case round =>
    obtain ⟨k, O, vo, b, one, rfl, rfl, rfl, hk, hown, hone, hcnt, hOk, hb, hsz⟩ := hrel
    by_cases hlt : k < n
    · obtain ⟨wo, rfl⟩ : ∃ wo : World, wo = wr := ⟨_, rfl⟩
      obtain ⟨gs, o, hA, hgs, x, hx, d0, d1, d2, d3, d4⟩ := inf_cells_at HR.out hL.out hb k hlt
      subst hA
      have hT := hidden (take_snoc? hx)
      have hcs := hidden (cntG_snoc g (l.take k) x)
      have hkz : (k : Int) < (n : Int) := by omega
      have hk0 : (0 : Int) ≤ (k : Int) := by omega
      have HONE := hidden hone
      clear hx hone
      go_wp2_with fail
      have hXI := Whole1.new wo 71 #[.int .i64 x.id, .int .i64 x.res, .int .i64 x.frm, .int .i64 x.til, .int .i64 x.byt]
      have hBI := hb.alloc hb.size (.cells #[.int .i64 x.id, .int .i64 x.res, .int .i64 x.frm, .int .i64 x.til, .int .i64 x.byt] 71)
      have hOI := hown.alloc (.cells #[.int .i64 x.id, .int .i64 x.res, .int .i64 x.frm, .int .i64 x.til, .int .i64 x.byt] 71)
      have h1I := HONE.out.alloc (.cells #[.int .i64 x.id, .int .i64 x.res, .int .i64 x.frm, .int .i64 x.til, .int .i64 x.byt] 71)
      have hsI : w.heap.size + 1 ≤ (wo.alloc (.cells #[.int .i64 x.id, .int .i64 x.res, .int .i64 x.frm, .int .i64 x.til, .int .i64 x.byt] 71)).heap.size := by simp; omega
      generalize wo.alloc (.cells #[.int .i64 x.id, .int .i64 x.res, .int .i64 x.frm, .int .i64 x.til, .int .i64 x.byt] 71) = wI at hXI hBI hOI h1I hsI ⊢
      obtain ⟨X, hX⟩ : ∃ X, wo.heap.size = X := ⟨_, rfl⟩
      rw [hX] at hXI ⊢
      have hXl : w.heap.size + 1 ≤ X := by omega
      have hXIl := hXI.lt
      have x0 : wI.cell? ⟨X, 0, none⟩ = some (.int .i64 x.id) := hXI.cell 0
      have HXI := hidden hXI
      have H1I := hidden h1I
      have HOI := hidden hOI
      have hbI := hidden hBI
      clear hX hXI h1I hOI hBI hown hb HONE d0 d1 d2 d3 d4
      go_loop [10, 21] (fun vb vi => ∃ j : Nat, j ≤ m ∧ vi = .int .i64 j ∧ vb = .bool (inG (g.take j) x)) (fun _ vi => m - (intOf vi).toNat)
      case atStart => exact ⟨0, Nat.zero_le _, rfl, rfl⟩
      case round =>
        obtain ⟨j, hj, rfl, rfl⟩ := hrel
        by_cases hjl : j < m
        · obtain ⟨g7, o7, z, rfl, hz, e0⟩ := int_cell ((HG.out.below hbI.out).more hbI.out.size) HGL.out j hjl
          have hit := hidden (inG_take g x j z hz)
          have hjz : (j : Int) < (m : Int) := by omega
          have hj0 : (0 : Int) ≤ (j : Int) := by omega
          clear hz
          obtain ⟨b1, hb1⟩ : ∃ b1, inG (g.take j) x = b1 := ⟨_, rfl⟩
          rw [hb1]
          have HB1 := hidden hb1
          clear hb1
          cases b1 with
          | true =>
            go_wp2
            go_round
            case rel => exact ⟨j + 1, by omega, by go_num, by rw [hit.out, HB1.out]; rfl⟩
            case measure => simp [intOf]; omega
          | false =>
            go_wp2
            go_round
            case rel => exact ⟨j + 1, by omega, by go_num, by rw [hit.out, HB1.out]; rfl⟩
            case measure => simp [intOf]; omega
        · obtain rfl : j = m := by omega
          rw [List.take_of_length_le (by rw [HGL.out]; exact Nat.le_refl _)]
          obtain ⟨b1, hb1⟩ : ∃ b1, inG g x = b1 := ⟨_, rfl⟩
          rw [hb1]
          have HB1 := hidden hb1
          have hjz : ¬ (j : Int) < (j : Int) := by omega
          clear hb1
          cases b1 with
          | false =>
            have hfr := Row.fresh wI 71 5 1 [.int .i64 x.id, .int .i64 x.res, .int .i64 x.frm, .int .i64 x.til, .int .i64 x.byt] rfl
            have hXI := HXI.out
            have x1 : wI.cell? ⟨X, 1, none⟩ = some (.int .i64 x.res) := hXI.cell 1
            have x2 : wI.cell? ⟨X, 2, none⟩ = some (.int .i64 x.frm) := hXI.cell 2
            have x3 : wI.cell? ⟨X, 3, none⟩ = some (.int .i64 x.til) := hXI.cell 3
            have x4 : wI.cell? ⟨X, 4, none⟩ = some (.int .i64 x.byt) := hXI.cell 4
            have hOI := HOI.out
            have hcs2 := hcs.out
            rw [HB1.out, if_neg (by decide), ← hT.out] at hcs2
            have HCS := hidden hcs2
            clear hXI hcs2
            go_wp2_with (at_builtin; refine wpList_app _ rfl _ _ 67 rfl (w.heap.size + 1) 71 i0 _ 5 40 Try.underlying67 hi hz0 hz1 hz2 rfl (by decide) _ _ _ rfl (hOI.alloc _) _ _ _ _ _ rfl hfr (by simp [Value.oneCell']) (by unfold maxLen; omega) (by omega) (by simp; omega) ?_; intro v1 w1 hown1 hg1 hat1)
            go_roundw
            case rel =>
              have hg1s := hg1.size
              rw [World.size_alloc] at hg1s
              refine ⟨k + 1, O ++ [x], v1, b, one, rfl, rfl, by go_num, by omega, ?_, (H1I.out.alloc _).grown hg1 (own_ne hOI (by omega)), ?_, by simp; omega, (hbI.out.alloc hbI.out.size _).grown hg1 (by have := hbI.out.size; simp; omega) (fun q hq => by have := (hOI.lt q hq).1; omega), by omega⟩
              · rw [List.length_append, List.length_singleton, infCells_snoc]; exact hown1
              · rw [Hid, HCS.out, List.length_append, List.length_singleton]; have := hcnt.out; omega
            case measure => simp [intOf]; omega
          | true =>
            cases b with
            | false =>
              have hXI := HXI.out
              have x1 : wI.cell? ⟨X, 1, none⟩ = some (.int .i64 x.res) := hXI.cell 1
              have x2 : wI.cell? ⟨X, 2, none⟩ = some (.int .i64 x.frm) := hXI.cell 2
              have x3 : wI.cell? ⟨X, 3, none⟩ = some (.int .i64 x.til) := hXI.cell 3
              have x4 : wI.cell? ⟨X, 4, none⟩ = some (.int .i64 x.byt) := hXI.cell 4
              have h1I := H1I.out
              have z0 := h1I.free 0
              have z1 := h1I.free 1
              have z2 := h1I.free 2
              have z3 := h1I.free 3
              have z4 := h1I.free 4
              have y0 : wI.cell? ⟨w.heap.size, 0, none⟩ = some (.int .i64 one.id) := h1I.cell 0
              have y1 : wI.cell? ⟨w.heap.size, 1, none⟩ = some (.int .i64 one.res) := h1I.cell 1
              have y2 : wI.cell? ⟨w.heap.size, 2, none⟩ = some (.int .i64 one.frm) := h1I.cell 2
              have y3 : wI.cell? ⟨w.heap.size, 3, none⟩ = some (.int .i64 one.til) := h1I.cell 3
              have y4 : wI.cell? ⟨w.heap.size, 4, none⟩ = some (.int .i64 one.byt) := h1I.cell 4
              have hcs2 := hcs.out
              rw [HB1.out, if_pos rfl, ← hT.out] at hcs2
              have HCS := hidden hcs2
              clear hXI h1I hcs2
              go_upto_region 17 with (fail)
              clear x0 x1 x2 x3 x4 y0 y1 y2 y3 y4 z0 z1 z2 z3 z4
              have hXJ := put5_off HXI.out (g := w.heap.size) (by omega) 0 x
              have h1J := put5_whole (LL := [one]) (rest := []) (i := 0) H1I.out (by simp) x
              have hOJ := HOI.out.kept (gb_put (gb_put (gb_put (gb_put (gb_put (gb_refl wI (some w.heap.size)) 0 (.int .i64 x.id)) 1 (.int .i64 x.res)) 2 (.int .i64 x.frm)) 3 (.int .i64 x.til)) 4 (.int .i64 x.byt)) (.inr (fun e => own_ne HOI.out (Nat.lt_succ_self _) e.symm))
              have hBJ := put5_below hbI.out (Nat.le_refl _) 0 x
              have hsJ : w.heap.size + 1 ≤ (put5 wI w.heap.size 0 x).heap.size := by rw [put5_size]; exact hsI
              change Code.wp _ _ _ _ (put5 wI w.heap.size 0 x)
              change World.ownsRow (put5 wI w.heap.size 0 x) _ _ _ _ _ _ at hOJ
              change Whole1 (put5 wI w.heap.size 0 x) w.heap.size _ #[.int .i64 x.id, .int .i64 x.res, .int .i64 x.frm, .int .i64 x.til, .int .i64 x.byt] at h1J
              generalize put5 wI w.heap.size 0 x = wJ at hXJ h1J hOJ hBJ hsJ ⊢
              have hXJ2 : wJ.cell? ⟨X, 2, none⟩ = some (.int .i64 x.frm) := hXJ.cell 2
              have hXJ3 : wJ.cell? ⟨X, 3, none⟩ = some (.int .i64 x.til) := hXJ.cell 3
              have y2 : wJ.cell? ⟨w.heap.size, 2, none⟩ = some (.int .i64 x.frm) := h1J.cell 2
              have y3 : wJ.cell? ⟨w.heap.size, 3, none⟩ = some (.int .i64 x.til) := h1J.cell 3
              have z2 := h1J.free 2
              have z3 := h1J.free 3
              have hHJ := h1J.lt
              have hXne : X ≠ w.heap.size := by omega
              have H1J := hidden h1J
              clear hXJ h1J
              go_cut [] (fun wx => ∃ one3 : Inf, Whole1 wx w.heap.size 71 #[.int .i64 one3.id, .int .i64 one3.res, .int .i64 one3.frm, .int .i64 one3.til, .int .i64 one3.byt] ∧ wJ.grownBy wx (some w.heap.size))
              case first =>
                go_region
                go_wp2_with fail
                go_meet
                exact ⟨⟨x.id, x.res, x.frm, x.til, x.byt⟩, ((H1J.out.put 2 _).put 3 _).drew, gb_drew (gb_put (gb_put (gb_refl _ _) _ _) _ _)⟩
              case rest =>
                obtain ⟨one3, h3, hg3⟩ := hcut
                have hB3 := below_gb hBJ hg3 hBJ.size (Nat.le_refl _)
                have hs3 := hg3.size
                have hO3 := hOJ.kept hg3 (.inr (fun e => own_ne hOJ (Nat.lt_succ_self _) e.symm))
                go_wp2_with fail
                go_roundw
                case rel => exact ⟨k + 1, O, vo, true, one3, rfl, rfl, by go_num, by omega, hO3, h3, hidden (by rw [HCS.out]; have := hcnt.out; omega), by omega, hB3, by omega⟩
                case measure => simp [intOf]; omega
            | true =>
              have hXI := HXI.out
              have x1 : wI.cell? ⟨X, 1, none⟩ = some (.int .i64 x.res) := hXI.cell 1
              have x2 : wI.cell? ⟨X, 2, none⟩ = some (.int .i64 x.frm) := hXI.cell 2
              have x3 : wI.cell? ⟨X, 3, none⟩ = some (.int .i64 x.til) := hXI.cell 3
              have x4 : wI.cell? ⟨X, 4, none⟩ = some (.int .i64 x.byt) := hXI.cell 4
              have h1I := H1I.out
              have z0 := h1I.free 0
              have z1 := h1I.free 1
              have z2 := h1I.free 2
              have z3 := h1I.free 3
              have z4 := h1I.free 4
              have y0 : wI.cell? ⟨w.heap.size, 0, none⟩ = some (.int .i64 one.id) := h1I.cell 0
              have y1 : wI.cell? ⟨w.heap.size, 1, none⟩ = some (.int .i64 one.res) := h1I.cell 1
              have y2 : wI.cell? ⟨w.heap.size, 2, none⟩ = some (.int .i64 one.frm) := h1I.cell 2
              have y3 : wI.cell? ⟨w.heap.size, 3, none⟩ = some (.int .i64 one.til) := h1I.cell 3
              have y4 : wI.cell? ⟨w.heap.size, 4, none⟩ = some (.int .i64 one.byt) := h1I.cell 4
              have hcs2 := hcs.out
              rw [HB1.out, if_pos rfl, ← hT.out] at hcs2
              have HCS := hidden hcs2
              clear hXI h1I hcs2
              go_upto_region 17 with (fail)
              clear x0 x1 x2 x3 x4 y0 y1 y2 y3 y4 z0 z1 z2 z3 z4
              obtain ⟨wJ, rfl⟩ : ∃ wJ : World, wJ = wI := ⟨_, rfl⟩
              obtain ⟨one2, rfl⟩ : ∃ one2 : Inf, one2 = one := ⟨_, rfl⟩
              have hXJ := HXI.out
              have h1J := H1I.out
              have hOJ := HOI.out
              have hBJ := hbI.out
              have hXJ2 : wJ.cell? ⟨X, 2, none⟩ = some (.int .i64 x.frm) := hXJ.cell 2
              have hXJ3 : wJ.cell? ⟨X, 3, none⟩ = some (.int .i64 x.til) := hXJ.cell 3
              have y2 : wJ.cell? ⟨w.heap.size, 2, none⟩ = some (.int .i64 one2.frm) := h1J.cell 2
              have y3 : wJ.cell? ⟨w.heap.size, 3, none⟩ = some (.int .i64 one2.til) := h1J.cell 3
              have z2 := h1J.free 2
              have z3 := h1J.free 3
              have hHJ := h1J.lt
              have hXne : X ≠ w.heap.size := by omega
              have H1J := hidden h1J
              clear hXJ h1J
              go_cut [] (fun wx => ∃ one3 : Inf, Whole1 wx w.heap.size 71 #[.int .i64 one3.id, .int .i64 one3.res, .int .i64 one3.frm, .int .i64 one3.til, .int .i64 one3.byt] ∧ wJ.grownBy wx (some w.heap.size))
              case first =>
                go_region
                go_wp2_with fail
                go_meet
                exact ⟨⟨one2.id, one2.res, min one2.frm x.frm, max one2.til x.til, one2.byt⟩, ((H1J.out.put 2 _).put 3 _).drew, gb_drew (gb_put (gb_put (gb_refl _ _) _ _) _ _)⟩
              case rest =>
                obtain ⟨one3, h3, hg3⟩ := hcut
                have hB3 := below_gb hBJ hg3 hBJ.size (Nat.le_refl _)
                have hs3 := hg3.size
                have hO3 := hOJ.kept hg3 (.inr (fun e => own_ne hOJ (Nat.lt_succ_self _) e.symm))
                go_wp2_with fail
                go_roundw
                case rel => exact ⟨k + 1, O, vo, true, one3, rfl, rfl, by go_num, by omega, hO3, h3, hidden (by rw [HCS.out]; have := hcnt.out; omega), by omega, hB3, by omega⟩
                case measure => simp [intOf]; omega
    · obtain rfl : k = n := by omega
      have hkz : ¬ (k : Int) < (k : Int) := by omega
      have hcnt2 := hcnt.out
      rw [List.take_of_length_le (by rw [hL.out]; exact Nat.le_refl _)] at hcnt2
      have HCNT := hidden hcnt2
      clear hcnt2 hcnt
      cases b with
      | false =>
        go_wp2_with fail
        go_ret
        exact ⟨_, rfl, O, own_mono hown (by omega), by have := HCNT.out; omega, hb⟩
      | true =>
        have q0 : wr.cell? ⟨w.heap.size, 0, none⟩ = some (.int .i64 one.id) := hone.cell 0
        have q1 : wr.cell? ⟨w.heap.size, 1, none⟩ = some (.int .i64 one.res) := hone.cell 1
        have q2 : wr.cell? ⟨w.heap.size, 2, none⟩ = some (.int .i64 one.frm) := hone.cell 2
        have q3 : wr.cell? ⟨w.heap.size, 3, none⟩ = some (.int .i64 one.til) := hone.cell 3
        have q4 : wr.cell? ⟨w.heap.size, 4, none⟩ = some (.int .i64 one.byt) := hone.cell 4
        have hfr := Row.fresh wr 71 5 1 [.int .i64 one.id, .int .i64 one.res, .int .i64 one.frm, .int .i64 one.til, .int .i64 one.byt] rfl
        go_wp2_with (at_builtin; refine wpList_app _ rfl _ _ 67 rfl (w.heap.size + 1) 71 i0 _ 5 40 Try.underlying67 hi hz0 hz1 hz2 rfl (by decide) _ _ _ rfl (hown.alloc _) _ _ _ _ _ rfl hfr (by simp [Value.oneCell']) (by unfold maxLen; omega) (by omega) (by simp; omega) ?_; intro v1 w1 hown1 hg1 hat1)
        go_ret
        refine ⟨_, rfl, O ++ [one], own_mono (?_ : w1.ownsRow (w.heap.size + 1) _ _ _ _ _) (by omega), by have := HCNT.out; simp; omega, (hb.alloc hb.size _).grown hg1 (by have := hb.size; simp; omega) (fun q hq => by have := (hown.lt q hq).1; omega)⟩
        rw [List.length_append, List.length_singleton, infCells_snoc]; exact hown1

/-! groups, as elements -/
theorem chainsF_E : ∀ (f : Nat) (l : List Inf), ∃ EE : List (List Inf), chainsF f l = EE.map (List.map Inf.id) ∧ EE.flatten.Sublist l ∧ ∀ E ∈ EE, 2 ≤ E.length
  | 0, l => ⟨[], rfl, List.nil_sublist _, by simp⟩
  | f + 1, [] => ⟨[], rfl, List.nil_sublist _, by simp⟩
  | f + 1, x :: r => by
    obtain ⟨EE, h1, h2, h3⟩ := chainsF_E f ((x :: r).drop (1 + spanGo x.til r))
    rw [chainsF, h1]
    split
    · refine ⟨(x :: r).take (1 + spanGo x.til r) :: EE, rfl, ?_, ?_⟩
      · rw [List.flatten_cons]
        have := (List.Sublist.refl ((x :: r).take (1 + spanGo x.til r))).append h2
        rwa [List.take_append_drop] at this
      · intro E hE
        rcases List.mem_cons.1 hE with rfl | hE
        · have := spanGo_le x.til r
          rw [List.length_take, List.length_cons]
          omega
        · exact h3 E hE
    · exact ⟨EE, rfl, h2.trans (List.drop_sublist _ _), h3⟩
theorem rowsF_E (fan : Nat) (hf : 2 ≤ fan) : ∀ (f : Nat) (l : List Inf), ∃ EE : List (List Inf), rowsF fan f l = EE.map (List.map Inf.id) ∧ EE.flatten.Sublist l ∧ ∀ E ∈ EE, 2 ≤ E.length
  | 0, l => ⟨[], rfl, List.nil_sublist _, by simp⟩
  | f + 1, [] => ⟨[], rfl, List.nil_sublist _, by simp⟩
  | f + 1, x :: r => by
    rw [rowsF]
    split
    · rename_i hok
      obtain ⟨EE, h1, h2, h3⟩ := rowsF_E fan hf f ((x :: r).drop fan)
      refine ⟨(x :: r).take fan :: EE, by rw [h1]; rfl, ?_, ?_⟩
      · rw [List.flatten_cons]
        have := (List.Sublist.refl ((x :: r).take fan)).append h2
        rwa [List.take_append_drop] at this
      · intro E hE
        rcases List.mem_cons.1 hE with rfl | hE
        · unfold rowOk at hok
          rw [Bool.and_eq_true] at hok
          have := of_decide_eq_true hok.1
          rw [List.length_take]
          omega
        · exact h3 E hE
    · obtain ⟨EE, h1, h2, h3⟩ := rowsF_E fan hf f ((x :: r).drop 1)
      exact ⟨EE, h1, h2.trans (List.drop_sublist _ _), h3⟩
theorem groupsAt_E (fan : Int) (l : List Inf) : ∃ EE : List (List Inf), groupsAt fan l = EE.map (List.map Inf.id) ∧ EE.flatten.Sublist l ∧ ∀ E ∈ EE, 2 ≤ E.length := by
  unfold groupsAt rowsP
  split
  · split
    · exact rowsF_E _ (by omega) _ _
    · exact ⟨[], rfl, List.nil_sublist _, by simp⟩
  · exact chainsF_E _ _
theorem mem_planI {fan : Int} {l : List Inf} {g : List Int} (h : g ∈ planI fan l) : ∃ (r : Nat) (E : List Inf), g = E.map Inf.id ∧ 2 ≤ E.length ∧ E.Sublist (sortedI (sift (r : Nat) l)) := by
  unfold planI at h
  rw [List.mem_flatMap] at h
  obtain ⟨r, _, h⟩ := h
  obtain ⟨EE, h1, h2, h3⟩ := groupsAt_E fan (sortedI (sift (r : Nat) l))
  rw [h1, List.mem_map] at h
  obtain ⟨E, hE, rfl⟩ := h
  exact ⟨r, E, rfl, h3 E hE, (List.sublist_flatten_of_mem hE).trans h2⟩
theorem cntG_two {fan : Int} {l : List Inf} {g : List Int} (h : g ∈ planI fan l) : 2 ≤ cntG g l := by
  obtain ⟨r, E, rfl, h2, h3⟩ := mem_planI h
  have e1 : E.filter (inG (E.map Inf.id)) = E := by
    rw [List.filter_eq_self]
    intro x hx
    unfold inG
    rw [List.any_eq_true]
    exact ⟨x.id, List.mem_map_of_mem hx, by simp⟩
  have e2 := (h3.filter (inG (E.map Inf.id))).length_le
  rw [e1] at e2
  have e3 := ((keys_sorted (sift (r : Nat) l)).2.2.filter (inG (E.map Inf.id))).length_eq
  have e4 : ((sift (r : Nat) l).filter (inG (E.map Inf.id))).length ≤ (l.filter (inG (E.map Inf.id))).length := ((List.filter_sublist (p := fun x => x.res == ((r : Nat) : Int)) (l := l)).filter _).length_le
  unfold cntG
  omega

/-- each with its place for an ID -/
def reId (l : List Inf) : List Inf := l.mapIdx fun i x => { x with id := (i : Int) }
theorem reId_snoc (l : List Inf) (x : Inf) : reId (l ++ [x]) = reId l ++ [{ x with id := (l.length : Int) }] := by
  unfold reId
  rw [List.mapIdx_append]
  simp
theorem reId_len (l : List Inf) : (reId l).length = l.length := by simp [reId]
theorem reId_nil : reId [] = [] := rfl

end Go.Proofs.Ytohocdbneopooaa
