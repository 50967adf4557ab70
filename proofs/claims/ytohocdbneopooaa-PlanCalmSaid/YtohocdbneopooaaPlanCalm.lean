/- PlanCalm: made one group by group, blocks come to a state where nothing is to be done. No condition. -/
import Derived.Test.YtohocdbneopooaaPlanJoin
namespace Go.Proofs.Ytohocdbneopooaa
set_option maxRecDepth 100000
open Go.Shelf Go.RowKit Go.Lib Go.Sort Go.WideShapes Go.ChangeShapes

set_option maxHeartbeats 6400000 in
theorem planCalm_any (fan : Int) (A : Option Addr) (n c : Nat) (l : List Inf) (w : World) (hr : Row w w.heap.size 5 A n (infCells l)) (hl : l.length = n) (hn : n * 40 ≤ 140737488351232) (hf : fan ≤ 9223372036854775807) :
    Calls Try.prog 13 #[.int .i64 fan, .slice A n c] w fun e w' => e = .returned (.bool true) ∧ RowKit.Below w.heap.size w w' := by
  obtain ⟨i0, hi, hz0, hz1, hz2⟩ := info_parts info_inf
  have hL := hidden hl
  have HR := hidden hr
  clear hl hr
  go_enter Try.func13, Try.ntmps13
  go_wp2_with fail
  refine (planWakes_any _).mono ?_
  rintro e w0 ⟨rfl, hb0⟩
  go_wp2_with fail
  go_loopw [5, 14] (fun v vi wr => ∃ (k : Nat) (vo : Value), vo = v ∧ vi = .int .i64 k ∧ k ≤ n ∧ wr.ownsRow w.heap.size 71 5 v k (infCells (reId (l.take k))) ∧ RowKit.Below w.heap.size w wr) (fun _ vi _ => n - (intOf vi).toNat)
  case atStart => exact ⟨0, _, rfl, rfl, Nat.zero_le _, World.ownsRow_nil _ _ _ _, hb0⟩
  case round =>
    obtain ⟨k, vo, rfl, rfl, hk, hown, hb⟩ := hrel
    by_cases hlt : k < n
    · obtain ⟨gs, o, hA, hgs, x, hx, d0, d1, d2, d3, d4⟩ := inf_cells_at HR.out hL.out hb k hlt
      subst hA
      have hT := hidden (take_snoc? hx)
      have hTl := hidden (show (l.take k).length = k by rw [List.length_take, hL.out]; omega)
      have hkz : (k : Int) < (n : Int) := by omega
      have hk0 : (0 : Int) ≤ (k : Int) := by omega
      have hbs := hb.size
      have hfr := Row.fresh (wr.alloc (.cells #[.int .i64 k, .int .i64 x.res, .int .i64 x.frm, .int .i64 x.til, .int .i64 x.byt] 71)) 71 5 1 [.int .i64 k, .int .i64 x.res, .int .i64 x.frm, .int .i64 x.til, .int .i64 x.byt] rfl
      rw [World.size_alloc] at hfr
      clear hx
      go_wp2_with (at_builtin; refine wpList_app _ rfl _ _ 67 rfl w.heap.size 71 i0 _ 5 40 Try.underlying67 hi hz0 hz1 hz2 rfl (by decide) _ _ _ rfl ((hown.alloc _).alloc _) _ _ _ _ _ rfl hfr (by simp [Value.oneCell']) (by unfold maxLen; omega) (by omega) (by simp; omega) ?_; intro v1 w1 hown1 hg1 hat1)
      go_roundw
      case rel =>
        refine ⟨k + 1, v1, rfl, by go_num, by omega, ?_, ((hb.alloc hbs _).alloc (by simp; omega) _).grown hg1 (by simp; omega) (fun q hq => (hown.lt q hq).1)⟩
        rw [hT.out, reId_snoc, hTl.out, infCells_snoc]; exact hown1
      case measure => simp [intOf]; omega
    · obtain rfl : k = n := by omega
      rw [List.take_of_length_le (by rw [hL.out]; exact Nat.le_refl _)] at hown
      have hkz : ¬ (k : Int) < (k : Int) := by omega
      have hrl := reId_len l
      rw [hL.out] at hrl
      have HRL := hidden hrl
      have hnw : IntKind.i64.wrap ((k : Int) + 1) = (k : Int) + 1 := by rw [IntKind.wrap_i64]; omega
      clear hrl hnw
      go_wp2_with fail
      go_loopw [5, 29] (fun v vt wx => ∃ (t : Nat) (O : List Inf) (vo : Value), vo = v ∧ vt = .int .i64 t ∧ O.length + t ≤ k ∧ wx.ownsRow w.heap.size 71 5 v O.length (infCells O) ∧ RowKit.Below w.heap.size w wx) (fun _ vt _ => k + 1 - (intOf vt).toNat)
      case atStart => exact ⟨0, reId l, _, rfl, rfl, by rw [HRL.out]; omega, by rw [HRL.out]; exact hown, hb⟩
      case round =>
        obtain ⟨t, O, vo, rfl, rfl, hOt, hownO, hbO⟩ := hrel
        have htz : (t : Int) < (k : Int) + 1 := by omega
        obtain ⟨A5, c5, rfl, hc5, hr5⟩ := own_shape hownO
        have HOW := hidden hownO
        clear hownO
        go_wp2_with fail
        refine (plan_any fan A5 O.length c5 O _ hr5 rfl (by omega) hf).mono ?_
        rintro e w2 ⟨v2, S2, rfl, hL2, hb2⟩
        have hB2 := hbO.trans (hb2.mono hbO.size)
        have hr2 := (hr5.below hb2).more hb2.size
        obtain ⟨A6, c6, rfl, hc6, hr6⟩ := own_shape hL2.1
        by_cases hG : planI fan O = []
        · have t0 : ((((planI fan O).length : Nat) : Int) == 0) = true := by rw [hG]; rfl
          clear hL2 hr6
          go_wp2_with fail
          go_ret
          exact ⟨rfl, hB2⟩
        · obtain ⟨g0, G', hGc⟩ : ∃ g0 G', planI fan O = g0 :: G' := List.exists_cons_of_ne_nil hG
          have hpos : 0 < (planI fan O).length := by rw [hGc]; simp
          have t0 : ((((planI fan O).length : Nat) : Int) == 0) = false := by simp; omega
          have hcnt := cntG_two (fan := fan) (l := O) (g := g0) (by rw [hGc]; exact List.mem_cons_self ..)
          have hin := planI_inner fan O g0 (by rw [hGc]; exact List.mem_cons_self ..)
          obtain ⟨g6, o6, s, rfl, hg6, hs6, c6c⟩ := ll_cell hr6 0 hpos
          have hsl : s.l = g0 := by
            have h1 : (S2.map Sl.l)[0]? = some g0 := by rw [hL2.2.1, hGc]; rfl
            rw [List.getElem?_map, hs6] at h1
            simpa using h1
          obtain ⟨_, hsn, hsr⟩ := hL2.2.2.1 s (List.mem_of_getElem? hs6)
          obtain ⟨sA, sn, sc, sl⟩ := s
          simp only [Sl.val] at hsl hsn hsr c6c
          subst hsl
          obtain ⟨m, hm⟩ : ∃ m, (planI fan O).length = m := ⟨_, rfl⟩
          rw [hm] at hpos t0 hc6 ⊢
          have hmz : (0 : Int) < (m : Int) := by omega
          have HS := hidden hsr
          have HR2 := hidden hr2
          have HCN := hidden hcnt
          rw [Nat.add_zero] at c6c
          clear hL2 hr6 hG hGc hm hs6 hsr hr2 hr5 hcnt HOW hb2
          go_wp2_with fail
          refine (joined_any A5 O.length c5 O sA sn sc sl w2 HR2.out rfl (by omega) HS.out hsn (by omega)).mono ?_
          rintro e w3 ⟨v3, O3, rfl, ho3, hO3, hb3⟩
          have hB3 := hB2.trans (hb3.mono hB2.size)
          have hlt3 : O3.length + 1 ≤ O.length := by have := HCN.out; omega
          obtain ⟨A7, c7, rfl, hc7, _⟩ := own_shape ho3
          have hltz : ¬ (O.length : Int) ≤ (O3.length : Int) := by omega
          have HO3 := hidden (own_mono ho3 (base' := w.heap.size) (Nat.le_trans hB2.size (Nat.le_refl _)))
          clear ho3 hb3
          go_wp2_with fail
          go_roundw
          case rel => exact ⟨t + 1, O3, _, rfl, by go_num, by omega, HO3.out, hB3⟩
          case measure => simp [intOf]; omega

theorem planCalm_walk {H : Type} (enc : TypeId × Value → H) : LawWalk enc Try.prog 13 Try.f13 (fun _ => True) :=
  planLaw_walk Try.params13 (fun fan A n c l w hr hl _ hn _ hf => planCalm_any fan A n c l w hr hl hn hf) enc

namespace planCalm
set_option maxRecDepth 100000 in
theorem lifted (os : Os) (started : os.Started) (H : Type) (enc : TypeId × Value → H) :
    ReturnsInHanded {} Try.checked os 13 .any (Rows.planCalmSpec.pre6 enc Try.prog Try.f13 Rows.planCalmRow.domain false) (Rows.planCalmSpec.post enc Try.prog Try.f13 false true false false) :=
  law_said (C := Try.checked) (s := Rows.planCalmSpec) (tb := 4) own_prog started (by kernel_rfl) Try.func13
    (ChangeSpec.witness6 (enc := enc) (C := Try.checked) false ⟨#[], #[.int .i64 0, .slice none 0 0], []⟩ 8 (by kernel_rfl) (by kernel_rfl) (by kernel_rfl) (by kernel_rfl))
    laidOut (by kernel_rfl) rfl Try.underlying4 ⟨rfl, fun H ds h => match ds, h with | [_, _], _ => ⟨rfl, rfl, rfl⟩⟩ (planCalm_walk enc)

theorem proved : Rows.PlanCalmSaid :=
  OpenClaim.holds_of_wide 13 Try.f13 rfl rfl rfl rfl rfl rfl rfl ⟨rfl, rfl, rfl, rfl, rfl⟩ rfl rfl rfl rfl rfl (by kernel_rfl) Try.func13 (by kernel_rfl)
    (of_decide_eq_true (by kernel_rfl)) (by unfold Func.isWrapper; first | (rw [if_pos (by decide +kernel)]; kernel_rfl) | (rw [if_neg (by decide +kernel)]; exact ⟨rfl, rfl⟩))
    (fun os started H enc _ => lifted os started H enc)
#print axioms proved
end planCalm
end Go.Proofs.Ytohocdbneopooaa
