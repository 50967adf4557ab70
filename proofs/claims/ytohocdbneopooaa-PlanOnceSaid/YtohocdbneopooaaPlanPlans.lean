/- PlanPlans: whatever blocks there are, the groups are the document's; what is handed in is as before. No condition. -/
import Derived.Test.YtohocdbneopooaaPlanWakes
import Derived.Test.YtohocdbneopooaaArgs
import Derived.Laws.StructEq
namespace Go.Proofs.Ytohocdbneopooaa
set_option maxRecDepth 100000
open Go.Shelf Go.RowKit Go.Lib Go.Sort Go.WideShapes Go.ChangeShapes

theorem neq_inf (x : Inf) (w : World) : (binOp .neq 71 (.agg #[.int .i64 x.id, .int .i64 x.res, .int .i64 x.frm, .int .i64 x.til, .int .i64 x.byt]) (.agg #[.int .i64 x.id, .int .i64 x.res, .int .i64 x.frm, .int .i64 x.til, .int .i64 x.byt])).run Try.prog w = .ok (.bool false) w := by
  have h1 : Try.prog.stoodInHeld 71 = false := by kernel_rfl
  rw [run_neq_struct, run_equalIn_agg _ _ _ _ _ (by simp [Program.fieldsOf]) h1]
  simp [Op.eqFields, go_sem]

set_option maxHeartbeats 3200000 in
theorem planPlans_any (fan : Int) (A : Option Addr) (n c : Nat) (l : List Inf) (w : World) (hr : Row w w.heap.size 5 A n (infCells l)) (hl : l.length = n) (hn : n * 40 ≤ 140737488351232) (hf : fan ≤ 9223372036854775807) :
    Calls Try.prog 11 #[.int .i64 fan, .slice A n c] w fun e w' => e = .returned (.bool true) ∧ RowKit.Below w.heap.size w w' := by
  obtain ⟨i0, hi, hz0, hz1, hz2⟩ := info_parts info_inf
  have hL := hidden hl
  have HR := hidden hr
  clear hl hr
  go_enter Try.func11, Try.ntmps11
  go_wp2_with (at_builtin; refine wpList_app _ rfl _ _ 67 rfl w.heap.size 71 i0 _ 5 40 Try.underlying67 hi hz0 hz1 hz2 rfl (by decide) _ 0 [] rfl (World.ownsRow_nil _ _ _ _) _ _ _ _ _ rfl HR.out (infCells_one l) (by unfold maxLen; omega) (by omega) (by simp) ?_; intro v1 w1 hown1 hg1 hat1; rw [Nat.zero_add, List.nil_append] at hown1; obtain ⟨A1, c1, rfl, hc1, hr1⟩ := own_shape hown1)
  have hb1 : RowKit.Below w.heap.size w w1 := (RowKit.Below.refl _ _).grown hg1 (Nat.le_refl _) (fun q hq => by cases hq)
  have hs1 := hb1.size
  refine (plan_any fan A1 n c1 l w1 hr1 hL.out hn hf).mono ?_
  rintro e w2 ⟨v2, S2, rfl, hL2, hb2⟩
  have hB2 := hb1.trans (hb2.mono hs1)
  have hR2 := hidden ((hr1.below hb2).more hb2.size)
  have hR0 := hidden ((HR.out.below hB2).more hB2.size)
  have HL2 := hidden hL2
  obtain ⟨B1, hB1⟩ : ∃ B1, w1.heap.size = B1 := ⟨_, rfl⟩
  rw [hB1] at HL2
  clear hL2 hb2 hr1 hown1 hg1 hat1 hB1
  go_wp2_with fail
  go_loopw [15] (fun i wr => ∃ k m : Nat, k ≤ n ∧ i = .int .i64 k ∧ wr = w2.drewN m) (fun i _ => n - (intOf i).toNat)
  case atStart => exact ⟨0, 0, Nat.zero_le _, rfl, rfl⟩
  case round =>
    obtain ⟨k, m, hk, rfl, rfl⟩ := hrel
    by_cases hlt : k < n
    · obtain ⟨gs, o, hA, _, x, hx, d0, d1, d2, d3, d4⟩ := inf_cells_at hR0.out hL.out (RowKit.Below.refl _ _) k hlt
      obtain ⟨gt, p, hA1, _, y, hy, e0, e1, e2, e3, e4⟩ := inf_cells_at hR2.out hL.out (RowKit.Below.refl _ _) k hlt
      have hxy := hx.symm.trans hy
      injection hxy with hxy
      subst hxy hA hA1
      have hkz : (k : Int) < (n : Int) := by omega
      have hk0 : (0 : Int) ≤ (k : Int) := by omega
      have hne := fun q : Nat => neq_inf x (w2.drewN q)
      have hne0 := neq_inf x w2
      clear hx hy
      go_wp2_with fail
      go_quiet (fail)
      go_wp2_with fail
      go_roundw
      case rel => exact ⟨k + 1, _, by omega, by go_num, rfl⟩
      case measure => simp [intOf]; omega
    · obtain rfl : k = n := by omega
      have hkz : ¬ (k : Int) < (k : Int) := by omega
      obtain ⟨w3, hw3⟩ : ∃ w3, w2.drewN m = w3 := ⟨_, rfl⟩
      have hb3 : RowKit.Below w2.heap.size w2 w3 := by rw [← hw3]; exact below_drewN (RowKit.Below.refl _ _) m
      have hB3 := hidden (hB2.trans (hb3.mono hB2.size))
      have hL3 := hidden (HL2.out.below hb3)
      rw [hw3]
      clear hw3 hb3 HL2 hR2 hB2 hb1
      go_wp2_with fail
      refine (planWakes_any _).mono ?_
      rintro e w4 ⟨rfl, hb4⟩
      have hB4 := hidden (hB3.out.trans (hb4.mono hB3.out.size))
      have hL4 := hidden (hL3.out.below hb4)
      clear hb4
      go_wp2_with fail
      refine (infos_any A k c l w4 ((HR.out.below hB4.out).more hB4.out.size) hL.out hn).mono ?_
      rintro e w5 ⟨v5, rfl, ho5, hb5⟩
      have hB5 := hidden (hB4.out.trans (hb5.mono hB4.out.size))
      have hL5 := hidden (hL4.out.below hb5)
      obtain ⟨A5, c5, rfl, hc5, hr5⟩ := own_shape ho5
      clear hb5 ho5
      go_wp2_with fail
      refine (rplan_any fan A5 k c5 l w5 hr5 hL.out hn).mono ?_
      rintro e w6 ⟨v6, S6, rfl, hL6, hb6⟩
      have hB6 := hidden (hB5.out.trans (hb6.mono hB5.out.size))
      have hL7 := hidden (hL5.out.below hb6)
      have HL6 := hidden hL6
      clear hb6 hL6 hr5
      go_wp2_with fail
      refine (same_ll hL7.out HL6.out (Nat.le_trans (planI_len _ _) (by rw [hL.out]; omega)) (fun g hg => Nat.le_trans (planI_inner _ _ g hg) (by rw [hL.out]; omega))).mono ?_
      rintro e w7 ⟨rfl, q, rfl⟩
      go_wp2_with fail
      go_ret
      exact ⟨rfl, below_drewN hB6.out q⟩

section
variable {H : Type} {enc : TypeId × Value → H} {W : World} {b : Nat}
theorem opens_inf : Opens enc Try.prog W b 71 Inf.cells (fun _ => True) := by
  intro fuel cs x h hf
  obtain ⟨n, hl, hp⟩ := open_ones Try.underlying71 (by kernel_rfl) (by kernel_rfl) h hf
  obtain ⟨u0, y0, c0, t0, f0⟩ := hp 0 _ rfl
  obtain ⟨u1, y1, c1, t1, f1⟩ := hp 1 _ rfl
  obtain ⟨u2, y2, c2, t2, f2⟩ := hp 2 _ rfl
  obtain ⟨u3, y3, c3, t3, f3⟩ := hp 3 _ rfl
  obtain ⟨u4, y4, c4, t4, f4⟩ := hp 4 _ rfl
  obtain ⟨s0, e0, _⟩ := opens_int Try.underlying3 _ _ _ t0 f0
  obtain ⟨s1, e1, _⟩ := opens_int Try.underlying3 _ _ _ t1 f1
  obtain ⟨s2, e2, _⟩ := opens_int Try.underlying2 _ _ _ t2 f2
  obtain ⟨s3, e3, _⟩ := opens_int Try.underlying2 _ _ _ t3 f3
  obtain ⟨s4, e4, _⟩ := opens_int Try.underlying3 _ _ _ t4 f4
  simp only [List.cons.injEq, and_true] at e0 e1 e2 e3 e4
  subst e0 e1 e2 e3 e4
  match cs, hl with
  | [a0, a1, a2, a3, a4], _ =>
    simp only [List.getElem?_cons_zero, List.getElem?_cons_succ, Option.some.injEq] at c0 c1 c2 c3 c4
    exact ⟨⟨s0, s1, s2, s3, s4⟩, by rw [c0, c1, c2, c3, c4]; rfl, trivial⟩
end
instance : Inhabited Inf := ⟨⟨0, 0, 0, 0, 0⟩⟩

/-- a law over a fan and blocks -/
theorem planLaw_walk {f : FuncId} {fn : Func} (hp : fn.params = #[3, 67]) (h : ∀ (fan : Int) (A : Option Addr) (n c : Nat) (l : List Inf) (w : World), Row w w.heap.size 5 A n (infCells l) → l.length = n → n ≤ c → n * 40 ≤ 140737488351232 → -9223372036854775808 ≤ fan → fan ≤ 9223372036854775807 →
    Calls Try.prog f #[.int .i64 fan, .slice A n c] w fun e w' => e = .returned (.bool true) ∧ RowKit.Below w.heap.size w w') {H : Type} (enc : TypeId × Value → H) : LawWalk enc Try.prog f fn (fun _ => True) := by
  intro W base args ds p hval hA hlt hsz _
  rw [hp] at hval hA hsz
  obtain ⟨v0, vs0, d0, ds0, p0, q0, hargs, rfl, rfl, h0, r0⟩ := trodAll_cons hA
  obtain ⟨v1, vs1, d1, ds1, p1, q1, rfl, rfl, rfl, h1, r1⟩ := trodAll_cons r0
  obtain ⟨rfl, rfl, rfl⟩ := trodAll_nil r1
  obtain rfl : args = #[v0, v1] := by cases args; simp_all
  obtain ⟨fan, rfl, _, _, w0⟩ := open_int Try.underlying3 (hval 0 3 v0 rfl rfl) h0
  obtain ⟨s, rfl, ⟨hs1, hs2, hs3⟩, _, hn, _⟩ := open_arg_slice (k := 5) (f := Inf.cells) Try.underlying67 (by kernel_rfl) (by decide) (fun _ => rfl) opens_inf (hval 1 67 v1 rfl rfl) h1 (arg_fits (j := 1) rfl rfl (fun x hx => hlt x (by simp [hx])) hsz (Nat.le_refl _))
  have hw := wf_i64 w0
  exact h fan s.A s.n s.c s.l W hs3 hs2 hs1 hn (by omega) (by omega)

theorem planPlans_walk {H : Type} (enc : TypeId × Value → H) : LawWalk enc Try.prog 11 Try.f11 (fun _ => True) :=
  planLaw_walk Try.params11 (fun fan A n c l w hr hl _ hn _ hf => planPlans_any fan A n c l w hr hl hn hf) enc

namespace planPlans
set_option maxRecDepth 100000 in
theorem lifted (os : Os) (started : os.Started) (H : Type) (enc : TypeId × Value → H) :
    ReturnsInHanded {} Try.checked os 11 .any (Rows.planPlansSpec.pre6 enc Try.prog Try.f11 Rows.planPlansRow.domain false) (Rows.planPlansSpec.post enc Try.prog Try.f11 false true false false) :=
  law_said (C := Try.checked) (s := Rows.planPlansSpec) (tb := 4) own_prog started (by kernel_rfl) Try.func11
    (ChangeSpec.witness6 (enc := enc) (C := Try.checked) false ⟨#[], #[.int .i64 0, .slice none 0 0], []⟩ 8 (by kernel_rfl) (by kernel_rfl) (by kernel_rfl) (by kernel_rfl))
    laidOut (by kernel_rfl) rfl Try.underlying4 ⟨rfl, fun H ds h => match ds, h with | [_, _], _ => ⟨rfl, rfl, rfl⟩⟩ (planPlans_walk enc)

theorem proved : Rows.PlanPlansSaid :=
  OpenClaim.holds_of_wide 11 Try.f11 rfl rfl rfl rfl rfl rfl rfl ⟨rfl, rfl, rfl, rfl, rfl⟩ rfl rfl rfl rfl rfl (by kernel_rfl) Try.func11 (by kernel_rfl)
    (of_decide_eq_true (by kernel_rfl)) (by unfold Func.isWrapper; first | (rw [if_pos (by decide +kernel)]; kernel_rfl) | (rw [if_neg (by decide +kernel)]; exact ⟨rfl, rfl⟩))
    (fun os started H enc _ => lifted os started H enc)
#print axioms proved
end planPlans
end Go.Proofs.Ytohocdbneopooaa
