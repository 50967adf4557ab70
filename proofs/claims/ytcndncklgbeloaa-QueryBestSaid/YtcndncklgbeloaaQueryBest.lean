/- QueryBest: the best resolution is the document's, for any horizons. No condition. -/
import Derived.Test.YtcndncklgbeloaaRunW
import Derived.Test.YtcndncklgbeloaaArgs
import Derived.Deep.RegionHeld3
namespace Go.Proofs.Ytcndncklgbeloaa
set_option maxRecDepth 100000
open Go.RowKit Go.WideShapes Go.ChangeShapes

set_option maxHeartbeats 3200000 in
theorem queryBest_any (f a b c r0 r1 r2 : Int) (w : World) :
    Calls Try.prog 3 #[.int .i64 f, .agg #[.int .i64 a, .int .i64 b, .int .i64 c, .int .i64 r0, .int .i64 r1, .int .i64 r2]] w fun e w' => e = .returned (.bool true) ∧ Below w.heap.size w w' := by
  have hX0 := Whole1.new w 24 #[.int .i64 a, .int .i64 b, .int .i64 c, .int .i64 r0, .int .i64 r1, .int .i64 r2]
  have hB0 : Below w.heap.size w (w.alloc (.cells #[.int .i64 a, .int .i64 b, .int .i64 c, .int .i64 r0, .int .i64 r1, .int .i64 r2] 24)) := (Below.refl _ _).alloc (Nat.le_refl _) _
  go_enter Try.func3, Try.ntmps3
  obtain ⟨V, hV⟩ : ∃ V, bestP f a b c = V := ⟨_, rfl⟩
  have S2 := hidden (fun W => best_any f a b c r0 r1 r2 W)
  have S3 := hidden (fun W => rbest_any f a b c r0 r1 r2 W)
  rw [hV] at S2 S3
  have hVV : (V == V) = true := beq_self_eq_true _
  clear hV
  go_wp2_with fail
  generalize w.alloc (.cells #[.int .i64 a, .int .i64 b, .int .i64 c, .int .i64 r0, .int .i64 r1, .int .i64 r2] 24) = w1 at hX0 hB0 ⊢
  obtain ⟨g, hg⟩ : ∃ g, w.heap.size = g := ⟨_, rfl⟩
  have HB := hidden hB0
  rw [hg] at hX0 ⊢
  have HS := hidden (fun W (hW : Below w1.heap.size w1 W) => let X := hX0.below hW hX0.lt; (⟨X.cell 0, X.cell 1, X.cell 2, X.cell 3, X.cell 4, X.cell 5⟩ : W.cell? ⟨g, 0, none⟩ = some (.int .i64 a) ∧ W.cell? ⟨g, 1, none⟩ = some (.int .i64 b) ∧ W.cell? ⟨g, 2, none⟩ = some (.int .i64 c) ∧ W.cell? ⟨g, 3, none⟩ = some (.int .i64 r0) ∧ W.cell? ⟨g, 4, none⟩ = some (.int .i64 r1) ∧ W.cell? ⟨g, 5, none⟩ = some (.int .i64 r2)))
  clear hX0 hB0
  go_region_held3 (fun W => W.cell? ⟨g, 0, none⟩ = some (.int .i64 a) ∧ W.cell? ⟨g, 1, none⟩ = some (.int .i64 b) ∧ W.cell? ⟨g, 2, none⟩ = some (.int .i64 c) ∧ W.cell? ⟨g, 3, none⟩ = some (.int .i64 r0) ∧ W.cell? ⟨g, 4, none⟩ = some (.int .i64 r1) ∧ W.cell? ⟨g, 5, none⟩ = some (.int .i64 r2))
    (first | exact HS.out _ (Below.refl _ _) | exact HS.out _ (Below.refl _ _).drew | exact HS.out _ (by assumption))
    (first
      | (go_at_call 4; refine (wakes26_any _).mono ?_; rintro e w2 ⟨rfl, b2⟩; have p2 : Below w1.heap.size w1 w2 := (Below.refl _ _).drew.trans b2)
      | (go_at_call 5; refine (S2.out _).mono ?_; rintro e w3 ⟨rfl, b3⟩; have p3 : Below w1.heap.size w1 w3 := p2.trans (b3.mono p2.size))
      | (go_at_call 6; refine (S3.out _).mono ?_; rintro e w4 ⟨rfl, b4⟩; have p4 : Below w1.heap.size w1 w4 := p3.trans (b4.mono p3.size)))
  go_wp2_with fail
  go_ret
  exact ⟨rfl, HB.out.trans (p4.mono HB.out.size)⟩

section
variable {H : Type} {enc : TypeId × Value → H} {W : World}
theorem open_horizon {base : Nat} {v : Value} {d : DataW H} {ps : List MemPlace} (hv : Value.okWide Try.prog W .any base 24 v) (h : DataW.Trod enc Try.prog W 0 (fun _ => true) true 24 v d ps) :
    ∃ a b c r0 r1 r2 : Int, v = .agg #[.int .i64 a, .int .i64 b, .int .i64 c, .int .i64 r0, .int .i64 r1, .int .i64 r2] := by
  obtain ⟨cs, rfl, hcs⟩ := okWide_struct Try.underlying24 hv
  obtain ⟨fuel, hf⟩ := h
  rw [show Try.prog.cellsOf 24 = 6 from by kernel_rfl] at hcs
  obtain ⟨l⟩ := cs
  match l, hcs with
  | [v0, v1, v2, v3, v4, v5], _ =>
    simp only [Value.cells] at hf
    obtain ⟨xs, n, _, _, hl, hlen, hfl⟩ := DataW.trod_struct Try.underlying24 hf
    match xs, hlen with
    | [y0, y1], _ =>
      have t0 : DataW.trod enc Try.prog W 0 (fun _ => true) true n 22 (([v0, v1, v2, v3, v4, v5].drop 0).take (Try.prog.cellsOf 22)) = some y0 := hfl 0 _ rfl
      have t1 : DataW.trod enc Try.prog W 0 (fun _ => true) true n 22 (([v0, v1, v2, v3, v4, v5].drop 3).take (Try.prog.cellsOf 22)) = some y1 := hfl 1 _ rfl
      rw [show Try.prog.cellsOf 22 = 3 from by kernel_rfl] at t0 t1
      simp only [List.drop_zero, List.drop_succ_cons, List.take_succ_cons, List.take_zero] at t0 t1
      obtain ⟨z0, z1, z2, m, _, g0, g1, g2⟩ := trod_array3 Try.underlying22 (by kernel_rfl) (c0 := v0) (c1 := v1) (c2 := v2) t0
      obtain ⟨u0, u1, u2, m', _, k0, k1, k2⟩ := trod_array3 Try.underlying22 (by kernel_rfl) (c0 := v3) (c1 := v4) (c2 := v5) t1
      obtain ⟨x0, e0, _, _⟩ := DataW.trod_int Try.underlying2 g0
      obtain ⟨x1, e1, _, _⟩ := DataW.trod_int Try.underlying2 g1
      obtain ⟨x2, e2, _, _⟩ := DataW.trod_int Try.underlying2 g2
      obtain ⟨x3, e3, _, _⟩ := DataW.trod_int Try.underlying2 k0
      obtain ⟨x4, e4, _, _⟩ := DataW.trod_int Try.underlying2 k1
      obtain ⟨x5, e5, _, _⟩ := DataW.trod_int Try.underlying2 k2
      simp only [List.cons.injEq, and_true] at e0 e1 e2 e3 e4 e5
      exact ⟨x0, x1, x2, x3, x4, x5, by rw [e0, e1, e2, e3, e4, e5]⟩
end

theorem queryBest_walk {H : Type} (enc : TypeId × Value → H) : LawWalk enc Try.prog 3 Try.f3 (fun _ => True) := by
  intro W base args ds p hval hA hlt hsz _
  rw [Try.params3] at hval hA hsz
  obtain ⟨v0, vs0, d0, ds0, p0, q0, hargs, rfl, rfl, h0, r0⟩ := trodAll_cons hA
  obtain ⟨v1, vs1, d1, ds1, p1, q1, rfl, rfl, rfl, h1, r1⟩ := trodAll_cons r0
  obtain ⟨rfl, rfl, rfl⟩ := trodAll_nil r1
  obtain rfl : args = #[v0, v1] := by cases args; simp_all
  obtain ⟨t, rfl, _⟩ := open_arg_int Try.underlying2 (hval 0 2 v0 rfl rfl) h0
  obtain ⟨a, b, c, x0, x1, x2, rfl⟩ := open_horizon (hval 1 24 v1 rfl rfl) h1
  exact queryBest_any t a b c x0 x1 x2 W

namespace queryBest
set_option maxRecDepth 100000 in
theorem lifted (os : Os) (started : os.Started) (H : Type) (enc : TypeId × Value → H) :
    ReturnsInHanded {} Try.checked os 3 .any (Rows.queryBestSpec.pre6 enc Try.prog Try.f3 Rows.queryBestRow.domain false) (Rows.queryBestSpec.post enc Try.prog Try.f3 false true false false) :=
  law_said (C := Try.checked) (s := Rows.queryBestSpec) (tb := 4) own_prog started (by kernel_rfl) Try.func3
    (ChangeSpec.witness6 (enc := enc) (C := Try.checked) false ⟨#[], #[.int .i64 0, .agg #[.int .i64 0, .int .i64 0, .int .i64 0, .int .i64 0, .int .i64 0, .int .i64 0]], []⟩ 8 (by kernel_rfl) (by kernel_rfl) (by kernel_rfl) (by kernel_rfl))
    laidOut (by kernel_rfl) rfl Try.underlying4 ⟨rfl, fun H ds h => match ds, h with | [_, _], _ => ⟨rfl, rfl, rfl⟩⟩ (queryBest_walk enc)

theorem proved : Rows.QueryBestSaid :=
  OpenClaim.holds_of_wide 3 Try.f3 rfl rfl rfl rfl rfl rfl rfl ⟨rfl, rfl, rfl, rfl, rfl⟩ rfl rfl rfl rfl rfl (by kernel_rfl) Try.func3 (by kernel_rfl)
    (of_decide_eq_true (by kernel_rfl)) (by unfold Func.isWrapper; first | (rw [if_pos (by decide +kernel)]; kernel_rfl) | (rw [if_neg (by decide +kernel)]; exact ⟨rfl, rfl⟩))
    (fun os started H enc _ => lifted os started H enc)
#print axioms proved
end queryBest

end Go.Proofs.Ytcndncklgbeloaa
