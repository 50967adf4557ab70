/- A nil head: what its methods answer. No condition. -/
import Derived.Test.YthncochjhbmceaaGreatHedM
import Derived.Test.YthncochjhbmceaaGreatPk78afa221
namespace Go.Proofs.YthncochjhbmceaaGreat
set_option maxRecDepth 100000
open Go.RowKit

theorem nil_len (w : World) : Calls Tryz.prog 14 #[.pointer none] w fun e w' => e = .returned (.int .i64 0) ∧ w' = w := by
  go_enter Tryz.func14, Tryz.ntmps14
  go_wp2_with fail
  go_ret
  exact ⟨rfl, rfl⟩
theorem nil_apply (w : World) (v : Value) (a b c : Value) (hv : v = .agg #[a, b, c]) : Calls Tryz.prog 9 #[.pointer none, v] w fun e w' => e = .returned (.int .i64 1) ∧ Below w.heap.size w w' := by
  subst hv
  have HB := hidden (show Below w.heap.size w (w.alloc (.cells #[a, b, c] 31)) from (Below.refl _ _).alloc (Nat.le_refl _) _)
  go_enter Tryz.func9, Tryz.ntmps9
  go_wp2_with fail
  go_ret
  exact ⟨rfl, HB.out⟩
theorem nil_drop (w : World) (t : Int) : Calls Tryz.prog 12 #[.pointer none, .int .i64 t] w fun e w' => e = .returned (.tuple #[]) ∧ Below w.heap.size w w' := by
  have HB := hidden (show Below w.heap.size w (w.alloc (.cells #[.int .i64 t] 2)) from (Below.refl _ _).alloc (Nat.le_refl _) _)
  go_enter Tryz.func12, Tryz.ntmps12
  go_wp2_with fail
  refine bodyPost_ret (v := .tuple #[]) (results_none (by kernel_rfl) _ _ _) rfl ?_
  exact ⟨rfl, HB.out⟩
theorem nil_raw (w : World) (f t : Int) : Calls Tryz.prog 17 #[.pointer none, .int .i64 f, .int .i64 t, .slice none 0 0] w fun e w' => e = .returned (.slice none 0 0) ∧ Below w.heap.size w w' := by
  have HB := hidden (show Below w.heap.size w ((w.alloc (.cells #[.int .i64 f] 2)).alloc (.cells #[.int .i64 t] 2)) from ((Below.refl _ _).alloc (Nat.le_refl _) _).alloc (by simp) _)
  go_enter Tryz.func17, Tryz.ntmps17
  go_wp2_with fail
  go_ret
  exact ⟨rfl, HB.out⟩
theorem nil_gone (w : World) (r : Int) (v : Value) : Calls Tryz.prog 18 #[.pointer none, .int .i64 r, v] w fun e w' => e = .returned (.slice none 0 0) ∧ w' = w := by
  go_enter Tryz.func18, Tryz.ntmps18
  go_wp2_with fail
  go_ret
  exact ⟨rfl, rfl⟩
theorem nil_list (w : World) : Calls Tryz.prog 16 #[.pointer none] w fun e w' => e = .returned (.slice none 0 0) ∧ w' = w := by
  go_enter Tryz.func16, Tryz.ntmps16
  go_wp2_with fail
  refine (nil_len w).mono ?_
  rintro e w1 ⟨rfl, rfl⟩
  go_wp2_with fail
  refine wp_loop_rounds 1 ?_
  rw [rounds_succ]
  go_wp2_with fail
  go_ret
  exact ⟨rfl, rfl⟩
theorem nil_max (w : World) : Calls Tryz.prog 15 #[.pointer none] w fun e w' => e = .returned (.int .i64 (-1)) ∧ w' = w := by
  go_enter Tryz.func15, Tryz.ntmps15
  go_wp2_with fail
  refine (nil_len w).mono ?_
  rintro e w1 ⟨rfl, rfl⟩
  go_wp2_with fail
  refine wp_loop_rounds 1 ?_
  rw [rounds_succ]
  go_wp2_with fail
  go_ret
  exact ⟨rfl, rfl⟩
set_option maxHeartbeats 6400000 in
theorem nil_erase (w : World) : Calls Tryz.prog 13 #[.pointer none, .agg #[.int .i64 0, .int .i64 9], .agg #[.int .i64 0, .int .i64 0, .int .i64 0], .agg #[.int .i64 0, .int .i64 0, .int .i64 0], .slice none 0 0] w fun e w' => e = .returned (.agg #[.slice none 0 0, .slice none 0 0, .slice none 0 0]) ∧ Below w.heap.size w w' := by
  obtain ⟨w0, hw0⟩ : ∃ w0, ((((w.alloc (.cells #[.int .i64 0, .int .i64 9] 33)).alloc (.cells #[.int .i64 0, .int .i64 0, .int .i64 0] 34)).alloc (.cells #[.int .i64 0, .int .i64 0, .int .i64 0] 34)).alloc (.cells #[.slice none 0 0, .slice none 0 0, .slice none 0 0] 31)).alloc (.cells #[.slice none 0 0, .slice none 0 0, .slice none 0 0] 31) = w0 := ⟨_, rfl⟩
  have hs0 : w0.heap.size = w.heap.size + 1 + 1 + 1 + 1 + 1 := by rw [← hw0]; simp only [World.size_alloc]
  have hb0 : Below w.heap.size w w0 := by rw [← hw0]; exact (((((Below.refl _ _).alloc (Nat.le_refl _) _).alloc (by simp only [World.size_alloc]; omega) _).alloc (by simp only [World.size_alloc]; omega) _).alloc (by simp only [World.size_alloc]; omega) _).alloc (by simp only [World.size_alloc]; omega) _
  have hsp0 : Whole1 w0 w.heap.size 33 #[.int .i64 0, .int .i64 9] := by rw [← hw0]; exact ((((Whole1.new _ _ _).alloc _).alloc _).alloc _).alloc _
  have hz0 : Whole1 w0 (w.heap.size + 1 + 1 + 1) 31 #[.slice none 0 0, .slice none 0 0, .slice none 0 0] := by
    rw [← hw0]
    have := Whole1.new (((w.alloc (.cells #[.int .i64 0, .int .i64 9] 33)).alloc (.cells #[.int .i64 0, .int .i64 0, .int .i64 0] 34)).alloc (.cells #[.int .i64 0, .int .i64 0, .int .i64 0] 34)) 31 #[.slice none 0 0, .slice none 0 0, .slice none 0 0]
    simp only [World.size_alloc] at this
    exact this.alloc _
  have hr0 : Whole1 w0 (w.heap.size + 1 + 1 + 1 + 1) 31 #[.slice none 0 0, .slice none 0 0, .slice none 0 0] := by
    rw [← hw0]
    have := Whole1.new ((((w.alloc (.cells #[.int .i64 0, .int .i64 9] 33)).alloc (.cells #[.int .i64 0, .int .i64 0, .int .i64 0] 34)).alloc (.cells #[.int .i64 0, .int .i64 0, .int .i64 0] 34)).alloc (.cells #[.slice none 0 0, .slice none 0 0, .slice none 0 0] 31)) 31 #[.slice none 0 0, .slice none 0 0, .slice none 0 0]
    simp only [World.size_alloc] at this
    exact this
  have hrow := Row.fresh w0 33 2 1 [.int .i64 0, .int .i64 9] rfl
  have hb1 : Below w0.heap.size w0 (w0.alloc (.cells #[.int .i64 0, .int .i64 9] 33)) := (Below.refl _ _).alloc (Nat.le_refl _) _
  have S1 := hidden (clipSpn_any (some ⟨w0.heap.size, 0, none⟩) 1 1 [⟨0, 9⟩] 0 1125899906842624 (w0.alloc (.cells #[.int .i64 0, .int .i64 9] 33)) (by rw [World.size_alloc]; exact hrow) rfl (by decide) (fun x hx => by rw [List.mem_singleton.1 hx]; exact ⟨by decide, by decide, by decide, by decide⟩) (by decide) (by decide))
  have HW0 := hidden hw0
  have HS0 := hidden hs0
  have HB0 := hidden hb0
  have HB1 := hidden hb1
  have HZ := hidden hz0
  have HR := hidden hr0
  have p0 := (hsp0.alloc (.cells #[.int .i64 0, .int .i64 9] 33)).cell 0
  clear hw0 hs0 hb0 hsp0 hz0 hr0 hrow hb1
  go_enter Tryz.func13, Tryz.ntmps13
  go_wp2_with fail
  rw [HW0.out, ← HS0.out]
  obtain ⟨Q, hQ⟩ : ∃ Q, w.heap.size + 1 + 1 + 1 + 1 = Q := ⟨_, rfl⟩
  obtain ⟨Z, hZ⟩ : ∃ Z, w.heap.size + 1 + 1 + 1 = Z := ⟨_, rfl⟩
  have hlt : Z < w0.heap.size ∧ Q < w0.heap.size ∧ Z ≠ Q ∧ w.heap.size ≤ Q ∧ w.heap.size ≤ Z := by have := HS0.out; omega
  have hz1 := HZ.out
  have hr1 := HR.out
  rw [hQ] at hr1
  rw [hZ] at hz1
  have HLT := hidden hlt
  have HZ := hidden hz1
  have HR := hidden hr1
  rw [hQ, hZ]
  clear hQ hZ hlt hz1 hr1
  refine S1.out.mono ?_
  rintro e w2 ⟨vT, R, rfl, hoT, _, _, b2⟩
  obtain ⟨At, ct, rfl, _, _⟩ := own_shape hoT
  have HB2 := hidden ((HB1.out.trans (b2.mono HB1.out.size)))
  have hqf := HR.out.below HB2.out HLT.out.2.1
  have hzf := HZ.out.below HB2.out HLT.out.1
  have q0 := hqf.cell 0
  have q1 := hqf.cell 1
  have q2 := hqf.cell 2
  have z0 := hzf.cell 0
  have z1 := hzf.cell 1
  have z2 := hzf.cell 2
  have y0 := hzf.free 0
  have y1 := (hzf.put 0 (.slice none 0 0)).free 1
  have y2 := ((hzf.put 0 (.slice none 0 0)).put 1 (.slice none 0 0)).free 2
  have z1b := (hzf.put 0 (.slice none 0 0)).cell 1
  have z2b := ((hzf.put 0 (.slice none 0 0)).put 1 (.slice none 0 0)).cell 2
  have HZF := hidden hzf
  clear hqf hzf S1 hoT b2
  go_wp2_with fail
  have hzz := ((HZF.out.put 0 (.slice none 0 0)).put 1 (.slice none 0 0)).put 2 (.slice none 0 0)
  have d0 := hzz.cell 0
  have d1 := hzz.cell 1
  have d2 := hzz.cell 2
  refine bodyPost_ret (v := .agg #[.slice none 0 0, .slice none 0 0, .slice none 0 0]) (by simp [results, Tryz.results13, go_sem, d0, d1, d2]) rfl ⟨rfl, ?_⟩
  have hbw := HB0.out.trans (HB2.out.mono HB0.out.size)
  exact ((hbw.setCell (p := ⟨Z, 0, none⟩) HLT.out.2.2.2.2 _).setCell (p := ⟨Z, 1, none⟩) HLT.out.2.2.2.2 _).setCell (p := ⟨Z, 2, none⟩) HLT.out.2.2.2.2 _
end Go.Proofs.YthncochjhbmceaaGreat
