/- spans.Decode, walked. -/
import Derived.Test.YtjklonfheenfbaaDecP
import Derived.Test.YtjklonfheenfbaaReadI
namespace Go.Proofs.Ytjklonfheenfbaa
set_option maxRecDepth 100000
open Go.RowKit Go.Shelf

set_option maxHeartbeats 6400000 in
theorem decode_any (s : List UInt8) (a : Int) (w : World) (hs : s.length ≤ 4398046511104) (ha : -9223372036854775808 ≤ a) (ha2 : a < 9223372036854775808) :
    Calls Try.prog 34 #[.string ⟨s.toArray⟩, .int .i64 a] w fun e w' => ∃ v, e = .returned (.tuple #[v, .int .i64 (decR s a).2.1, .int .i64 (decR s a).2.2]) ∧ w'.ownsRow w.heap.size 51 2 v (decR s a).1.length ((decR s a).1.flatMap Spn.cells) ∧ Below w.heap.size w w' := by
  obtain ⟨i0, hi, hz0, hz1, hz2⟩ := info_parts ClnSpn.info
  have HU := hidden (readUint_any s a w (by omega) ha ha2)
  obtain ⟨n, b, e, h1⟩ : ∃ n b e, readU s a = (n, b, e) := ⟨_, _, _, rfl⟩
  have hlt := readU_lt s a
  rw [h1] at HU hlt
  simp only at hlt
  have H1 := hidden h1
  go_enter Try.func34, Try.ntmps34
  go_wp2_with fail
  refine HU.out.mono ?_
  rintro e1 w1 ⟨rfl, hb1⟩
  by_cases he : e = 0
  · subst he
    have hD := hidden (decR_go h1)
    have F := hidden (readU_ok h1)
    have B1 := hidden hb1
    clear HU h1 H1 hb1
    go_wp2_with fail
    go_loopw [1, 7, 8, 9] (fun va vn ve vo wr => ∃ (k : Nat) (p : Int) (out : List Spn) (v : Value), va = .int .i64 p ∧ vn = .int .u64 k ∧ ve = .int .i64 0 ∧ v = vo ∧ k < 18446744073709551616 ∧ 0 ≤ p ∧ p ≤ s.length ∧ wr.ownsRow w.heap.size 51 2 v out.length (out.flatMap Spn.cells) ∧ (out.length : Int) * 2 ≤ p ∧ Hid (decR s a = decS s k p out) ∧ Hid (∀ x ∈ out, x.ok) ∧ Below w.heap.size w wr) (fun _ vn _ _ _ => (intOf vn).toNat)
    case atStart => exact ⟨n, b, [], _, rfl, rfl, rfl, rfl, hlt, by have := F.out; omega, F.out.2.2.1, World.ownsRow_nil _ _ _ _, by have := F.out; simp; omega, hD, hidden (by simp), B1.out⟩
    case round =>
      obtain ⟨k, p, out, v, rfl, rfl, rfl, rfl, hk, hp0, hp1, hown, hol, hdec, hok, hb⟩ := hrel
      clear hD B1 F hlt
      match k with
      | 0 =>
        go_wp2_with fail
        go_ret3
        rw [hdec.out, decS_zero]
        exact ⟨_, rfl, hown, hb⟩
      | k + 1 =>
        have hk0 : (0 : Int) < ((k + 1 : Nat) : Int) := by omega
        have hbs := hb.size
        have hI := hidden (fun p w h1 h2 => readInt_any s p w (by omega) h1 h2)
        obtain ⟨u, b', e1, h1⟩ : ∃ u b e, readI s p = (u, b, e) := ⟨_, _, _, rfl⟩
        go_upto_region 8 with (fail)
        have hX := Whole1.new wr 51 #[.int .i64 0, .int .i64 0]
        obtain ⟨X, hXe⟩ : ∃ X, wr.heap.size = X := ⟨_, rfl⟩
        have hB : Below X wr (wr.alloc (.cells #[.int .i64 0, .int .i64 0] 51)) := (Below.refl _ _).alloc (Nat.le_of_eq hXe.symm) _
        generalize wr.alloc (.cells #[.int .i64 0, .int .i64 0] 51) = w2 at hX hB ⊢
        rw [hXe] at hX hbs ⊢
        have HXE := hidden hXe
        have HX := hidden hX
        have HB2 := hidden hB
        have HOWN := hidden hown
        have HB := hidden hb
        have x0 : ∀ w, (Instr.index 120 (.agg #[.pointer (some ⟨X, 0, none⟩), .pointer (some ⟨X, 1, none⟩)]) (.int .i64 0)).run Try.prog w = .ok (.pointer (some ⟨X, 0, none⟩)) w := fun _ => by kernel_rfl
        have x1 : ∀ w, (Instr.index 120 (.agg #[.pointer (some ⟨X, 0, none⟩), .pointer (some ⟨X, 1, none⟩)]) (.int .i64 1)).run Try.prog w = .ok (.pointer (some ⟨X, 1, none⟩)) w := fun _ => by kernel_rfl
        clear hb hXe hown hX hB
        have S1 := hI.out p w2 (by omega) (by omega)
        rw [h1] at S1
        have HS1 := hidden S1
        have HR1 := hidden h1
        clear S1 h1
        go_wp2_with fail
        refine wp_loop_rounds 3 ?_
        rw [rounds_succ]
        go_wp2_with fail
        refine HS1.out.mono ?_
        rintro e w3 ⟨rfl, hb3⟩
        have hX3 := HX.out.below hb3 HX.out.lt
        have HB3 := hidden (HB2.out.trans (hb3.mono (by have := HX.out.lt; omega)))
        have c0 := hX3.cell 0
        have f0 := hX3.free 0
        have HX3 := hidden hX3
        clear hb3 hX3 HX HB2 HS1
        by_cases he1 : e1 = 0
        · subst he1
          have RO1 := hidden (readI_ok HR1.out)
          go_wp2_with fail
          rw [rounds_succ]
          have hX4 := HX3.out.put 0 (.int .i64 u)
          have hB4 : Below X wr (w3.setCell ⟨X, 0, none⟩ (.int .i64 u)) := HB3.out.setCell (p := ⟨X, 0, none⟩) (Nat.le_refl X) _
          generalize w3.setCell ⟨X, 0, none⟩ (.int .i64 u) = w4 at hX4 hB4 ⊢
          obtain ⟨v2, c, e2, h2⟩ : ∃ v c e, readI s b' = (v, c, e) := ⟨_, _, _, rfl⟩
          have S2 := hI.out b' w4 (by have := RO1.out; omega) (by have := RO1.out; omega)
          rw [h2] at S2
          have HS2 := hidden S2
          have HR2 := hidden h2
          have HX4 := hidden hX4
          have HB4 := hidden hB4
          clear S2 h2 c0 f0 HX3 HB3 hX4 hB4
          go_wp2_with fail
          refine HS2.out.mono ?_
          rintro e w5 ⟨rfl, hb5⟩
          have hX5 := HX4.out.below hb5 HX4.out.lt
          have HB5 := hidden (HB4.out.trans (hb5.mono (by have := HX4.out.lt; omega)))
          have c1 := hX5.cell 1
          have f1 := hX5.free 1
          have HX5 := hidden hX5
          clear hb5 hX5 HX4 HB4 HS2
          by_cases he2 : e2 = 0
          · subst he2
            have RO2 := hidden (readI_ok HR2.out)
            go_wp2_with fail
            rw [rounds_succ]
            have hX6 := HX5.out.put 1 (.int .i64 v2)
            have hB6 : Below X wr (w5.setCell ⟨X, 1, none⟩ (.int .i64 v2)) := HB5.out.setCell (p := ⟨X, 1, none⟩) (Nat.le_refl X) _
            generalize w5.setCell ⟨X, 1, none⟩ (.int .i64 v2) = w6 at hX6 hB6 ⊢
            have hX6' : Whole1 w6 X 51 #[.int .i64 u, .int .i64 v2] := hX6
            have d0 := hX6'.cell 0
            have d1 := hX6'.cell 1
            have HX6 := hidden hX6'
            have hown6 := own_below HOWN.out hB6 (Nat.le_of_eq HXE.out)
            have HB6 := hidden (HB.out.trans (hB6.mono hbs))
            have HD := hidden hdec.out
            clear hX6 hX6' hB6 c1 f1 HX5 HB5 HOWN hdec HXE hI x0 x1 HB
            by_cases q0 : v2 < u
            · have HBD := hidden (show badS out ⟨u, v2⟩ = true by simp [badS, q0])
              obtain ⟨A4, c4, rfl, _, _⟩ := own_shape hown6
              clear hown6
              go_wp2_with fail
              go_quiet (fail)
              go_wp2_with fail
              go_ret3
              rw [HD.out, decS_bad HR1.out HR2.out (HBD.out)]
              exact ⟨_, rfl, World.ownsRow_nil _ _ _ _, below_drewN HB6.out _⟩
            · have q0' : decide (v2 < u) = false := decide_eq_false q0
              rcases List.eq_nil_or_concat out with rfl | ⟨M, z, rfl⟩
              · have HBD := hidden (show badS [] ⟨u, v2⟩ = false by simp [badS, q0])
                obtain ⟨A4, c4, rfl, _, _⟩ := own_shape hown6
                go_wp2_with fail
                go_quiet (fail)
                generalize hwb : w6.drewN nq = wb
                have hownB : wb.ownsRow w.heap.size 51 2 _ _ _ := hwb ▸ own_drewN hown6 nq
                have hXB : Whole1 wb X 51 #[.int .i64 u, .int .i64 v2] := hwb ▸ HX6.out.drewN nq
                have hbB : Below w.heap.size w wb := hwb ▸ below_drewN HB6.out nq
                have k0 := hXB.cell 0
                have k1 := hXB.cell 1
                have hbs2 := hbB.size
                have hfr := Row.fresh wb 51 2 1 [.int .i64 u, .int .i64 v2] rfl
                clear hwb hXB HX6 d0 d1 HB6
                go_wp2_with (at_builtin; refine wpList_app _ rfl _ _ 30 rfl w.heap.size 51 i0 _ 2 16 Try.underlying30 hi hz0 hz1 hz2 rfl (by decide) _ _ _ rfl (hownB.alloc _) _ _ _ _ _ rfl hfr (by simp [Value.oneCell']) (by unfold maxLen; omega) (by omega) (by simp; omega) ?_; intro v9 w9 hown9 hg9 hat9)
                have hb9 : Below w.heap.size w w9 := (hbB.alloc hbs2 _).grown hg9 (by simp; omega) (fun q hq => (hownB.lt q hq).1)
                clear hbB hbs2 hownB hg9 hat9 hfr k0 k1
                go_wp2_with fail
                go_roundw
                case rel => exact ⟨k, c, [] ++ [⟨u, v2⟩], v9, rfl, by go_num, rfl, rfl, by omega, by have := RO2.out; omega, RO2.out.2.2.1, by simpa [Spn.cells] using hown9, by have := RO1.out; have := RO2.out; simp only [List.length_append, List.length_singleton] at *; omega, hidden (HD.out.trans (decS_go HR1.out HR2.out HBD.out)), hidden (fun y hy => by
                  rcases List.mem_append.1 hy with hy | hy
                  · exact hok.out y hy
                  · rw [List.mem_singleton.1 hy]; exact ⟨RO1.out.2.2.2.1, RO1.out.2.2.2.2.1, RO2.out.2.2.2.1, RO2.out.2.2.2.2.1⟩), hb9⟩
                case measure => simp [intOf]
              · rw [List.concat_eq_append] at *
                have hownL : w6.ownsRow w.heap.size 51 2 v (M.length + 1) ((M ++ [z]).flatMap Spn.cells) := (by simp : (M ++ [z]).length = M.length + 1) ▸ hown6
                clear hown6
                have hown6 := hownL
                obtain ⟨g, cap, rest, rfl, hg, hw, hnc, hc, _, hm2⟩ := own_whole_g spnK hownL (by omega)
                have z1 : w6.cell? ⟨g, M.length * 2 + 1, none⟩ = some (.int .i64 z.til) := by
                  rw [hw.cell, List.getElem?_toArray, List.getElem?_append_left (by rw [fm_len spnK]; simp; omega), fm_at spnK _ M.length z 1 (by simp) (by omega)]; rfl
                have hml : ((M.length : Int) + 1) * 2 ≤ p := by simpa using hol
                have l1 : decide ((M.length : Int) < 0) = false := by simp
                have l2 : (0 : Int) ≤ (M.length : Int) := by omega
                have l3 : (M.length : Int) < (M.length : Int) + 1 := by omega
                obtain ⟨z3, z4, z5, z6⟩ := hok.out z (by simp)
                have ub := hidden RO1.out
                clear hw hownL
                by_cases q1 : u ≤ z.til
                · have HBD := hidden (badS_j1 (M := M) (v := v2) q1)
                  clear hown6
                  go_wp2_with fail
                  go_quiet (fail)
                  go_wp2_with fail
                  go_ret3
                  rw [HD.out, decS_bad HR1.out HR2.out (HBD.out)]
                  exact ⟨_, rfl, World.ownsRow_nil _ _ _ _, below_drewN HB6.out _⟩
                · have q1' : decide (u ≤ z.til) = false := decide_eq_false q1
                  have u1 := RO1.out.2.2.2.1
                  have u2 := RO1.out.2.2.2.2.1
                  by_cases q2 : u - 1 ≤ z.til
                  · have HBD := hidden (badS_j2 (M := M) (v := v2) q1 q2)
                    clear hown6
                    go_wp2_with fail
                    go_quiet (fail)
                    go_wp2_with fail
                    go_ret3
                    rw [HD.out, decS_bad HR1.out HR2.out (HBD.out)]
                    exact ⟨_, rfl, World.ownsRow_nil _ _ _ _, below_drewN HB6.out _⟩
                  · have q2' : decide (u - 1 ≤ z.til) = false := decide_eq_false q2
                    have HBD := hidden (badS_j3 (M := M) q0 q1 q2)
                    go_wp2_with fail
                    go_quiet (fail)
                    generalize hwb : w6.drewN nq = wb
                    have hownB : wb.ownsRow w.heap.size 51 2 _ _ _ := hwb ▸ own_drewN hown6 nq
                    have hXB : Whole1 wb X 51 #[.int .i64 u, .int .i64 v2] := hwb ▸ HX6.out.drewN nq
                    have hbB : Below w.heap.size w wb := hwb ▸ below_drewN HB6.out nq
                    have k0 := hXB.cell 0
                    have k1 := hXB.cell 1
                    have hbs2 := hbB.size
                    have hfr := Row.fresh wb 51 2 1 [.int .i64 u, .int .i64 v2] rfl
                    clear hwb hXB HX6 d0 d1 HB6
                    clear z1 q1 q2
                    go_wp2_with (at_builtin; refine wpList_app _ rfl _ _ 30 rfl w.heap.size 51 i0 _ 2 16 Try.underlying30 hi hz0 hz1 hz2 rfl (by decide) _ _ _ rfl (hownB.alloc _) _ _ _ _ _ rfl hfr (by simp [Value.oneCell']) (by unfold maxLen; omega) (by omega) (by simp; omega) ?_; intro v9 w9 hown9 hg9 hat9)
                    have hb9 : Below w.heap.size w w9 := (hbB.alloc hbs2 _).grown hg9 (by simp; omega) (fun q hq => (hownB.lt q hq).1)
                    clear hbB hbs2 hownB hg9 hat9 hfr k0 k1
                    go_wp2_with fail
                    go_roundw
                    case rel => exact ⟨k, c, (M ++ [z]) ++ [⟨u, v2⟩], v9, rfl, by go_num, rfl, rfl, by omega, by have := RO2.out; omega, RO2.out.2.2.1, by simpa [Spn.cells] using hown9, by have := RO1.out; have := RO2.out; simp only [List.length_append, List.length_singleton] at *; omega, hidden (HD.out.trans (decS_go HR1.out HR2.out HBD.out)), hidden (fun y hy => by
                      rcases List.mem_append.1 hy with hy | hy
                      · exact hok.out y hy
                      · rw [List.mem_singleton.1 hy]; exact ⟨RO1.out.2.2.2.1, RO1.out.2.2.2.2.1, RO2.out.2.2.2.1, RO2.out.2.2.2.2.1⟩), hb9⟩
                    case measure => simp [intOf]
          · go_wp2_with fail
            go_ret3
            rw [hdec.out, decS_e2 HR1.out HR2.out he2]
            exact ⟨_, rfl, World.ownsRow_nil _ _ _ _, HB.out.trans ((HB5.out.setCell (p := ⟨X, 1, none⟩) (Nat.le_refl X) _).mono hbs)⟩
        · go_wp2_with fail
          go_ret3
          rw [hdec.out, decS_e1 HR1.out he1]
          exact ⟨_, rfl, World.ownsRow_nil _ _ _ _, HB.out.trans ((HB3.out.setCell (p := ⟨X, 0, none⟩) (Nat.le_refl X) _).mono hbs)⟩
  · go_wp2_with fail
    go_ret3
    rw [decR_e h1 he]
    exact ⟨_, rfl, World.ownsRow_nil _ _ _ _, hb1⟩
end Go.Proofs.Ytjklonfheenfbaa
