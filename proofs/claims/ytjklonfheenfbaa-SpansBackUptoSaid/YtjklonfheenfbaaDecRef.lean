/- The reference's Decode, walked. -/
import Derived.Test.YtjklonfheenfbaaDecP
import Derived.Test.YtjklonfheenfbaaIntR
namespace Go.Proofs.Ytjklonfheenfbaa
set_option maxRecDepth 100000
open Go.RowKit Go.Shelf

set_option maxHeartbeats 6400000 in
theorem rDecode_any (s : List UInt8) (a : Int) (w : World) (hs : s.length ≤ 4398046511104) (ha : -9223372036854775808 ≤ a) (ha2 : a < 9223372036854775808) :
    Calls Try.prog 35 #[.string ⟨s.toArray⟩, .int .i64 a] w fun e w' => ∃ v, e = .returned (.tuple #[v, .int .i64 (decR s a).2.1, .int .i64 (decR s a).2.2]) ∧ w'.ownsRow w.heap.size 102 2 v (decR s a).1.length ((decR s a).1.flatMap Spn.cells) ∧ Below w.heap.size w w' := by
  obtain ⟨i0, hi, hz0, hz1, hz2⟩ := info_parts TwnSpn.rinfo
  have HU := hidden (readUintR_any s a w (by omega) ha ha2)
  obtain ⟨n, b, e, h1⟩ : ∃ n b e, readU s a = (n, b, e) := ⟨_, _, _, rfl⟩
  have hlt := readU_lt s a
  rw [h1] at HU hlt
  simp only at hlt
  have H1 := hidden h1
  go_enter Try.func35, Try.ntmps35
  go_wp2_with fail
  refine HU.out.mono ?_
  rintro e1 w1 ⟨rfl, hb1⟩
  by_cases he : e = 0
  · subst he
    have hD := hidden (decR_go h1)
    have F := hidden (readU_ok h1)
    have B1 := hidden hb1
    clear HU h1 H1 hb1
    go_wp2_with fail
    go_loopw [8, 10] (fun va vo wr => ∃ (k : Nat) (p : Int) (out : List Spn) (v : Value), va = .int .i64 p ∧ v = vo ∧ k + out.length = n ∧ 0 ≤ p ∧ p ≤ s.length ∧ wr.ownsRow w.heap.size 102 2 v out.length (out.flatMap Spn.cells) ∧ (out.length : Int) * 2 ≤ p ∧ Hid (decR s a = decS s k p out) ∧ Hid (∀ x ∈ out, x.ok) ∧ Below w.heap.size w wr) (fun va _ _ => (s.length - intOf va).toNat)
    case atStart => exact ⟨n, b, [], _, rfl, rfl, by simp, by have := F.out; omega, F.out.2.2.1, World.ownsRow_nil _ _ _ _, by have := F.out; simp; omega, hD, hidden (by simp), B1.out⟩
    case round =>
      obtain ⟨k, p, out, v, rfl, rfl, hkn, hp0, hp1, hown, hol, hdec, hok, hb⟩ := hrel
      clear hD B1 F
      match k with
      | 0 =>
        obtain ⟨A4, c4, rfl, _, _⟩ := own_shape hown
        have hk0 : ¬ (out.length : Int) < (n : Int) := by omega
        go_wp2_with fail
        go_ret3
        rw [hdec.out, decS_zero]
        exact ⟨_, rfl, hown, hb⟩
      | k + 1 =>
        obtain ⟨A4, c4, rfl, _, _⟩ := own_shape hown
        have hk0 : (out.length : Int) < (n : Int) := by omega
        have hbs := hb.size
        have hI := hidden (fun p w h1 h2 => readIntR_any s p w (by omega) h1 h2)
        obtain ⟨u, b', e1, h1⟩ : ∃ u b e, readI s p = (u, b, e) := ⟨_, _, _, rfl⟩
        have S1 := hI.out p wr (by omega) (by omega)
        rw [h1] at S1
        have HS1 := hidden S1
        have HR1 := hidden h1
        have HOWN := hidden hown
        have HB := hidden hb
        clear S1 h1 hown hb
        go_wp2_with fail
        refine HS1.out.mono ?_
        rintro e w3 ⟨rfl, hb3⟩
        have HB3 := hidden (HB.out.trans (hb3.mono hbs))
        have HOWN3 := hidden (own_below HOWN.out hb3 (Nat.le_refl _))
        clear hb3 hbs HS1 HB HOWN
        by_cases he1 : e1 = 0
        · subst he1
          have RO1 := hidden (readI_ok HR1.out)
          obtain ⟨v2, c, e2, h2⟩ : ∃ v c e, readI s b' = (v, c, e) := ⟨_, _, _, rfl⟩
          have S2 := hI.out b' w3 (by have := RO1.out; omega) (by have := RO1.out; omega)
          rw [h2] at S2
          have HS2 := hidden S2
          have HR2 := hidden h2
          clear S2 h2
          go_wp2_with fail
          refine HS2.out.mono ?_
          rintro e w5 ⟨rfl, hb5⟩
          have HB5 := hidden (HB3.out.trans (hb5.mono HB3.out.size))
          have HOWN5 := hidden (own_below HOWN3.out hb5 (Nat.le_refl _))
          clear hb5 HS2 HB3 HOWN3
          by_cases he2 : e2 = 0
          · subst he2
            have RO2 := hidden (readI_ok HR2.out)
            have HD := hidden hdec.out
            clear hdec hI
            go_upto_region 13 with (fail)
            have hbs2 := HB5.out.size
            have hbB := HB5.out.alloc hbs2 (.cells #[.int .i64 u, .int .i64 v2] 102)
            have hownB := HOWN5.out.alloc (.cells #[.int .i64 u, .int .i64 v2] 102)
            have hX := Whole1.new w5 102 #[.int .i64 u, .int .i64 v2]
            generalize w5.alloc (.cells #[.int .i64 u, .int .i64 v2] 102) = w6 at hbB hownB hX ⊢
            obtain ⟨X, hXe⟩ : ∃ X, w5.heap.size = X := ⟨_, rfl⟩
            rw [hXe] at hX hbs2 ⊢
            have d0 := hX.cell 0
            have d1 := hX.cell 1
            have HX := hidden hX
            clear hXe HB5 HOWN5 hX hbs2
            have hbs2 := hbB.size
            by_cases q0 : v2 < u
            · have HBD := hidden (show badS out ⟨u, v2⟩ = true by simp [badS, q0])
              clear hownB
              go_wp2_with fail
              go_ret3
              rw [HD.out, decS_bad HR1.out HR2.out (HBD.out)]
              exact ⟨_, rfl, World.ownsRow_nil _ _ _ _, hbB⟩
            · rcases List.eq_nil_or_concat out with rfl | ⟨M, z, rfl⟩
              · have HBD := hidden (show badS [] ⟨u, v2⟩ = false by simp [badS, q0])
                have hfr := Row.fresh w6 102 2 1 [.int .i64 u, .int .i64 v2] rfl
                go_wp2_with (at_builtin; refine wpList_app _ rfl _ _ 34 rfl w.heap.size 102 i0 _ 2 16 Try.underlying34 hi hz0 hz1 hz2 rfl (by decide) _ _ _ rfl (hownB.alloc _) _ _ _ _ _ rfl hfr (by simp [Value.oneCell']) (by unfold maxLen; omega) (by omega) (by simp; omega) ?_; intro v9 w9 hown9 hg9 hat9)
                have hb9 : Below w.heap.size w w9 := (hbB.alloc hbs2 _).grown hg9 (by simp; omega) (fun q hq => (hownB.lt q hq).1)
                clear hbB hbs2 hownB hg9 hat9 hfr d0 d1
                go_wp2_with fail
                go_roundw
                case rel => exact ⟨k, c, [] ++ [⟨u, v2⟩], v9, rfl, rfl, by simp at hkn ⊢; omega, by have := RO2.out; omega, RO2.out.2.2.1, by simpa [Spn.cells] using hown9, by have := RO1.out; have := RO2.out; simp only [List.length_append, List.length_singleton] at *; omega, hidden (HD.out.trans (decS_go HR1.out HR2.out HBD.out)), hidden (fun y hy => by
                  rcases List.mem_append.1 hy with hy | hy
                  · exact hok.out y hy
                  · rw [List.mem_singleton.1 hy]; exact ⟨RO1.out.2.2.2.1, RO1.out.2.2.2.2.1, RO2.out.2.2.2.1, RO2.out.2.2.2.2.1⟩), hb9⟩
                case measure => have := RO1.out; have := RO2.out; simp only [intOf]; omega
              · rw [List.concat_eq_append] at *
                have hownL : w6.ownsRow w.heap.size 102 2 (.slice A4 (M ++ [z]).length c4) (M.length + 1) ((M ++ [z]).flatMap Spn.cells) := by
                  have e : (M ++ [z]).length = M.length + 1 := by simp
                  rw [← e]; exact hownB
                have hlen : (M ++ [z]).length = M.length + 1 := by simp
                rw [hlen] at hownL hol hk0 hkn ⊢
                clear hownB hlen
                obtain ⟨g, cap, rest, heq, hg, hw, hnc, hc, _, hm2⟩ := own_whole_g spnK hownL (by omega)
                simp only [Value.slice.injEq] at heq
                obtain ⟨rfl, _, rfl⟩ := heq
                have hzo := hok.out z (by simp)
                have hxo : (⟨u, v2⟩ : Spn).ok := ⟨RO1.out.2.2.2.1, RO1.out.2.2.2.2.1, RO2.out.2.2.2.1, RO2.out.2.2.2.2.1⟩
                have hzM : (M ++ [z])[M.length]? = some z := by simp
                have e0 : w6.cell? ⟨g, M.length * 2, none⟩ = some (.int .i64 z.frm) := whole_at spnK hw hzM 0 (by omega)
                have e1 : w6.cell? ⟨g, M.length * 2 + 1, none⟩ = some (.int .i64 z.til) := whole_at spnK hw hzM 1 (by omega)
                have l0 : (0 : Int) < (M.length : Int) + 1 := by omega
                have l1 : (0 : Int) ≤ (M.length : Int) := by omega
                have l2 : (M.length : Int) < (M.length : Int) + 1 := by omega
                have r0 := cell_regrown d0
                have r1 := cell_regrown d1
                have r2 := cell_regrown e0
                have r3 := cell_regrown e1
                have S1 : Hid (∀ D os, Calls Try.prog 59 #[.agg #[.int .i64 z.frm, .int .i64 z.til], .agg #[.int .i64 u, .int .i64 v2]] (Go.Sort.grow (redrawn w6 D) os) fun e w'' => e = .returned (.bool (joinB z ⟨u, v2⟩)) ∧ ∃ p : Regrown, w'' = Go.Sort.grow (redrawn w6 p.d) p.os) :=
                  hidden fun D os => Calls.regrown_of (touch_any z ⟨u, v2⟩ _ hzo hxo)
                clear d0 d1 e0 e1 hw hzM hzo hxo
                go_wp2_with fail
                refine wp_region_quiet_below (by kernel_rfl) (by kernel_rfl) ?_
                repeat (first | go_big_quiet_step (exact S1.out _ _) | quiet_step (exact S1.out _ _))
                refine wpQuiet_nil ?_
                intro _ hw'
                obtain ⟨⟨dq, osq⟩, hw''⟩ := hw'
                subst hw''
                clear r0 r1 r2 r3 S1
                have hb7 : Below w6.heap.size w6 (Go.Sort.grow (redrawn w6 (Regrown.mk dq osq).d) (Regrown.mk dq osq).os) := below_regrown _ _ _
                generalize Go.Sort.grow (redrawn w6 (Regrown.mk dq osq).d) (Regrown.mk dq osq).os = w7 at hb7 ⊢
                have hX7 := HX.out.below hb7 HX.out.lt
                have hb8 := hbB.trans (hb7.mono hbs2)
                have hO7 := own_below hownL hb7 (Nat.le_refl _)
                clear hbB hownL HX hbs2 hb7
                have hbB := hb8
                have hownB := hO7
                have hbs2 := hbB.size
                have d0 := hX7.cell 0
                have d1 := hX7.cell 1
                clear hb8 hO7 hX7
                generalize hjb : joinB z ⟨u, v2⟩ = jb
                have HJB := hidden hjb
                clear hjb
                cases jb
                · have HBD := hidden (show badS (M ++ [z]) ⟨u, v2⟩ = false by rw [badS_snoc, HJB.out]; simp [q0])
                  have hfr := Row.fresh w7 102 2 1 [.int .i64 u, .int .i64 v2] rfl
                  go_wp2_with (at_builtin; refine wpList_app _ rfl _ _ 34 rfl w.heap.size 102 i0 _ 2 16 Try.underlying34 hi hz0 hz1 hz2 rfl (by decide) _ _ _ rfl (hownB.alloc _) _ _ _ _ _ rfl hfr (by simp [Value.oneCell']) (by unfold maxLen; omega) (by omega) (by simp; omega) ?_; intro v9 w9 hown9 hg9 hat9)
                  have hb9 : Below w.heap.size w w9 := (hbB.alloc hbs2 _).grown hg9 (by simp; omega) (fun q hq => (hownB.lt q hq).1)
                  clear hbB hbs2 hownB hg9 hat9 hfr d0 d1
                  go_wp2_with fail
                  go_roundw
                  case rel => exact ⟨k, c, (M ++ [z]) ++ [⟨u, v2⟩], v9, rfl, rfl, by simp at hkn ⊢; omega, by have := RO2.out; omega, RO2.out.2.2.1, by simpa [Spn.cells] using hown9, by have := RO1.out; have := RO2.out; simp only [List.length_append, List.length_singleton] at *; omega, hidden (HD.out.trans (decS_go HR1.out HR2.out HBD.out)), hidden (fun y hy => by
                    rcases List.mem_append.1 hy with hy | hy
                    · exact hok.out y hy
                    · rw [List.mem_singleton.1 hy]; exact ⟨RO1.out.2.2.2.1, RO1.out.2.2.2.2.1, RO2.out.2.2.2.1, RO2.out.2.2.2.2.1⟩), hb9⟩
                  case measure => have := RO1.out; have := RO2.out; simp only [intOf]; omega
                · have HBD := hidden (show badS (M ++ [z]) ⟨u, v2⟩ = true by rw [badS_snoc, HJB.out]; simp)
                  clear hownB
                  go_wp2_with fail
                  go_ret3
                  rw [HD.out, decS_bad HR1.out HR2.out (HBD.out)]
                  exact ⟨_, rfl, World.ownsRow_nil _ _ _ _, hbB⟩
          · go_wp2_with fail
            go_ret3
            rw [hdec.out, decS_e2 HR1.out HR2.out he2]
            exact ⟨_, rfl, World.ownsRow_nil _ _ _ _, HB5.out⟩
        · go_wp2_with fail
          go_ret3
          rw [hdec.out, decS_e1 HR1.out he1]
          exact ⟨_, rfl, World.ownsRow_nil _ _ _ _, HB3.out⟩
  · go_wp2_with fail
    go_ret3
    rw [decR_e h1 he]
    exact ⟨_, rfl, World.ownsRow_nil _ _ _ _, hb1⟩
end Go.Proofs.Ytjklonfheenfbaa
