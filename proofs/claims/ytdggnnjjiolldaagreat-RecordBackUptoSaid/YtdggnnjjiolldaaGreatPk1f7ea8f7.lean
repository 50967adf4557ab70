/- spans.Decode, walked. record.Decode's third closure: times that are taken away. Condition: the record that is being read lies as it says. -/
import Derived.Test.YtdggnnjjiolldaaGreatPk17367d35
import Derived.Test.YtdggnnjjiolldaaGreatPkfa4ebbd5
import Derived.Test.YtdggnnjjiolldaaGreatPkc4e77633
import Derived.Deep.RegionLaw
import Derived.RegionDies
namespace Go.Proofs.YtdggnnjjiolldaaGreat
set_option maxRecDepth 100000
open Go.RowKit Go.Shelf

set_option maxHeartbeats 6400000 in
theorem decode_any (s : List UInt8) (a : Int) (w : World) (hs : s.length ≤ 4398046511104) (ha : -9223372036854775808 ≤ a) (ha2 : a < 9223372036854775808) :
    Calls Tryz.prog 39 #[.string ⟨s.toArray⟩, .int .i64 a] w fun e w' => ∃ v, e = .returned (.tuple #[v, .int .i64 (decR s a).2.1, .int .i64 (decR s a).2.2]) ∧ w'.ownsRow w.heap.size 101 2 v (decR s a).1.length ((decR s a).1.flatMap Spn.cells) ∧ Below w.heap.size w w' := by
  obtain ⟨i0, hi, hz0, hz1, hz2⟩ := info_parts ClnSpn.info
  have HU := hidden (readUint_any s a w (by omega) ha ha2)
  obtain ⟨n, b, e, h1⟩ : ∃ n b e, readU s a = (n, b, e) := ⟨_, _, _, rfl⟩
  have hlt := readU_lt s a
  rw [h1] at HU hlt
  simp only at hlt
  have H1 := hidden h1
  go_enter Tryz.func39, Tryz.ntmps39
  go_wp2_with fail
  refine HU.out.mono ?_
  rintro e1 w1 ⟨rfl, hb1⟩
  by_cases he : e = 0
  · subst he
    have hD := hidden (decR_go h1)
    have F := hidden (readU_ok h1)
    have B1 := hidden hb1
    clear HU h1 H1 hb1
    go_wp2_with fail
    go_loopw [1, 7, 8, 9] (fun va vn ve vo wr => ∃ (k : Nat) (p : Int) (out : List Spn) (v : Value), va = .int .i64 p ∧ vn = .int .u64 k ∧ ve = .int .i64 0 ∧ v = vo ∧ k < 18446744073709551616 ∧ 0 ≤ p ∧ p ≤ s.length ∧ wr.ownsRow w.heap.size 101 2 v out.length (out.flatMap Spn.cells) ∧ (out.length : Int) * 2 ≤ p ∧ Hid (decR s a = decS s k p out) ∧ Hid (∀ x ∈ out, x.ok) ∧ Below w.heap.size w wr) (fun _ vn _ _ _ => (intOf vn).toNat)
    case atStart => exact ⟨n, b, [], _, rfl, rfl, rfl, rfl, hlt, by have := F.out; omega, F.out.2.2.1, World.ownsRow_nil _ _ _ _, by have := F.out; simp; omega, hD, hidden (by simp), B1.out⟩
    case round =>
      obtain ⟨k, p, out, v, rfl, rfl, rfl, rfl, hk, hp0, hp1, hown, hol, hdec, hok, hb⟩ := hrel
      clear hD B1 F hlt
      match k with
      | 0 =>
        go_wp2_with fail
        go_ret3
        rw [hdec.out, decS_zero]
        exact ⟨_, rfl, hown, hb⟩
      | k + 1 =>
        have hk0 : (0 : Int) < ((k + 1 : Nat) : Int) := by omega
        have hbs := hb.size
        have hI := hidden (fun p w h1 h2 => readInt_any s p w (by omega) h1 h2)
        obtain ⟨u, b', e1, h1⟩ : ∃ u b e, readI s p = (u, b, e) := ⟨_, _, _, rfl⟩
        go_upto_region 8 with (fail)
        have hX := Whole1.new wr 101 #[.int .i64 0, .int .i64 0]
        obtain ⟨X, hXe⟩ : ∃ X, wr.heap.size = X := ⟨_, rfl⟩
        have hB : Below X wr (wr.alloc (.cells #[.int .i64 0, .int .i64 0] 101)) := (Below.refl _ _).alloc (Nat.le_of_eq hXe.symm) _
        generalize wr.alloc (.cells #[.int .i64 0, .int .i64 0] 101) = w2 at hX hB ⊢
        rw [hXe] at hX hbs ⊢
        have HXE := hidden hXe
        have HX := hidden hX
        have HB2 := hidden hB
        have HOWN := hidden hown
        have HB := hidden hb
        have x0 : ∀ w, (Instr.index 126 (.agg #[.pointer (some ⟨X, 0, none⟩), .pointer (some ⟨X, 1, none⟩)]) (.int .i64 0)).run Tryz.prog w = .ok (.pointer (some ⟨X, 0, none⟩)) w := fun _ => by kernel_rfl
        have x1 : ∀ w, (Instr.index 126 (.agg #[.pointer (some ⟨X, 0, none⟩), .pointer (some ⟨X, 1, none⟩)]) (.int .i64 1)).run Tryz.prog w = .ok (.pointer (some ⟨X, 1, none⟩)) w := fun _ => by kernel_rfl
        clear hb hXe hown hX hB
        have S1 := hI.out p w2 (by omega) (by omega)
        rw [h1] at S1
        have HS1 := hidden S1
        have HR1 := hidden h1
        clear S1 h1
        go_wp2_with fail
        refine wp_loop_rounds 3 ?_
        rw [rounds_succ]
        go_wp2_with fail
        refine HS1.out.mono ?_
        rintro e w3 ⟨rfl, hb3⟩
        have hX3 := HX.out.below hb3 HX.out.lt
        have HB3 := hidden (HB2.out.trans (hb3.mono (by have := HX.out.lt; omega)))
        have c0 := hX3.cell 0
        have f0 := hX3.free 0
        have HX3 := hidden hX3
        clear hb3 hX3 HX HB2 HS1
        by_cases he1 : e1 = 0
        · subst he1
          have RO1 := hidden (readI_ok HR1.out)
          go_wp2_with fail
          rw [rounds_succ]
          have hX4 := HX3.out.put 0 (.int .i64 u)
          have hB4 : Below X wr (w3.setCell ⟨X, 0, none⟩ (.int .i64 u)) := HB3.out.setCell (p := ⟨X, 0, none⟩) (Nat.le_refl X) _
          generalize w3.setCell ⟨X, 0, none⟩ (.int .i64 u) = w4 at hX4 hB4 ⊢
          obtain ⟨v2, c, e2, h2⟩ : ∃ v c e, readI s b' = (v, c, e) := ⟨_, _, _, rfl⟩
          have S2 := hI.out b' w4 (by have := RO1.out; omega) (by have := RO1.out; omega)
          rw [h2] at S2
          have HS2 := hidden S2
          have HR2 := hidden h2
          have HX4 := hidden hX4
          have HB4 := hidden hB4
          clear S2 h2 c0 f0 HX3 HB3 hX4 hB4
          go_wp2_with fail
          refine HS2.out.mono ?_
          rintro e w5 ⟨rfl, hb5⟩
          have hX5 := HX4.out.below hb5 HX4.out.lt
          have HB5 := hidden (HB4.out.trans (hb5.mono (by have := HX4.out.lt; omega)))
          have c1 := hX5.cell 1
          have f1 := hX5.free 1
          have HX5 := hidden hX5
          clear hb5 hX5 HX4 HB4 HS2
          by_cases he2 : e2 = 0
          · subst he2
            have RO2 := hidden (readI_ok HR2.out)
            go_wp2_with fail
            rw [rounds_succ]
            have hX6 := HX5.out.put 1 (.int .i64 v2)
            have hB6 : Below X wr (w5.setCell ⟨X, 1, none⟩ (.int .i64 v2)) := HB5.out.setCell (p := ⟨X, 1, none⟩) (Nat.le_refl X) _
            generalize w5.setCell ⟨X, 1, none⟩ (.int .i64 v2) = w6 at hX6 hB6 ⊢
            have hX6' : Whole1 w6 X 101 #[.int .i64 u, .int .i64 v2] := hX6
            have d0 := hX6'.cell 0
            have d1 := hX6'.cell 1
            have HX6 := hidden hX6'
            have hown6 := own_below HOWN.out hB6 (Nat.le_of_eq HXE.out)
            have HB6 := hidden (HB.out.trans (hB6.mono hbs))
            have HD := hidden hdec.out
            clear hX6 hX6' hB6 c1 f1 HX5 HB5 HOWN hdec HXE hI x0 x1 HB
            by_cases q0 : v2 < u
            · have HBD := hidden (show badS out ⟨u, v2⟩ = true by simp [badS, q0])
              obtain ⟨A4, c4, rfl, _, _⟩ := own_shape hown6
              clear hown6
              go_wp2_with fail
              go_quiet (fail)
              go_wp2_with fail
              go_ret3
              rw [HD.out, decS_bad HR1.out HR2.out (HBD.out)]
              exact ⟨_, rfl, World.ownsRow_nil _ _ _ _, below_drewN HB6.out _⟩
            · have q0' : decide (v2 < u) = false := decide_eq_false q0
              rcases List.eq_nil_or_concat out with rfl | ⟨M, z, rfl⟩
              · have HBD := hidden (show badS [] ⟨u, v2⟩ = false by simp [badS, q0])
                obtain ⟨A4, c4, rfl, _, _⟩ := own_shape hown6
                go_wp2_with fail
                go_quiet (fail)
                generalize hwb : w6.drewN nq = wb
                have hownB : wb.ownsRow w.heap.size 101 2 _ _ _ := hwb ▸ own_drewN hown6 nq
                have hXB : Whole1 wb X 101 #[.int .i64 u, .int .i64 v2] := hwb ▸ HX6.out.drewN nq
                have hbB : Below w.heap.size w wb := hwb ▸ below_drewN HB6.out nq
                have k0 := hXB.cell 0
                have k1 := hXB.cell 1
                have hbs2 := hbB.size
                have hfr := Row.fresh wb 101 2 1 [.int .i64 u, .int .i64 v2] rfl
                clear hwb hXB HX6 d0 d1 HB6
                go_wp2_with (at_builtin; refine wpList_app _ rfl _ _ 64 rfl w.heap.size 101 i0 _ 2 16 Tryz.underlying64 hi hz0 hz1 hz2 rfl (by decide) _ _ _ rfl (hownB.alloc _) _ _ _ _ _ rfl hfr (by simp [Value.oneCell']) (by unfold maxLen; omega) (by omega) (by simp; omega) ?_; intro v9 w9 hown9 hg9 hat9)
                have hb9 : Below w.heap.size w w9 := (hbB.alloc hbs2 _).grown hg9 (by simp; omega) (fun q hq => (hownB.lt q hq).1)
                clear hbB hbs2 hownB hg9 hat9 hfr k0 k1
                go_wp2_with fail
                go_roundw
                case rel => exact ⟨k, c, [] ++ [⟨u, v2⟩], v9, rfl, by go_num, rfl, rfl, by omega, by have := RO2.out; omega, RO2.out.2.2.1, by simpa [Spn.cells] using hown9, by have := RO1.out; have := RO2.out; simp only [List.length_append, List.length_singleton] at *; omega, hidden (HD.out.trans (decS_go HR1.out HR2.out HBD.out)), hidden (fun y hy => by
                  rcases List.mem_append.1 hy with hy | hy
                  · exact hok.out y hy
                  · rw [List.mem_singleton.1 hy]; exact ⟨RO1.out.2.2.2.1, RO1.out.2.2.2.2.1, RO2.out.2.2.2.1, RO2.out.2.2.2.2.1⟩), hb9⟩
                case measure => simp [intOf]
              · rw [List.concat_eq_append] at *
                have hownL : w6.ownsRow w.heap.size 101 2 v (M.length + 1) ((M ++ [z]).flatMap Spn.cells) := (by simp : (M ++ [z]).length = M.length + 1) ▸ hown6
                clear hown6
                have hown6 := hownL
                obtain ⟨g, cap, rest, rfl, hg, hw, hnc, hc, _, hm2⟩ := own_whole_g spnK hownL (by omega)
                have z1 : w6.cell? ⟨g, M.length * 2 + 1, none⟩ = some (.int .i64 z.til) := by
                  rw [hw.cell, List.getElem?_toArray, List.getElem?_append_left (by rw [fm_len spnK]; simp; omega), fm_at spnK _ M.length z 1 (by simp) (by omega)]; rfl
                have hml : ((M.length : Int) + 1) * 2 ≤ p := by simpa using hol
                have l1 : decide ((M.length : Int) < 0) = false := by simp
                have l2 : (0 : Int) ≤ (M.length : Int) := by omega
                have l3 : (M.length : Int) < (M.length : Int) + 1 := by omega
                obtain ⟨z3, z4, z5, z6⟩ := hok.out z (by simp)
                have ub := hidden RO1.out
                clear hw hownL
                by_cases q1 : u ≤ z.til
                · have HBD := hidden (badS_j1 (M := M) (v := v2) q1)
                  clear hown6
                  go_wp2_with fail
                  go_quiet (fail)
                  go_wp2_with fail
                  go_ret3
                  rw [HD.out, decS_bad HR1.out HR2.out (HBD.out)]
                  exact ⟨_, rfl, World.ownsRow_nil _ _ _ _, below_drewN HB6.out _⟩
                · have q1' : decide (u ≤ z.til) = false := decide_eq_false q1
                  have u1 := RO1.out.2.2.2.1
                  have u2 := RO1.out.2.2.2.2.1
                  by_cases q2 : u - 1 ≤ z.til
                  · have HBD := hidden (badS_j2 (M := M) (v := v2) q1 q2)
                    clear hown6
                    go_wp2_with fail
                    go_quiet (fail)
                    go_wp2_with fail
                    go_ret3
                    rw [HD.out, decS_bad HR1.out HR2.out (HBD.out)]
                    exact ⟨_, rfl, World.ownsRow_nil _ _ _ _, below_drewN HB6.out _⟩
                  · have q2' : decide (u - 1 ≤ z.til) = false := decide_eq_false q2
                    have HBD := hidden (badS_j3 (M := M) q0 q1 q2)
                    go_wp2_with fail
                    go_quiet (fail)
                    generalize hwb : w6.drewN nq = wb
                    have hownB : wb.ownsRow w.heap.size 101 2 _ _ _ := hwb ▸ own_drewN hown6 nq
                    have hXB : Whole1 wb X 101 #[.int .i64 u, .int .i64 v2] := hwb ▸ HX6.out.drewN nq
                    have hbB : Below w.heap.size w wb := hwb ▸ below_drewN HB6.out nq
                    have k0 := hXB.cell 0
                    have k1 := hXB.cell 1
                    have hbs2 := hbB.size
                    have hfr := Row.fresh wb 101 2 1 [.int .i64 u, .int .i64 v2] rfl
                    clear hwb hXB HX6 d0 d1 HB6
                    clear z1 q1 q2
                    go_wp2_with (at_builtin; refine wpList_app _ rfl _ _ 64 rfl w.heap.size 101 i0 _ 2 16 Tryz.underlying64 hi hz0 hz1 hz2 rfl (by decide) _ _ _ rfl (hownB.alloc _) _ _ _ _ _ rfl hfr (by simp [Value.oneCell']) (by unfold maxLen; omega) (by omega) (by simp; omega) ?_; intro v9 w9 hown9 hg9 hat9)
                    have hb9 : Below w.heap.size w w9 := (hbB.alloc hbs2 _).grown hg9 (by simp; omega) (fun q hq => (hownB.lt q hq).1)
                    clear hbB hbs2 hownB hg9 hat9 hfr k0 k1
                    go_wp2_with fail
                    go_roundw
                    case rel => exact ⟨k, c, (M ++ [z]) ++ [⟨u, v2⟩], v9, rfl, by go_num, rfl, rfl, by omega, by have := RO2.out; omega, RO2.out.2.2.1, by simpa [Spn.cells] using hown9, by have := RO1.out; have := RO2.out; simp only [List.length_append, List.length_singleton] at *; omega, hidden (HD.out.trans (decS_go HR1.out HR2.out HBD.out)), hidden (fun y hy => by
                      rcases List.mem_append.1 hy with hy | hy
                      · exact hok.out y hy
                      · rw [List.mem_singleton.1 hy]; exact ⟨RO1.out.2.2.2.1, RO1.out.2.2.2.2.1, RO2.out.2.2.2.1, RO2.out.2.2.2.2.1⟩), hb9⟩
                    case measure => simp [intOf]
          · go_wp2_with fail
            go_ret3
            rw [hdec.out, decS_e2 HR1.out HR2.out he2]
            exact ⟨_, rfl, World.ownsRow_nil _ _ _ _, HB.out.trans ((HB5.out.setCell (p := ⟨X, 1, none⟩) (Nat.le_refl X) _).mono hbs)⟩
        · go_wp2_with fail
          go_ret3
          rw [hdec.out, decS_e1 HR1.out he1]
          exact ⟨_, rfl, World.ownsRow_nil _ _ _ _, HB.out.trans ((HB3.out.setCell (p := ⟨X, 0, none⟩) (Nat.le_refl X) _).mono hbs)⟩
  · go_wp2_with fail
    go_ret3
    rw [decR_e h1 he]
    exact ⟨_, rfl, World.ownsRow_nil _ _ _ _, hb1⟩
end Go.Proofs.YtdggnnjjiolldaaGreat

namespace Go.Proofs.YtdggnnjjiolldaaGreat
set_option maxRecDepth 100000
open Go.RowKit Go.Shelf

theorem numP_of {s : List UInt8} {a b : Int} {r : Nat} (he : (readU s a).2.2 = 0) (hr : min (readU s a).1 4611686018427387904 = r) (hb : (readU s a).2.1 = b) : numP s a = some (r, b) := by rw [numP, if_pos he, hr, hb]
theorem numP_no {s : List UInt8} {a : Int} (he : (readU s a).2.2 ≠ 0) : numP s a = none := by rw [numP, if_neg he]

set_option maxHeartbeats 3200000 in
theorem dec4_any (w0 : World) (g O E V Rd bP : Nat) (s : List UInt8) (σ : PS) (N : List NewR) (G : List GonR) (vN vP vG : Value) (w : World) (hs : s.length ≤ 4294967296) (ho : σ.Ok s) (h : DAt w0 g O E V Rd bP s σ N G vN vP vG w) :
    Calls Tryz.prog 37 #[.pointer (some ⟨V, 0, none⟩), .pointer (some ⟨O, 0, none⟩)] w fun e w' =>
      match stepG s σ with
      | some τ => e = .returned (.tuple #[]) ∧ ∃ G' vG', DAt w0 g O E V Rd bP s τ N G' vN vP vG' w'
      | none => PanB (DBad w0 g O E) e w' := by
  obtain ⟨i0, hi, hz0, hz1, hz2⟩ := info_parts infoGonR
  have HOK := hidden ho
  have lo := ho.lo
  have hi2 := ho.hi
  have NUM := hidden (fun (τ : PS) (W : World) (hd : DAt w0 g O E V Rd bP s τ N G vN vP vG W) (h1 : 0 ≤ τ.a) (h2 : τ.a ≤ s.length) => number_any Rd s τ.a W hd.rd (by omega) (by omega) (by omega))
  have H0 := hidden (h.on ((Below.refl _ _).drew))
  have c0 := H0.out.var.cell 0
  obtain ⟨T, hT⟩ : ∃ T, stepG s σ = T := ⟨_, rfl⟩
  have HT := hidden hT
  rw [hT]
  clear hT h ho
  go_enter Tryz.func37, Tryz.ntmps37
  go_wp2_with fail
  by_cases he : (readU s σ.a).2.2 = 0
  · obtain ⟨r, hr⟩ : ∃ r, min (readU s σ.a).1 4611686018427387904 = r := ⟨_, rfl⟩
    obtain ⟨b, hb⟩ : ∃ b, (readU s σ.a).2.1 = b := ⟨_, rfl⟩
    have hx := numP_of he hr hb
    obtain ⟨p1, p2, p3, p4⟩ := numP_ok hx
    simp only at p1 p3 p4
    have S1 := hidden ((NUM.out σ _ H0.out lo hi2).mono fun _ _ h => h.elim (fun k => k.2) fun k => absurd he k.1)
    rw [hr, hb] at S1
    clear hr hb he
    have PN := hidden (fun (he2 : (readU s b).2.2 ≠ 0) => (by rw [← HT.out, stepG, hx]; simp only [Option.bind_some, numP_no he2]; rfl : none = T))
    have S2 := hidden (fun W hd => NUM.out { σ with a := b } W hd (by simp only; omega) (by simp only; omega))
    simp only at S2
    go_region_law (first
      | (go_simp; go_at_call 29; refine (S2.out w2 D2.out).mono ?_; rintro e w' (⟨he2, w3, rfl, b3, rfl⟩ | ⟨he2, t, x, rfl, b3⟩); rotate_left; (obtain rfl := PN.out he2; exact ⟨rfl, t, x, rfl, (D2.out.on b3).bad⟩); have D3 := hidden ((D2.out.on b3).seek (readU s b).2.1); generalize w3.setCell ⟨Rd, 1, none⟩ (.int .i64 (readU s b).2.1) = w4 at D3 ⊢; clear b3)
      | (go_simp; go_at_call 29; refine S1.out.mono ?_; rintro e w' ⟨w1, rfl, b1, rfl⟩; have D2 := hidden ((H0.out.on b1).seek b); generalize w1.setCell ⟨Rd, 1, none⟩ (.int .i64 b) = w2 at D2 ⊢; have v2 := D2.out.var.cell 0; clear b1))
    all_goals
      clear S1 S2 PN H0 c0 v2
      obtain ⟨q, hq⟩ : ∃ r, min (readU s b).1 4611686018427387904 = r := ⟨_, rfl⟩
      obtain ⟨d, hd⟩ : ∃ d, (readU s b).2.1 = d := ⟨_, rfl⟩
      have hy := numP_of he2 hq hd
      obtain ⟨q1, q2, q3, q4⟩ := numP_ok hy
      simp only at q1 q3 q4
      rw [hd] at D3
      rw [hq]
      have hst : stepG s σ = if (decR s d).2.2 = 0 then some { σ with a := (decR s d).2.1, gones := σ.gones ++ [((r : Int), (q : Int), (decR s d).1)] } else none := by rw [stepG, hx]; simp only [Option.bind_some, hy]
      clear hq hd he2 hx hy
      obtain ⟨L, c, er, hD⟩ : ∃ L c e, decR s d = (L, c, e) := ⟨_, _, _, rfl⟩
      rw [hD] at hst
      simp only at hst
      obtain ⟨gA, gc, rfl, hgc, -⟩ := own_shape D3.out.gown
      have S2 := hidden (take_s Rd ⟨s.toArray⟩ d c er (fun v W => W.ownsRow g 101 2 v L.length (L.flatMap Spn.cells)) w4.drew D3.out.rd fun W hW => (decode_any s d W (by omega) (by omega) (by omega)).mono fun e w' ⟨v, k1, k2, k3⟩ => by
        rw [hD] at k1 k2
        exact ⟨v, k1, own_down k2 (Nat.le_trans D3.out.le hW.size), k3⟩)
      have d0 := D3.out.var.cell 0
      have o0 := D3.out.out.cell 2
      clear hD D2
      go_wp2_with fail
      by_cases he : er = 0
      · subst he
        rw [if_pos rfl] at hst
        obtain rfl := hst.symm.trans HT.out
        clear hst HT
        have S3 := hidden (S2.out.mono fun _ _ h => h.elim (fun k => k.2) fun k => absurd rfl k.1)
        clear S2
        have T := fun (W : World) (hW : W.ownsRow g 66 3 (.slice gA G.length gc) G.length (G.flatMap GonR.cells)) (hgW : g ≤ W.heap.size) (u : Value) (h1c : u.oneCell' = true) (ops : Array Oper) (o : Oper) (a : Act) (K : Act → World → Prop) (Q : Exit → Act → World → Prop) (E : Prop) (hg : o.guard = none) (s1 s2 : Operand) (ho : o.op = .call { callee := .builtin .append, args := #[s1, s2], argTypes := #[24, 24] }) (hs : a.eval s1 = .slice gA G.length gc) (hx : a.eval s2 = .slice (some ⟨W.heap.size, 0, none⟩) 1 1) h =>
          step_appR (P := Tryz.prog) (ops := ops) (o := o) (a := a) (K := K) (Q := Q) (E := E) (W.alloc (.cells #[.int .i64 (r : Int), .int .i64 (q : Int), u] 66)) hg s1 s2 24 ho g 66 i0 _ 3 40 Tryz.underlying24 hi hz0 hz1 hz2 rfl (by decide) _ _ _ hs (hW.alloc _) _ _ _ _ [.int .i64 (r : Int), .int .i64 (q : Int), u] hx (Row.fresh W 66 3 1 [.int .i64 (r : Int), .int .i64 (q : Int), u] rfl) (by intro y hy; simp at hy; rcases hy with rfl | rfl | rfl; exact rfl; exact rfl; exact h1c) (by unfold maxLen; have h2 := HOK.out.gn; rw [← D3.out.gv] at h2; simp at h2; omega) (by have h2 := HOK.out.gn; rw [← D3.out.gv] at h2; simp at h2; omega) (by rw [World.size_alloc]; exact Nat.le_succ_of_le hgW) h
        go_region_law (first
          | (refine T w6 D5.out.gown D5.out.le (.slice LA L.length lc) rfl _ _ _ _ _ _ rfl _ _ rfl rfl rfl ?_; intro v' w7 hown7 hg7 _; obtain ⟨A7, c7, rfl, _, _⟩ := own_shape hown7; have D7 := hidden ((DA.out).putG ⟨r, q, ⟨LA, L.length, lc, L⟩⟩ KA.out hown7 hg7); have f7 := (DO.out w7 hg7).1; have o7 := (DO.out w7 hg7).2.cell 2)
          | (go_simp; go_at_call 38; refine S3.out.mono ?_; rintro e w' ⟨v, w5, rfl, hk4, b4, rfl⟩; obtain ⟨LA, lc, rfl, hlc, -⟩ := own_shape hk4; have D4 := D3.out.on ((Below.refl _ _).drew.trans b4); have D5 := hidden (D4.seek c); have K5 := hidden (Go.ownsRow_setCell_other hk4 (a := ⟨Rd, 1, none⟩) (own_neT hk4 D4.rd (by decide)) (.int .i64 c)); generalize w5.setCell ⟨Rd, 1, none⟩ (.int .i64 c) = w6 at D5 K5 ⊢; have DA := hidden (D5.out.on ((Below.refl _ _).alloc (Nat.le_refl _) (.cells #[.int .i64 (r : Int), .int .i64 (q : Int), .slice LA L.length lc] 66))); have KA := hidden (K5.out.alloc (.cells #[.int .i64 (r : Int), .int .i64 (q : Int), .slice LA L.length lc] 66)); have DO := hidden (fun (w7 : World) (hg7 : World.grownBy (w6.alloc (.cells #[.int .i64 (r : Int), .int .i64 (q : Int), .slice LA L.length lc] 66)) w7 (Value.slice gA G.length gc).ownBlock) => (⟨((DA.out.out.beside DA.out.gown (by decide) hg7).free 2), DA.out.out.beside DA.out.gown (by decide) hg7⟩ : World.frozen? w7 ⟨O, 2, none⟩ = false ∧ Whole1 w7 O 26 #[vN, vP, .slice gA G.length gc])); have o5 := D5.out.out.cell 2; have o5a := DA.out.out.cell 2; clear D4 hk4 b4))
        all_goals
          go_wp2_with fail
          go_end0
          exact ⟨rfl, _, _, D7.out⟩
      · rw [if_neg he] at hst
        obtain rfl := hst.symm.trans HT.out
        clear hst HT
        have S4 := hidden (S2.out.mono fun _ _ h => h.elim (fun k => absurd k.1 he) fun k => k.2)
        clear S2
        go_region_dies
        all_goals
          refine S4.out.mono ?_
          rintro e w' ⟨t, x, rfl, b4⟩
          exact ⟨rfl, _, _, rfl, (D3.out.on ((Below.refl _ _).drew.trans b4)).bad⟩
  · obtain rfl : none = T := by rw [← HT.out, stepG, numP_no he]; rfl
    have S1 := hidden ((NUM.out σ _ H0.out lo hi2).mono fun _ _ h => h.elim (fun k => absurd k.1 he) fun k => k.2)
    go_region_dies
    all_goals
      refine S1.out.mono ?_
      rintro e w' ⟨t, x, rfl, b1⟩
      exact ⟨rfl, _, _, rfl, (H0.out.on b1).bad⟩
end Go.Proofs.YtdggnnjjiolldaaGreat
