/- labels.Decode, walked: the set that bytes tell. Condition: the text is within the reach. -/
import Derived.Test.YtdggnnjjiolldaaGreatPk1e79d9ad
namespace Go.Proofs.YtdggnnjjiolldaaGreat
set_option maxRecDepth 100000
open Go.RowKit

set_option maxHeartbeats 6400000 in
theorem ldec_any (s : List UInt8) (a : Int) (w : World) (hs : s.length ≤ 140737488355328) (ha : -9223372036854775808 ≤ a) (ha2 : a < 9223372036854775808) :
    Calls Tryz.prog 31 #[.string ⟨s.toArray⟩, .int .i64 a] w fun e w' => ∃ v, e = .returned (.tuple #[v, .int .i64 (decL s a).2.1, .int .i64 (decL s a).2.2]) ∧ w'.ownsRow w.heap.size 108 2 v (decL s a).1.length ((decL s a).1.flatMap Lbl.cells) ∧ Below w.heap.size w w' := by
  obtain ⟨i0, hi, hz0, hz1, hz2⟩ := info_parts ClnLbl.info
  have HU := hidden (readUint_any s a w (by omega) ha ha2)
  have HT := hidden (fun p W h1 h2 => readText_any s p W (by omega) h1 h2)
  obtain ⟨n, b0, e0, h1⟩ : ∃ n b e, readU s a = (n, b, e) := ⟨_, _, _, rfl⟩
  have hlt := readU_lt s a
  rw [h1] at HU hlt
  simp only at HU hlt
  obtain ⟨X, hX⟩ : ∃ X, (⟨s.toArray⟩ : ByteArray) = X := ⟨_, rfl⟩
  rw [hX] at HU HT ⊢
  clear hX
  by_cases he : e0 = 0
  · subst he
    have F := hidden (readU_ok h1)
    by_cases hn0 : n = 0
    · subst hn0
      have HD := hidden (decL_zero h1)
      clear h1
      go_enter Tryz.func31, Tryz.ntmps31
      go_wp2_with fail
      refine HU.out.mono ?_
      rintro e1 w1 ⟨rfl, hb1⟩
      go_wp2_with fail
      go_ret3
      rw [HD.out]
      exact ⟨_, rfl, World.ownsRow_nil _ _ _ _, hb1⟩
    · have nz : ((n : Int) == 0) = false := by simp; omega
      by_cases h8 : 8 < n
      · have n8 : (8 : Int) < (n : Int) := by omega
        have HD := hidden (decL_many h1 h8)
        clear h1 h8 hn0
        go_enter Tryz.func31, Tryz.ntmps31
        go_wp2_with fail
        refine HU.out.mono ?_
        rintro e1 w1 ⟨rfl, hb1⟩
        go_wp2_with fail
        go_ret3
        rw [HD.out]
        exact ⟨_, rfl, World.ownsRow_nil _ _ _ _, hb1⟩
      · have n8 : ¬ (8 : Int) < (n : Int) := by omega
        have HG := hidden (decL_go h1 hn0 h8)
        have nw : IntKind.i64.wrap (n : Int) = (n : Int) := Go.IntWalk.i64_in _ (by omega)
        clear h1 hn0
        go_enter Tryz.func31, Tryz.ntmps31
        go_wp2_with fail
        refine HU.out.mono ?_
        rintro e1 w1 ⟨rfl, hb1⟩
        have HB1 := hidden hb1
        clear hb1
        go_wp2_with fail
        go_loopw [1, 8, 9, 31] (fun va ve vo vi wr => ∃ (p : Int) (out : List Lbl), va = .int .i64 p ∧ ve = .int .i64 0 ∧ vi = .int .u64 out.length ∧ out.length ≤ n ∧ 0 ≤ p ∧ p ≤ s.length ∧ wr.ownsRow w.heap.size 108 2 vo out.length (out.flatMap Lbl.cells) ∧ Hid (decL s a = decT s (n - out.length) p out) ∧ Hid (Below w.heap.size w wr)) (fun _ _ _ vi _ => n - (intOf vi).toNat)
        case atStart => exact ⟨b0, [], rfl, rfl, rfl, Nat.zero_le _, by have := F.out; omega, F.out.2.2.1, World.ownsRow_nil _ _ _ _, HG, HB1⟩
        case round =>
          obtain ⟨p, out, rfl, rfl, rfl, hon, hp0, hp1, ho, hdec, hb⟩ := hrel
          clear HB1 HG F
          obtain ⟨A1, c1, rfl, hc1, _⟩ := own_shape ho
          have HO := hidden ho
          clear ho
          have o0 : (0 : Int) ≤ (out.length : Int) := by omega
          have hbs := hb.out.size
          by_cases hlt2 : out.length < n
          · have ol : (out.length : Int) < (n : Int) := by omega
            have ow : IntKind.u64.wrap ((out.length : Int) + 1) = (out.length : Int) + 1 := Go.IntWalk.u64_in _ (by omega)
            obtain ⟨k, hk⟩ : ∃ k, n - out.length = k + 1 := ⟨n - out.length - 1, by omega⟩
            have hk2 : Hid (∀ x : Lbl, n - (out ++ [x]).length = k) := fun x => by rw [List.length_append, List.length_singleton]; omega
            rw [hk] at hdec
            obtain ⟨u, b, e1, h1⟩ : ∃ u b e, readT s p = (u, b, e) := ⟨_, _, _, rfl⟩
            have HR1 := hidden h1
            clear h1
            go_wp2_with fail
            have hX := (Whole1.new wr 108 #[.string ⟨#[]⟩, .string ⟨#[]⟩]).alloc (.cells #[.pointer (some ⟨wr.heap.size, 0, none⟩), .pointer (some ⟨wr.heap.size, 1, none⟩)] 118)
            have hY := Whole1.new (wr.alloc (.cells #[.string ⟨#[]⟩, .string ⟨#[]⟩] 108)) 118 #[.pointer (some ⟨wr.heap.size, 0, none⟩), .pointer (some ⟨wr.heap.size, 1, none⟩)]
            have hBA : Below wr.heap.size wr ((wr.alloc (.cells #[.string ⟨#[]⟩, .string ⟨#[]⟩] 108)).alloc (.cells #[.pointer (some ⟨wr.heap.size, 0, none⟩), .pointer (some ⟨wr.heap.size, 1, none⟩)] 118)) := ((Below.refl _ _).alloc (Nat.le_refl _) _).alloc (by simp) _
            rw [show (wr.alloc (.cells #[.string ⟨#[]⟩, .string ⟨#[]⟩] 108)).heap.size = wr.heap.size + 1 by simp] at hY
            generalize (wr.alloc (.cells #[.string ⟨#[]⟩, .string ⟨#[]⟩] 108)).alloc (.cells #[.pointer (some ⟨wr.heap.size, 0, none⟩), .pointer (some ⟨wr.heap.size, 1, none⟩)] 118) = w2 at hX hY hBA ⊢
            obtain ⟨X1, hX1⟩ : ∃ g, wr.heap.size = g := ⟨_, rfl⟩
            obtain ⟨Y1, hY1⟩ : ∃ g, wr.heap.size + 1 = g := ⟨_, rfl⟩
            rw [hY1, hX1] at hY
            rw [hX1] at hX
            rw [hY1, hX1]
            have HX1 := hidden hX1
            have HNE : Hid (X1 ≠ Y1) := by rw [Hid]; omega
            have y0 := hY.cell 0
            have HX := hidden hX
            have HY := hidden hY
            have HB2 := hidden hBA
            have HB := hidden hb.out
            have S1 := hidden (HT.out p w2 (by omega) (by omega))
            rw [HR1.out] at S1
            clear hX hY hBA hX1 hY1 hb
            refine wp_loop_rounds 3 ?_
            rw [rounds_succ]
            go_wp2_with fail
            refine S1.out.mono ?_
            rintro e w3 ⟨rfl, hb3⟩
            have hX3 := HX.out.below hb3 HX.out.lt
            have HY3 := hidden (HY.out.below hb3 HY.out.lt)
            have HB3 := hidden (HB2.out.trans (hb3.mono HB2.out.size))
            have c0 := hX3.cell 0
            have f0 := hX3.free 0
            have HX3 := hidden hX3
            clear hb3 hX3 HX HY HB2 S1 y0
            by_cases he1 : e1 = 0
            · subst he1
              have RO1 := hidden (readT_ok_at HR1.out)
              go_wp2_with fail
              rw [rounds_succ]
              have hX4 := HX3.out.put 0 (.string u)
              have hY4 := HY3.out.off (p := ⟨X1, 0, none⟩) (fun e => HNE.out e.symm) (.string u)
              have hB4 : Below wr.heap.size wr (w3.setCell ⟨X1, 0, none⟩ (.string u)) := HB3.out.setCell (p := ⟨X1, 0, none⟩) (Nat.le_of_eq HX1.out) _
              generalize w3.setCell ⟨X1, 0, none⟩ (.string u) = w4 at hX4 hY4 hB4 ⊢
              obtain ⟨v, c, e2, h2⟩ : ∃ v c e, readT s b = (v, c, e) := ⟨_, _, _, rfl⟩
              have S2 := hidden (HT.out b w4 (by have := RO1.out; omega) (by have := RO1.out; omega))
              rw [h2] at S2
              have HR2 := hidden h2
              have y1 := hY4.cell 1
              have HX4 := hidden hX4
              have HB4 := hidden hB4
              clear h2 c0 f0 HX3 HB3 hX4 hB4 hY4 HY3
              go_wp2_with fail
              refine S2.out.mono ?_
              rintro e w5 ⟨rfl, hb5⟩
              have hX5 := HX4.out.below hb5 HX4.out.lt
              have HB5 := hidden (HB4.out.trans (hb5.mono HB4.out.size))
              have c1 := hX5.cell 1
              have f1 := hX5.free 1
              have HX5 := hidden hX5
              clear hb5 hX5 HX4 HB4 S2 y1
              by_cases he2 : e2 = 0
              · subst he2
                have RO2 := hidden (readT_ok_at HR2.out)
                go_wp2_with fail
                rw [rounds_succ]
                have hX6 := HX5.out.put 1 (.string v)
                have hB6 : Below wr.heap.size wr (w5.setCell ⟨X1, 1, none⟩ (.string v)) := HB5.out.setCell (p := ⟨X1, 1, none⟩) (Nat.le_of_eq HX1.out) _
                generalize w5.setCell ⟨X1, 1, none⟩ (.string v) = w6 at hX6 hB6 ⊢
                have hX6' : Whole1 w6 X1 108 #[.string u, .string v] := hX6
                have d0 := hX6'.cell 0
                have d1 := hX6'.cell 1
                have HX6 := hidden hX6'
                have HO6 := hidden (own_below HO.out hB6 (Nat.le_refl _))
                have HB6 := hidden (HB.out.trans (hB6.mono hbs))
                clear hX6 hX6' hB6 c1 f1 HX5 HB5
                have SN := hidden (fun W => fitName_any u W (by have := RO1.out; omega))
                have SV := hidden (fun W => fitValue_any v W (by have := RO2.out; omega))
                cases hf : fitN u with
                | false =>
                  rw [hf] at SN
                  have HD := hidden (hdec.out.trans (decT_name HR1.out HR2.out hf))
                  clear hf hk
                  go_wp2_with fail
                  refine (SN.out _).mono ?_
                  rintro e w7 ⟨rfl, rfl⟩
                  go_wp2_with fail
                  go_ret3
                  rw [HD.out]
                  exact ⟨_, rfl, World.ownsRow_nil _ _ _ _, HB6.out⟩
                | true =>
                  rw [hf] at SN
                  have HF1 := hidden hf
                  cases hg : fitV v with
                  | false =>
                    rw [hg] at SV
                    have HD := hidden (hdec.out.trans (decT_value HR1.out HR2.out hf hg))
                    clear hf hk hg
                    go_wp2_with fail
                    refine (SN.out _).mono ?_
                    rintro e w7 ⟨rfl, rfl⟩
                    go_wp2_with fail
                    refine (SV.out _).mono ?_
                    rintro e w7 ⟨rfl, rfl⟩
                    go_wp2_with fail
                    go_ret3
                    rw [HD.out]
                    exact ⟨_, rfl, World.ownsRow_nil _ _ _ _, HB6.out⟩
                  | true =>
                    rw [hg] at SV
                    have HF2 := hidden hg
                    have HD := hidden hdec.out
                    clear hf hg hk hdec
                    rcases List.eq_nil_or_concat out with rfl | ⟨M, z, rfl⟩
                    · have HBD := hidden (show badN [] ⟨u, v⟩ = false from rfl)
                      have ho6 := HO6.out
                      have hk2 : Hid (n - ([] ++ [(⟨u, v⟩ : Lbl)]).length = k) := hk2.out _
                      go_wp2_with fail
                      refine (SN.out _).mono ?_
                      rintro e w7 ⟨rfl, rfl⟩
                      go_wp2_with fail
                      refine (SV.out _).mono ?_
                      rintro e w7 ⟨rfl, rfl⟩
                      go_wp2_with fail
                      go_quiet (fail)
                      generalize hwb : w6.drewN nq = wb
                      have hownB : wb.ownsRow w.heap.size 108 2 _ _ _ := hwb ▸ own_drewN ho6 nq
                      have hXB : Whole1 wb X1 108 #[.string u, .string v] := hwb ▸ HX6.out.drewN nq
                      have hbB : Below w.heap.size w wb := hwb ▸ below_drewN HB6.out nq
                      have k0 := hXB.cell 0
                      have k1 := hXB.cell 1
                      have hbs2 := hbB.size
                      have hfr := Row.fresh wb 108 2 1 [.string u, .string v] rfl
                      have hcs : [].flatMap Lbl.cells ++ [.string u, .string v] = ([] ++ [(⟨u, v⟩ : Lbl)]).flatMap Lbl.cells := flat_snoc [] ⟨u, v⟩
                      clear hwb hXB HX6 d0 d1 HB6 ho6
                      go_wp2_with (at_builtin; refine wpList_app _ rfl _ _ 57 rfl w.heap.size 108 i0 _ 2 32 Tryz.underlying57 hi hz0 hz1 hz2 rfl (by decide) _ _ _ rfl (hownB.alloc _) _ _ _ _ _ rfl hfr (by simp [Value.oneCell']) (by unfold maxLen; omega) (by omega) (by simp; omega) ?_; intro v9 w9 hown9 hg9 hat9)
                      rw [hcs] at hown9
                      have hb9 := hidden ((hbB.alloc hbs2 _).grown hg9 (by simp; omega) (fun q hq => (hownB.lt q hq).1))
                      have HO9 := hidden (show w9.ownsRow w.heap.size 108 2 v9 ([] ++ [(⟨u, v⟩ : Lbl)]).length (([] ++ [(⟨u, v⟩ : Lbl)]).flatMap Lbl.cells) by simpa using hown9)
                      clear hbB hbs2 hownB hg9 hat9 hfr k0 k1 hcs hown9
                      go_roundw
                      case rel => exact ⟨c, [] ++ [(⟨u, v⟩ : Lbl)], rfl, rfl, by first | go_num | simp, by simp; omega, by have := RO2.out; omega, by have := RO2.out; omega, HO9.out, hidden (HD.out.trans (by rw [hk2.out]; exact decT_go HR1.out HR2.out HF1.out HF2.out HBD.out)), hb9⟩
                      case measure => simp [intOf]; omega
                    · rw [List.concat_eq_append] at *
                      have hk2 : Hid (n - ((M ++ [z]) ++ [(⟨u, v⟩ : Lbl)]).length = k) := hk2.out _
                      have hml : (M ++ [z]).length = M.length + 1 := by simp
                      have hownL : w6.ownsRow w.heap.size 108 2 _ (M.length + 1) ((M ++ [z]).flatMap Lbl.cells) := hml ▸ HO6.out
                      obtain ⟨g, cap, rest, hAe, hg, hw, hnc, hc, _, hm2⟩ := own_whole_g hkl hownL (by omega)
                      injection hAe with hA1 hA2 hA3
                      subst hA1
                      subst hA3
                      have z1 : w6.cell? ⟨g, M.length * 2, none⟩ = some (.string z.name) := whole_at hkl hw (by simp) 0 (by omega)
                      have l2 : (0 : Int) ≤ (M.length : Int) := by omega
                      have l3 : (M.length : Int) < (M.length : Int) + 1 := by omega
                      have l4 : (0 : Int) < (M.length : Int) + 1 := by omega
                      have ho6 := HO6.out
                      rw [hml] at ho6
                      clear hw hownL hA2
                      rcases str_cases z.name u with ⟨hlt3, hge3, hcm⟩ | ⟨heq, hlt3, hge3, hcm⟩ | ⟨hlt3, hge3, hne3, hcm⟩
                      · have HBD := hidden (show badN (M ++ [z]) ⟨u, v⟩ = false by rw [badN_cmp, hcm]; rfl)
                        clear hcm
                        go_wp2_with fail
                        refine (SN.out _).mono ?_
                        rintro e w7 ⟨rfl, rfl⟩
                        go_wp2_with fail
                        refine (SV.out _).mono ?_
                        rintro e w7 ⟨rfl, rfl⟩
                        go_wp2_with fail
                        go_quiet (fail)
                        generalize hwb : w6.drewN nq = wb
                        have hownB : wb.ownsRow w.heap.size 108 2 _ _ _ := hwb ▸ own_drewN ho6 nq
                        have hXB : Whole1 wb X1 108 #[.string u, .string v] := hwb ▸ HX6.out.drewN nq
                        have hbB : Below w.heap.size w wb := hwb ▸ below_drewN HB6.out nq
                        have k0 := hXB.cell 0
                        have k1 := hXB.cell 1
                        have hbs2 := hbB.size
                        have hfr := Row.fresh wb 108 2 1 [.string u, .string v] rfl
                        have hcs : (M ++ [z]).flatMap Lbl.cells ++ [.string u, .string v] = ((M ++ [z]) ++ [(⟨u, v⟩ : Lbl)]).flatMap Lbl.cells := flat_snoc (M ++ [z]) ⟨u, v⟩
                        clear hwb hXB HX6 d0 d1 HB6 ho6 z1
                        go_wp2_with (at_builtin; refine wpList_app _ rfl _ _ 57 rfl w.heap.size 108 i0 _ 2 32 Tryz.underlying57 hi hz0 hz1 hz2 rfl (by decide) _ _ _ rfl (hownB.alloc _) _ _ _ _ _ rfl hfr (by simp [Value.oneCell']) (by unfold maxLen; omega) (by omega) (by simp; omega) ?_; intro v9 w9 hown9 hg9 hat9)
                        rw [hcs] at hown9
                        have hb9 := hidden ((hbB.alloc hbs2 _).grown hg9 (by simp; omega) (fun q hq => (hownB.lt q hq).1))
                        have HO9 := hidden (show w9.ownsRow w.heap.size 108 2 v9 ((M ++ [z]) ++ [(⟨u, v⟩ : Lbl)]).length (((M ++ [z]) ++ [(⟨u, v⟩ : Lbl)]).flatMap Lbl.cells) by simpa using hown9)
                        clear hbB hbs2 hownB hg9 hat9 hfr k0 k1 hcs hown9
                        go_roundw
                        case rel => exact ⟨c, (M ++ [z]) ++ [(⟨u, v⟩ : Lbl)], rfl, rfl, by first | go_num | simp, by simp; omega, by have := RO2.out; omega, by have := RO2.out; omega, HO9.out, hidden (HD.out.trans (by rw [hk2.out]; exact decT_go HR1.out HR2.out HF1.out HF2.out HBD.out)), hb9⟩
                        case measure => simp [intOf]; omega
                      · have HBD := hidden (show badN (M ++ [z]) ⟨u, v⟩ = true by rw [badN_cmp, hcm]; rfl)
                        have HD2 := hidden (HD.out.trans (decT_bad HR1.out HR2.out HF1.out HF2.out HBD.out))
                        clear hcm heq ho6
                        go_wp2_with fail
                        refine (SN.out _).mono ?_
                        rintro e w7 ⟨rfl, rfl⟩
                        go_wp2_with fail
                        refine (SV.out _).mono ?_
                        rintro e w7 ⟨rfl, rfl⟩
                        go_wp2_with fail
                        go_quiet (fail)
                        go_wp2_with fail
                        go_ret3
                        rw [HD2.out]
                        exact ⟨_, rfl, World.ownsRow_nil _ _ _ _, below_drewN HB6.out _⟩
                      · have HBD := hidden (show badN (M ++ [z]) ⟨u, v⟩ = true by rw [badN_cmp, hcm]; rfl)
                        have HD2 := hidden (HD.out.trans (decT_bad HR1.out HR2.out HF1.out HF2.out HBD.out))
                        clear hcm hne3 ho6
                        go_wp2_with fail
                        refine (SN.out _).mono ?_
                        rintro e w7 ⟨rfl, rfl⟩
                        go_wp2_with fail
                        refine (SV.out _).mono ?_
                        rintro e w7 ⟨rfl, rfl⟩
                        go_wp2_with fail
                        go_quiet (fail)
                        go_wp2_with fail
                        go_ret3
                        rw [HD2.out]
                        exact ⟨_, rfl, World.ownsRow_nil _ _ _ _, below_drewN HB6.out _⟩
              · have HD := hidden (hdec.out.trans (decT_e2 HR1.out HR2.out he2))
                have e2n : (e2 != 0) = true := by simpa using he2
                clear he2 hk
                go_wp2_with fail
                go_ret3
                rw [HD.out]
                exact ⟨_, rfl, World.ownsRow_nil _ _ _ _, HB.out.trans ((HB5.out.setCell (p := ⟨X1, 1, none⟩) (Nat.le_of_eq HX1.out) _).mono hbs)⟩
            · have HD := hidden (hdec.out.trans (decT_e1 HR1.out he1))
              have e1n : (e1 != 0) = true := by simpa using he1
              clear he1 hk
              go_wp2_with fail
              go_ret3
              rw [HD.out]
              exact ⟨_, rfl, World.ownsRow_nil _ _ _ _, HB.out.trans ((HB3.out.setCell (p := ⟨X1, 0, none⟩) (Nat.le_of_eq HX1.out) _).mono hbs)⟩
          · have ol : ¬ (out.length : Int) < (n : Int) := by omega
            have hz : n - out.length = 0 := by omega
            have HD := hidden (show decL s a = (out, p, 0) by rw [hdec.out, hz]; rfl)
            clear hz
            go_wp2_with fail
            go_ret3
            rw [HD.out]
            exact ⟨_, rfl, HO.out, hb.out⟩
  · have HD := hidden (decL_e h1 he)
    have en : (e0 != 0) = true := by simpa using he
    clear h1 he
    go_enter Tryz.func31, Tryz.ntmps31
    go_wp2_with fail
    refine HU.out.mono ?_
    rintro e1 w1 ⟨rfl, hb1⟩
    go_wp2_with fail
    go_ret3
    rw [HD.out]
    exact ⟨_, rfl, World.ownsRow_nil _ _ _ _, hb1⟩
end Go.Proofs.YtdggnnjjiolldaaGreat
