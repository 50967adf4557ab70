/- labels.Read, walked: the set that a text shows. Condition: the text is not too long. -/
import Derived.Test.YtfidneoakcejgaaParR
namespace Go.Proofs.Ytfidneoakcejgaa
set_option maxRecDepth 100000
open Go.RowKit

set_option maxHeartbeats 6400000 in
theorem lread_any (s : ByteArray) (w : World) (hs : s.size ≤ 16777216) :
    Calls Try.prog 37 #[.string s] w fun e w' => ∃ v, e = .returned (.tuple #[v, .int .i64 (readL s).2]) ∧ w'.ownsRow w.heap.size 39 2 v (readL s).1.length ((readL s).1.flatMap Lbl.cells) ∧ Below w.heap.size w w' := by
  obtain ⟨i0, hi, hz0, hz1, hz2⟩ := info_parts ClnLbl.info
  have sl : s.data.toList.length = s.size := rfl
  go_enter Try.func37, Try.ntmps37
  go_wp2_with fail
  go_loopw [4, 5] (fun vo va wr => ∃ (a : Nat) (out : List Lbl), va = .int .i64 a ∧ a ≤ s.size ∧ out.length ≤ 8 ∧ Hid (∀ x ∈ out, x.name.size ≤ 140737488355328 ∧ x.value.size ≤ 140737488355328) ∧ Hid (parR s 9 0 [] = parR s (9 - out.length) a out) ∧ wr.ownsRow w.heap.size 39 2 vo out.length (out.flatMap Lbl.cells) ∧ Below w.heap.size w wr) (fun _ va _ => s.size - (intOf va).toNat)
  case atStart => exact ⟨0, [], rfl, Nat.zero_le _, by simp, hidden (fun x hx => by cases hx), hidden rfl, World.ownsRow_nil _ _ _ _, Below.refl _ _⟩
  case round =>
    obtain ⟨a, out, rfl, ha, ho8, hsz, hp, ho, hbl⟩ := hrel
    have HBL := hidden hbl
    have hbs := hbl.size
    clear hbl
    obtain ⟨A1, c1, rfl, hc1, hr1⟩ := own_shape ho
    have HR1 := hidden hr1
    clear hr1
    have a0 : (0 : Int) ≤ (a : Int) := by omega
    have a1 : (a : Int) ≤ (s.size : Int) := by omega
    obtain ⟨D, hD⟩ : ∃ D, s.extract a s.size = D := ⟨_, rfl⟩
    obtain ⟨I, hI⟩ : ∃ I, Lib.indexByte (s.data.toList.drop a) 61 = I := ⟨_, rfl⟩
    have S0 : Hid (∀ W, Calls Try.prog 59 #[.string D, .int .u8 61] W fun e w' => e = .returned (.int .i64 I) ∧ W = w') := by
      intro W
      have h := sindex_any D 61 W
      rw [← hD, ext_drop, hI, hD] at h
      exact h
    by_cases hneg : I < 0
    · have HU := hidden (readL_none (hp.out.trans (parR_no (.inl (by rw [hI]; exact hneg)))))
      clear hI
      go_wp2_with fail
      refine (S0.out _).mono ?_
      rintro e w2 ⟨rfl, rfl⟩
      go_wp2_with fail
      go_ret2
      rw [HU.out]
      exact ⟨_, rfl, World.ownsRow_nil _ _ _ _, HBL.out⟩
    · obtain ⟨j, rfl⟩ : ∃ j : Nat, I = j := ⟨I.toNat, by omega⟩
      have j0 : decide ((j : Int) < 0) = false := by simp
      by_cases h8 : out.length = 8
      · have e8 : ((out.length : Int) == 8) = true := by simp [h8]
        have HU := hidden (readL_none (hp.out.trans (parR_no (.inr h8))))
        clear hI
        go_wp2_with fail
        refine (S0.out _).mono ?_
        rintro e w2 ⟨rfl, rfl⟩
        go_wp2_with fail
        go_ret2
        rw [HU.out]
        exact ⟨_, rfl, World.ownsRow_nil _ _ _ _, HBL.out⟩
      · have e8 : ((out.length : Int) == 8) = false := by simp; omega
        have HI := hidden hI
        obtain ⟨hj1, _⟩ := Lib.indexByte_some hI
        have haj : a + j < s.size := by
          rw [List.getElem?_drop] at hj1
          exact (List.getElem?_eq_some_iff.1 hj1).1
        have j1 : IntKind.i64.wrap ((a : Int) + (j : Int)) = (a : Int) + (j : Int) := Go.IntWalk.i64_in _ (by omega)
        have j2 : IntKind.i64.wrap ((a : Int) + (j : Int) + 1) = (a : Int) + (j : Int) + 1 := Go.IntWalk.i64_in _ (by omega)
        have S1 := hidden (fun W => unquote_any s ((a : Int) + (j : Int) + 1) W hs (by omega) (by omega))
        rw [show (a : Int) + (j : Int) + 1 = ((a + j + 1 : Nat) : Int) by omega] at S1
        cases hu : unqO s (a + j + 1) with
        | none =>
          rw [unqP_no hu] at S1
          have HU := hidden (readL_none (hp.out.trans (parR_bad hI hu)))
          rw [show ((a + j + 1 : Nat) : Int) = (a : Int) + (j : Int) + 1 by omega] at S1
          clear hI hj1 hu
          go_wp2_with fail
          refine (S0.out _).mono ?_
          rintro e w2 ⟨rfl, rfl⟩
          go_wp2_with fail
          refine (S1.out _).mono ?_
          rintro e w3 ⟨rfl, b3⟩
          have HB3 := hidden (HBL.out.trans (b3.mono hbs))
          clear b3
          go_wp2_with fail
          go_ret2
          rw [HU.out]
          exact ⟨_, rfl, World.ownsRow_nil _ _ _ _, HB3.out⟩
        | some p =>
          obtain ⟨u, n⟩ := p
          rw [unqP_yes hu] at S1
          rw [show ((a + j + 1 : Nat) : Int) = (a : Int) + (j : Int) + 1 by omega] at S1
          obtain ⟨hu1, hn, hkn⟩ := unqO_in hu
          have HUO := hidden hu
          obtain ⟨U, hU⟩ : ∃ U, (⟨u.toArray⟩ : ByteArray) = U := ⟨_, rfl⟩
          have hUs : U.size ≤ s.size := by rw [← hU]; exact hu1
          obtain ⟨M, hM⟩ : ∃ M, s.extract a (a + j) = M := ⟨_, rfl⟩
          have hMs : M.size ≤ s.size := by rw [← hM]; exact ext_le s a (a + j)
          have HMM := hidden hM
          have HUU := hidden hU
          rw [hU] at S1
          have m1 : ((a : Int) + (j : Int)).toNat = a + j := by omega
          have m2 : (a : Int) ≤ (a : Int) + (j : Int) := by omega
          have m3 : (a : Int) + (j : Int) ≤ (s.size : Int) := by omega
          have HD := hidden hD
          clear hI hj1 hu hU
          go_wp2_with fail
          refine (S0.out _).mono ?_
          rintro e w2 ⟨rfl, rfl⟩
          go_wp2_with fail
          refine (S1.out _).mono ?_
          rintro e w3 ⟨rfl, b3⟩
          have HB3 := hidden (HBL.out.trans (b3.mono hbs))
          have ho3 := own_below ho b3 (Nat.le_refl _)
          have hbs3 := b3.size
          clear b3 ho
          have hfr := Row.fresh w3 39 2 1 [.string M, .string U] rfl
          have hcs : out.flatMap Lbl.cells ++ [.string M, .string U] = (out ++ [(⟨M, U⟩ : Lbl)]).flatMap Lbl.cells := flat_snoc out ⟨M, U⟩
          have hsz4 : Hid (∀ x ∈ out ++ [(⟨M, U⟩ : Lbl)], x.name.size ≤ 140737488355328 ∧ x.value.size ≤ 140737488355328) := by
            intro x hx
            rcases List.mem_append.1 hx with hx | hx
            · exact hsz.out x hx
            · obtain rfl := List.mem_singleton.1 hx
              exact ⟨by show M.size ≤ _; omega, by show U.size ≤ _; omega⟩
          have hl4 : Hid ((out ++ [(⟨M, U⟩ : Lbl)]).length ≤ 8) := by rw [Hid, List.length_append, List.length_singleton]; omega
          obtain ⟨f, hf⟩ : ∃ f, 9 - out.length = f + 1 := ⟨8 - out.length, by omega⟩
          have hf2 : Hid (9 - (out ++ [(⟨M, U⟩ : Lbl)]).length = f) := by rw [Hid, List.length_append, List.length_singleton]; omega
          rw [hf] at hp
          by_cases hend : n = s.size
          · have en : ((n : Int) == (s.size : Int)) = true := by rw [hend]; simp
            have HP := hidden (hp.out.trans (parR_end HI.out HUO.out h8 hend))
            rw [HMM.out, HUU.out] at HP
            clear hp hend hf
            go_wp2_with (at_builtin; refine wpList_app _ rfl _ _ 22 rfl w.heap.size 39 i0 _ 2 32 Try.underlying22 hi hz0 hz1 hz2 rfl (by decide) _ _ _ rfl (ho3.alloc _) _ _ _ _ _ rfl hfr (by simp [Value.oneCell']) (by unfold maxLen; omega) (by omega) (by simp; omega) ?_; intro v4 w4 hown4 hg4 hat4)
            rw [hcs] at hown4
            have hb4 : Below w.heap.size w w4 := (HB3.out.alloc (by omega) _).grown hg4 (by simp; omega) (fun q hq => (ho3.lt q hq).1)
            have HB4 := hidden hb4
            have HO4 := hidden (show w4.ownsRow w.heap.size 39 2 v4 (out ++ [(⟨M, U⟩ : Lbl)]).length ((out ++ [(⟨M, U⟩ : Lbl)]).flatMap Lbl.cells) by simpa using hown4)
            clear hown4 hg4 hat4 hb4 hcs hfr ho3
            generalize out ++ [(⟨M, U⟩ : Lbl)] = O at HO4 hsz4 hl4 hf2 HP
            have ho4 := HO4.out
            obtain ⟨A4, c4, rfl, hc4, hr4⟩ := own_shape ho4
            have S4 := hidden (lvalid_any A4 O.length c4 O w4 ⟨hr4, rfl, by have := hl4.out; omega, hsz4.out⟩ hc4)
            have hbs4 := HB4.out.size
            clear hr4
            cases hv : decide (validP O) with
            | true =>
              rw [hv] at S4
              have HU := hidden (readL_yes HP.out hv)
              clear hv
              refine S4.out.mono ?_
              rintro e w5 ⟨rfl, b5⟩
              have HB5 := hidden (HB4.out.trans (b5.mono hbs4))
              have HO5 := hidden (own_below ho4 b5 (Nat.le_refl _))
              clear b5 ho4
              go_wp2_with fail
              go_ret2
              rw [HU.out]
              exact ⟨_, rfl, HO5.out, HB5.out⟩
            | false =>
              rw [hv] at S4
              have HU := hidden (readL_bad HP.out hv)
              clear hv ho4
              refine S4.out.mono ?_
              rintro e w5 ⟨rfl, b5⟩
              have HB5 := hidden (HB4.out.trans (b5.mono hbs4))
              clear b5
              go_wp2_with fail
              go_ret2
              rw [HU.out]
              exact ⟨_, rfl, World.ownsRow_nil _ _ _ _, HB5.out⟩
          · have hlt : n < s.size := by omega
            have en : ((n : Int) == (s.size : Int)) = false := by simp; omega
            have nlt : (n : Int) < (s.size : Int) := by omega
            have n0 : (0 : Int) ≤ (n : Int) := by omega
            obtain ⟨b, hbe, hbat⟩ := str_at hlt
            by_cases h44 : b.toNat = 44
            · have e44 : ((b.toNat : Int) != 44) = false := by simp [h44]
              have HP := hidden (hp.out.trans (parR_more HI.out HUO.out h8 hend (by rw [hbat, u8_eq (b := 44) h44])))
              rw [HMM.out, HUU.out] at HP
              have nw : IntKind.i64.wrap ((n : Int) + 1) = (n : Int) + 1 := Go.IntWalk.i64_in _ (by omega)
              clear hp hbat h44 hf
              go_wp2_with (at_builtin; refine wpList_app _ rfl _ _ 22 rfl w.heap.size 39 i0 _ 2 32 Try.underlying22 hi hz0 hz1 hz2 rfl (by decide) _ _ _ rfl (ho3.alloc _) _ _ _ _ _ rfl hfr (by simp [Value.oneCell']) (by unfold maxLen; omega) (by omega) (by simp; omega) ?_; intro v4 w4 hown4 hg4 hat4)
              rw [hcs] at hown4
              have hb4 : Below w.heap.size w w4 := (HB3.out.alloc (by omega) _).grown hg4 (by simp; omega) (fun q hq => (ho3.lt q hq).1)
              have HB4 := hidden hb4
              have HO4 := hidden (show w4.ownsRow w.heap.size 39 2 v4 (out ++ [(⟨M, U⟩ : Lbl)]).length ((out ++ [(⟨M, U⟩ : Lbl)]).flatMap Lbl.cells) by simpa using hown4)
              clear hown4 hg4 hat4 hb4 hcs hfr ho3
              go_roundw
              case rel => exact ⟨n + 1, _, by go_num, by omega, hl4.out, hsz4, by rw [hf2.out]; exact HP, HO4.out, HB4.out⟩
              case measure => simp [intOf]; omega
            · have e44 : ((b.toNat : Int) != 44) = true := by simp; omega
              have HU := hidden (readL_none (hp.out.trans (parR_stop HI.out HUO.out hend (by rw [hbat]; intro e; injection e with e; exact h44 (by rw [e]; rfl)))))
              clear hp hbat h44 hf
              go_wp2_with (at_builtin; refine wpList_app _ rfl _ _ 22 rfl w.heap.size 39 i0 _ 2 32 Try.underlying22 hi hz0 hz1 hz2 rfl (by decide) _ _ _ rfl (ho3.alloc _) _ _ _ _ _ rfl hfr (by simp [Value.oneCell']) (by unfold maxLen; omega) (by omega) (by simp; omega) ?_; intro v4 w4 hown4 hg4 hat4)
              rw [hcs] at hown4
              have hb4 : Below w.heap.size w w4 := (HB3.out.alloc (by omega) _).grown hg4 (by simp; omega) (fun q hq => (ho3.lt q hq).1)
              have HB4 := hidden hb4
              have HO4 := hidden (show w4.ownsRow w.heap.size 39 2 v4 (out ++ [(⟨M, U⟩ : Lbl)]).length ((out ++ [(⟨M, U⟩ : Lbl)]).flatMap Lbl.cells) by simpa using hown4)
              clear hown4 hg4 hat4 hb4 hcs hfr ho3
              go_ret2
              rw [HU.out]
              exact ⟨_, rfl, World.ownsRow_nil _ _ _ _, HB4.out⟩
end Go.Proofs.Ytfidneoakcejgaa
