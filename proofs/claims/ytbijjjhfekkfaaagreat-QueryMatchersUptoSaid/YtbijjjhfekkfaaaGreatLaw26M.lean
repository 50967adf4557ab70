/- What is asked for, made matchers: law 26's own list and the document's, walked. Condition: the texts are no longer than memory. -/
import Derived.Test.YtbijjjhfekkfaaaGreatPkc2774c96
namespace Go.Proofs.YtbijjjhfekkfaaaGreat
set_option maxRecDepth 100000
open Go.RowKit

set_option maxHeartbeats 6400000 in
theorem matchers26_any (A : Option Addr) (n c : Nat) (l : List Ask) (w : World) (h : AskF w A n l) :
    Calls Tryz.prog 21 #[.slice A n c] w fun e w' => ∃ vm vw ms, e = .returned (.tuple #[vm, vw]) ∧ Pr w w' vm vw ms (goodA l) ∧ ms.map Mt.fit = goodF l ∧ ms.length ≤ n := by
  obtain ⟨iM, hiM, hzM0, hzM1, hzM2⟩ := info_parts infoM
  obtain ⟨iW, hiW, hzW0, hzW1, hzW2⟩ := info_parts infoW8
  have H := hidden h
  have hfew := h.few
  clear h
  go_enter Tryz.func21, Tryz.ntmps21
  go_wp2_with fail
  go_loopw [4, 5, 14] (fun vm vw vi wr => ∃ (k : Nat) (ms : List Mt), vi = .int .i64 (k : Int) ∧ k ≤ n ∧ ms.length ≤ k ∧ (goodA (l.take k)).length ≤ k ∧ Hid (Pr w wr vm vw ms (goodA (l.take k))) ∧ Hid (ms.map Mt.fit = goodF (l.take k))) (fun _ _ vi _ => n - (intOf vi).toNat)
  case atStart => exact ⟨0, [], rfl, Nat.zero_le _, Nat.le_refl _, Nat.le_refl _, ⟨World.ownsRow_nil _ _ _ _, World.ownsRow_nil _ _ _ _, by simp, Below.refl _ _⟩, rfl⟩
  case round =>
    obtain ⟨k, ms, rfl, hk, hmk, hlk, htw, hg1⟩ := hrel
    have k0 : (0 : Int) ≤ (k : Int) := by omega
    by_cases hlt : k < n
    · have k1 : (k : Int) < (n : Int) := by omega
      obtain ⟨g, o, x, rfl, hg, hx, c0, c1, c2, hxm⟩ := ask_cells (H.out.on htw.out.below) hlt
      have hT := hidden (take_snoc? hx)
      obtain ⟨hxn, hxv⟩ := H.out.sz x hxm
      have hb1 : Below wr.heap.size wr (wr.alloc (.cells #[.int .i64 x.kind, .string x.name, .string x.value] 170)) := (Below.refl _ _).alloc (Nat.le_refl _) _
      have hw1 := Whole1.new wr 170 #[.int .i64 x.kind, .string x.name, .string x.value]
      obtain ⟨w1, hww⟩ : ∃ w1, wr.alloc (.cells #[.int .i64 x.kind, .string x.name, .string x.value] 170) = w1 := ⟨_, rfl⟩
      rw [hww] at hb1 hw1
      have d0 := hw1.cell 0
      have d1 := hw1.cell 1
      have d2 := hw1.cell 2
      have HW1 := hidden hw1
      have HT1 := hidden (htw.out.on hb1)
      have S1 := hidden (new_any x.kind x.name x.value w1 hxn hxv)
      have HW := hidden hww
      rw [← hww] at d0 d1 d2
      have fwk : IntKind.i64.wrap ((k : Int) + 1) = (k : Int) + 1 := Go.IntWalk.i64_in _ (by omega)
      clear hx hxm hb1 hw1 hww htw
      go_wp2_with fail
      rw [HW.out]
      refine S1.out.mono ?_
      rintro e w2 ⟨b2, hy⟩
      have HT2 := hidden (HT1.out.on b2)
      obtain ⟨R, hR⟩ : ∃ R, wr.heap.size = R := ⟨_, rfl⟩
      have hw2 := HW1.out.below b2 HW1.out.lt
      have HS2 := hidden (fun w => rnew_any x.kind x.name x.value w hxn hxv)
      rw [hR] at hw2
      have e0 := hw2.cell 0
      have e1 := hw2.cell 1
      have e2 := hw2.cell 2
      rw [hR]
      have HI := hidden (new_iff x.kind x.name x.value)
      obtain ⟨E, hE⟩ : ∃ E, newE x.kind x.name x.value = E := ⟨_, rfl⟩
      rw [hE] at HS2 HI
      have HNE := hidden hE
      clear hE hw2 S1 c0 c1 c2 d0 d1 d2
      cases hN : newF x.kind x.name x.value with
      | error ce =>
        rw [hN] at hy
        obtain ⟨rfl, hce⟩ := hy
        have HE0 := hidden (show E ≠ 0 from fun h => by
          obtain ⟨F, hF⟩ := HI.out.1 h
          rw [hN] at hF; cases hF)
        have HG1 := hidden (show ms.map Mt.fit = goodF (l.take (k + 1)) from by rw [hT.out, goodF_bad hN]; exact hg1.out)
        have HGA := hidden (show goodA (l.take (k + 1)) = goodA (l.take k) from by rw [hT.out, goodA_bad (by rw [HNE.out]; exact HE0.out)])
        have ce0 : (ce == 0) = false := by simpa using hce
        clear hN b2 HI
        go_wp2_with fail
        refine (HS2.out _).mono ?_
        rintro e w3 ⟨v3, rfl, _, ⟨a3, b3, c3, rfl⟩, b3w⟩
        have HT3 := hidden (HT2.out.on b3w)
        clear e0 e1 e2 HS2 b3w
        have hb4 : Below w3.heap.size w3 (w3.alloc (.cells #[.int .i64 a3, .string b3, .string c3] 142)) := (Below.refl _ _).alloc (Nat.le_refl _) _
        have HT4 := hidden (HT3.out.on hb4)
        clear hb4
        go_wp2_with fail
        go_roundw
        case rel => exact ⟨k + 1, ms, by go_num, by omega, by omega, by rw [HGA.out]; omega, by rw [HGA.out]; exact HT4.out, HG1.out⟩
        case measure => simp [intOf]; omega
      | ok F =>
        rw [hN] at hy
        obtain ⟨M, rfl, hM⟩ := hy
        have hE0 : E = 0 := HI.out.2 ⟨F, hN⟩
        subst hE0
        have HG1 := hidden (show (ms ++ [(⟨M, x.kind, x.name, x.value, F⟩ : Mt)]).map Mt.fit = goodF (l.take (k + 1)) from by rw [hT.out, goodF_ok hN, List.map_append, hg1.out]; rfl)
        have HGA := hidden (show goodA (l.take (k + 1)) = goodA (l.take k) ++ [x] from by rw [hT.out, goodA_ok HNE.out])
        clear hN b2 HI
        go_wp2_with fail
        refine (HS2.out _).mono ?_
        rintro e w3 ⟨v3, rfl, hv3, _, b3w⟩
        obtain rfl := hv3 trivial
        have HT3 := hidden (HT2.out.on b3w)
        have hM3 := hM.on b3w
        have hb4 : Below w3.heap.size w3 (w3.alloc (.cells #[.int .i64 x.kind, .string x.name, .string x.value] 142)) := (Below.refl _ _).alloc (Nat.le_refl _) _
        obtain ⟨w4, hw4⟩ : ∃ w4, w3.alloc (.cells #[.int .i64 x.kind, .string x.name, .string x.value] 142) = w4 := ⟨_, rfl⟩
        obtain ⟨Y, hY⟩ : ∃ Y, w3.heap.size = Y := ⟨_, rfl⟩
        have hY4 := Whole1.new w3 142 #[.int .i64 x.kind, .string x.name, .string x.value]
        rw [hw4] at hY4 hb4
        rw [hY] at hY4
        have HP4 := hidden (HT3.out.on hb4)
        have HM4 := hidden (hM3.on hb4)
        have HY4 := hidden hY4
        clear e0 e1 e2 HS2 b3w hM hM3 hv3
        go_upto_region 9 with (fail)
        have hYd := hY4
        have y0 := hYd.cell 0
        have y1 := hYd.cell 1
        have y2 := hYd.cell 2
        have z0 := (hYd.alloc (.cells #[.pointer (some ⟨M, 0, none⟩)] 30)).cell 0
        have z1 := (hYd.alloc (.cells #[.pointer (some ⟨M, 0, none⟩)] 30)).cell 1
        have z2 := (hYd.alloc (.cells #[.pointer (some ⟨M, 0, none⟩)] 30)).cell 2
        have few1 : ms.length + 1 ≤ 3518437208883 := by omega
        have few2 : (goodA (l.take k)).length + 1 ≤ 3518437208883 := by omega
        have HP := HP4
        have HM := HM4
        have HY := hidden hYd
        have HK : Hid True := hidden trivial
        clear hY4 HY4 HM4 HP4 hYd
        go_region_law (first | (refine stepM (x := ⟨M, x.kind, x.name, x.value, F⟩) rfl _ _ rfl rfl rfl (by first | exact HP.out | exact HP.out.on (below1 _ _) | exact HP.out.on (below2 _ _ _) | exact HP.out.on (below1d _ _) | exact HP.out.on (below2d _ _ _)) (by first | exact HM.out | exact HM.out.on (below1 _ _) | exact HM.out.on (below2 _ _ _) | exact HM.out.on (below1d _ _) | exact HM.out.on (below2d _ _ _)) (by first | exact Whole1.new _ _ _ | exact (Whole1.new _ _ _).alloc _ | exact new_plus _ _ _ _ | exact HK.out _ _ _ (by decide) (Whole1.new _ _ _) | exact HK.out _ _ _ (by decide) ((Whole1.new _ _ _).alloc _) | exact HK.out _ _ _ (by decide) (new_plus _ _ _ _)) few1 ?_; intro v10 w10 hP10 hK10; have HM := hidden (hP10.m1 ⟨M, x.kind, x.name, x.value, F⟩ (by simp)); have HP := hidden hP10; try (have HY := hidden (hK10 Y 142 #[.int .i64 x.kind, .string x.name, .string x.value] (by decide) (by first | exact HY.out | exact HY.out.alloc _ | exact (HY.out.alloc _).alloc _)); have y0 := HY.out.cell 0; have y1 := HY.out.cell 1; have y2 := HY.out.cell 2); have HK := hidden hK10; clear hP10 hK10) | (refine stepD (x := x) (y := ⟨M, x.kind, x.name, x.value, F⟩) rfl _ _ rfl rfl rfl (by first | exact HP.out | exact HP.out.on (below1 _ _) | exact HP.out.on (below2 _ _ _) | exact HP.out.on (below1d _ _) | exact HP.out.on (below2d _ _ _)) (by first | exact HM.out | exact HM.out.on (below1 _ _) | exact HM.out.on (below2 _ _ _) | exact HM.out.on (below1d _ _) | exact HM.out.on (below2d _ _ _)) (by first | exact Whole1.new _ _ _ | exact (Whole1.new _ _ _).alloc _ | exact new_plus _ _ _ _ | exact HK.out _ _ _ (by decide) (Whole1.new _ _ _) | exact HK.out _ _ _ (by decide) ((Whole1.new _ _ _).alloc _) | exact HK.out _ _ _ (by decide) (new_plus _ _ _ _)) few2 ?_; intro v10 w10 hP10 hK10 hM10; have HM := hidden hM10; have HP := hidden hP10; have HK := hidden hK10; clear hP10 hK10 hM10))
        all_goals
          go_wp2_with fail
          go_roundw
          case rel => exact ⟨k + 1, _, by go_num, by omega, by simp; omega, by rw [HGA.out]; simp; omega, by rw [HGA.out]; exact HP.out, HG1.out⟩
          case measure => simp [intOf]; omega
    · obtain rfl : n = k := by omega
      rw [List.take_of_length_le (by rw [H.out.len]; exact Nat.le_refl _)] at htw hg1
      go_wp2_with fail
      go_ret2
      exact ⟨_, _, ms, rfl, htw.out, hg1.out, hmk⟩
end Go.Proofs.YtbijjjhfekkfaaaGreat
