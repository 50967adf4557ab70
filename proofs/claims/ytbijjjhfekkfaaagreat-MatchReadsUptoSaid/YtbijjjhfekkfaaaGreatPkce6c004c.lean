/- almanaclaw08.wakes: it holds. No condition. -/
import Derived.Test.YtbijjjhfekkfaaaGreatPkc6c90f11
namespace Go.Proofs.YtbijjjhfekkfaaaGreat
set_option maxRecDepth 100000
open Go.RowKit

def wkT : Tr := .alt (.cls 0 8589934592 0 0) (.cls 0 17179869184 0 0)
theorem wk8_parse : parseP [97, 124, 98] = .ok wkT 3 := by kernel_rfl
theorem wk8_err : makeErr [⟨⟨#[106, 111, 98]⟩, ⟨#[120]⟩⟩] = 0 := by decide +kernel
theorem wk8_new : newF 2 ⟨#[106, 111, 98]⟩ ⟨#[97, 124, 98]⟩ = .ok fun v => matT wkT (bytesN v) != decide ((2 : Int) = 3) := newF_like (by decide) wk8_err (by decide) wk8_parse
theorem wk8_a : (matT wkT (bytesN ⟨#[97]⟩) != decide ((2 : Int) = 3)) = true := by kernel_rfl
theorem wk8_b : (matT wkT (bytesN ⟨#[97, 98]⟩) != decide ((2 : Int) = 3)) = false := by kernel_rfl
theorem wk8_show : showM 2 ⟨#[106, 111, 98]⟩ ⟨#[97, 124, 98]⟩ = ⟨#[106, 111, 98, 61, 126, 34, 97, 124, 98, 34]⟩ := by decide +kernel

set_option maxHeartbeats 1600000 in
theorem wakes08_any (w : World) : Calls Tryz.prog 12 #[] w fun e w' => e = .returned (.bool true) ∧ Below w.heap.size w w' := by
  have S1 := hidden (new_any 2 ⟨#[106, 111, 98]⟩ ⟨#[97, 124, 98]⟩ w (by decide) (by decide))
  go_enter Tryz.func12, Tryz.ntmps12
  go_wp2_with fail
  refine S1.out.mono ?_
  rintro e w1 ⟨b1, hy⟩
  rw [wk8_new] at hy
  obtain ⟨M, rfl, hM⟩ := hy
  have HM := hidden hM
  have HB1 := hidden b1
  have SA := hidden (mvalue_any M 2 _ _ _ ⟨#[97]⟩ w1 hM (by decide))
  simp only [wk8_a] at SA
  clear S1 hM b1
  go_wp2_with fail
  refine SA.out.mono ?_
  rintro e w2 ⟨rfl, b2⟩
  have HM2 := hidden (HM.out.on b2)
  have HB2 := hidden (HB1.out.trans (b2.mono HB1.out.size))
  have SB := hidden (mvalue_any M 2 _ _ _ ⟨#[97, 98]⟩ w2 HM2.out (by decide))
  simp only [wk8_b] at SB
  clear SA b2
  go_wp2_with fail
  refine SB.out.mono ?_
  rintro e w3 ⟨rfl, b3⟩
  have HB3 := hidden (HB2.out.trans (b3.mono HB2.out.size))
  have SC := hidden (mshow_any M 2 _ _ _ w3 (HM2.out.on b3) (by decide) (by decide) (by decide))
  rw [wk8_show] at SC
  clear SB b3
  go_wp2_with fail
  refine SC.out.mono ?_
  rintro e w4 ⟨rfl, b4⟩
  have HB4 := hidden (HB3.out.trans (b4.mono HB3.out.size))
  go_wp2_with fail
  go_ret
  exact ⟨rfl, HB4.out⟩
end Go.Proofs.YtbijjjhfekkfaaaGreat
