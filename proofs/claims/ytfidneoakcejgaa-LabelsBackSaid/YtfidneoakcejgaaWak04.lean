/- almanaclaw04.wakes: it holds. No condition. -/
import Derived.Test.YtfidneoakcejgaaShow
import Derived.Test.YtfidneoakcejgaaLabMk
import Derived.Test.YtfidneoakcejgaaLabGet
namespace Go.Proofs.Ytfidneoakcejgaa
set_option maxRecDepth 100000
open Go.RowKit

def wkL : List Lbl := [⟨⟨#[98]⟩, ⟨#[49]⟩⟩, ⟨⟨#[97]⟩, ⟨#[120]⟩⟩]
def wkS : List Lbl := [⟨⟨#[97]⟩, ⟨#[120]⟩⟩, ⟨⟨#[98]⟩, ⟨#[49]⟩⟩]
theorem wk_err : makeErr wkL = 0 := by decide +kernel
theorem wk_up : upN wkS := by unfold upN ltN wkS; decide +kernel
theorem wk_apart : wkL.Pairwise fun x y => x.name ≠ y.name := by unfold wkL; decide +kernel
theorem wk_make : makeL wkL = wkS := by
  rw [makeL, if_pos wk_err]
  exact (sortN_uniq wk_apart wk_up (List.Perm.swap _ _ _)).symm
theorem wk_show : (⟨(showL wkS).toArray⟩ : ByteArray) = ⟨#[97, 61, 34, 120, 34, 44, 98, 61, 34, 49, 34]⟩ := by
  have : showL wkS = showP wkS := if_pos (by
    have := sortN_valid wk_err
    rwa [sortN_uniq wk_apart wk_up (List.Perm.swap _ _ _)])
  rw [this]
  decide +kernel
theorem wk_get : getL wkS ⟨#[98]⟩ = ⟨#[49]⟩ := by decide +kernel

theorem wkL_sz : ∀ x ∈ wkL, x.name.size ≤ 140737488355328 ∧ x.value.size ≤ 140737488355328 := by decide +kernel
theorem wkS_sz : ∀ x ∈ wkS, x.name.size ≤ 140737488355328 ∧ x.value.size ≤ 140737488355328 := by decide +kernel
set_option maxHeartbeats 1600000 in
theorem wakes04_any (w : World) : Calls Try.prog 18 #[] w fun e w' => e = .returned (.bool true) ∧ Below w.heap.size w w' := by
  have hr := Row.fresh w 39 2 2 (wkL.flatMap Lbl.cells) rfl
  have hb0 := hidden ((Below.refl w.heap.size w).alloc (Nat.le_refl _) (.cells (wkL.flatMap Lbl.cells).toArray 39))
  have O1 := hidden (lmake_any (some ⟨w.heap.size, 0, none⟩) 2 2 wkL _ ⟨hr.more (by simp), rfl, by omega, wkL_sz⟩ (by omega))
  clear hr
  go_enter Try.func18, Try.ntmps18
  go_wp2_with fail
  refine O1.out.mono ?_
  rintro e w1 ⟨v, rfl, hown, hb⟩
  rw [wk_make, show wkS.length = 2 from rfl] at hown
  obtain ⟨A1, c1, rfl, hc1, hr1⟩ := own_shape hown
  rw [wk_err]
  have HF := hidden (show LbF w1 A1 2 wkS from ⟨hr1, rfl, by omega, wkS_sz⟩)
  have HB1 := hidden (hb0.out.trans (hb.mono (by simp)))
  obtain ⟨g, o, x, rfl, hg, hx, d0, d1, _⟩ := lb_cells HF.out (show 0 < 2 by omega)
  obtain rfl : (⟨⟨#[97]⟩, ⟨#[120]⟩⟩ : Lbl) = x := by simpa [wkS] using hx
  have c0 : w1.cell? ⟨g, o, none⟩ = some (.string ⟨#[97]⟩) := by rw [show o = o + 0 * 2 by omega]; exact d0
  clear d0 d1
  have S2 := hidden (lshow_any _ 2 c1 wkS w1 HF.out hc1)
  rw [wk_show] at S2
  have S3 := hidden (fun W (hW : Below w1.heap.size w1 W) => lget_any _ 2 c1 wkS ⟨#[98]⟩ W (HF.out.on hW))
  rw [wk_get] at S3
  clear hown hr1 hb hx O1 hb0
  go_wp2_with (go_at_call 39; refine S2.out.mono ?_; rintro e w3 ⟨rfl, b3⟩)
  have HB3 := hidden (HB1.out.trans (b3.mono HB1.out.size))
  refine (S3.out _ b3).mono ?_
  rintro e w4 ⟨rfl, b4⟩
  have HB4 := hidden (HB3.out.trans (b4.mono HB3.out.size))
  go_wp2_with fail
  go_ret
  exact ⟨rfl, HB4.out⟩
end Go.Proofs.Ytfidneoakcejgaa
