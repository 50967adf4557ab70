/- The law's own helper wakes returns true in every world. No condition. -/
import Derived.Test.YtohocdbneopooaaRollLaw
namespace Go.Proofs.Ytohocdbneopooaa
set_option maxRecDepth 100000
open Go.RowKit

def wakeLbl : Lbl := ⟨⟨#[97]⟩, ⟨#[120]⟩⟩
def wakeSmps : List Smp := [⟨3, 0⟩, ⟨9, 0⟩, ⟨25, 0⟩]
theorem wakeR (g0 g1 : Nat) : rollAllS 10 0 20 [⟨⟨some ⟨g0, 0, none⟩, 1, 1, [wakeLbl]⟩, ⟨some ⟨g1, 0, none⟩, 3, 3, wakeSmps⟩, ⟨none, 0, 0, []⟩⟩] = ([([wakeLbl], [smpWin (0, [⟨3, 0⟩, ⟨9, 0⟩])])], 0) := by rfl
theorem wakeW : (smpWin (0, [⟨3, 0⟩, ⟨9, 0⟩])).count = 2 := by rfl

set_option maxHeartbeats 3200000 in
theorem rollWakes_any (w : World) : Calls Try.prog 17 #[] w fun e w' => e = .returned (.bool true) ∧ Below w.heap.size w w' := by
  go_enter Try.func17, Try.ntmps17
  go_wp2_with fail
  obtain ⟨h, hh⟩ : ∃ h, w.heap.size = h := ⟨_, rfl⟩
  have r0 := Row.fresh w 57 2 1 (lblCells [wakeLbl]) rfl
  have r1 := Row.fresh (w.alloc (.cells (lblCells [wakeLbl]).toArray 57)) 55 2 3 (smpCells wakeSmps) rfl
  have r2 := Row.fresh ((w.alloc (.cells (lblCells [wakeLbl]).toArray 57)).alloc (.cells (smpCells wakeSmps).toArray 55)) 46 3 1 (serCells [⟨⟨some ⟨w.heap.size, 0, none⟩, 1, 1, [wakeLbl]⟩, ⟨some ⟨w.heap.size + 1, 0, none⟩, 3, 3, wakeSmps⟩, ⟨none, 0, 0, []⟩⟩]) rfl
  have r0' := (r0.alloc (by simp) (.cells (smpCells wakeSmps).toArray 55)).alloc (by simp) (.cells (serCells [⟨⟨some ⟨w.heap.size, 0, none⟩, 1, 1, [wakeLbl]⟩, ⟨some ⟨w.heap.size + 1, 0, none⟩, 3, 3, wakeSmps⟩, ⟨none, 0, 0, []⟩⟩]).toArray 46)
  have r1' := r1.alloc (by simp) (.cells (serCells [⟨⟨some ⟨w.heap.size, 0, none⟩, 1, 1, [wakeLbl]⟩, ⟨some ⟨w.heap.size + 1, 0, none⟩, 3, 3, wakeSmps⟩, ⟨none, 0, 0, []⟩⟩]).toArray 46)
  rw [World.size_alloc] at r1'
  rw [World.size_alloc, World.size_alloc] at r2
  have hbb : Below w.heap.size w (((w.alloc (.cells (lblCells [wakeLbl]).toArray 57)).alloc (.cells (smpCells wakeSmps).toArray 55)).alloc (.cells (serCells [⟨⟨some ⟨w.heap.size, 0, none⟩, 1, 1, [wakeLbl]⟩, ⟨some ⟨w.heap.size + 1, 0, none⟩, 3, 3, wakeSmps⟩, ⟨none, 0, 0, []⟩⟩]).toArray 46)) :=
    (((Below.refl _ _).alloc (Nat.le_refl _) _).alloc (by simp) _).alloc (by simp; omega) _
  have hsz : (((w.alloc (.cells (lblCells [wakeLbl]).toArray 57)).alloc (.cells (smpCells wakeSmps).toArray 55)).alloc (.cells (serCells [⟨⟨some ⟨w.heap.size, 0, none⟩, 1, 1, [wakeLbl]⟩, ⟨some ⟨w.heap.size + 1, 0, none⟩, 3, 3, wakeSmps⟩, ⟨none, 0, 0, []⟩⟩]).toArray 46)).heap.size = w.heap.size + 1 + 1 + 1 := by simp
  refine (fine_any 10 0 20 (some ⟨w.heap.size + 1 + 1, 0, none⟩) 1 1 [⟨⟨some ⟨w.heap.size, 0, none⟩, 1, 1, [wakeLbl]⟩, ⟨some ⟨w.heap.size + 1, 0, none⟩, 3, 3, wakeSmps⟩, ⟨none, 0, 0, []⟩⟩] _ ?a1 rfl (by omega) ?a2 ?a3).mono ?_
  case a1 => exact r2.more (Nat.le_trans (by omega) (Nat.le_of_eq hsz.symm))
  case a2 =>
    intro x hx
    simp only [List.mem_singleton] at hx
    subst hx
    exact ⟨⟨Nat.le_refl _, rfl, r0'.more (Nat.le_trans (by omega) (Nat.le_of_eq hsz.symm))⟩, ⟨Nat.le_refl _, rfl, r1'.more (Nat.le_trans (by omega) (Nat.le_of_eq hsz.symm))⟩, ⟨Nat.le_refl _, rfl, Row.nil⟩⟩
  case a3 =>
    intro x hx
    simp only [List.mem_singleton] at hx
    subst hx
    refine ⟨fun s hs => ?_, by simp, by show 1 * 32 ≤ 140737488351232; omega, by show 3 * 16 ≤ 140737488351232; omega, by show 0 * 48 ≤ 140737488351232; omega, by show 1 ≤ 1048576 ∧ 3 ≤ 1048576 ∧ 0 ≤ 1048576; omega⟩
    simp only [wakeSmps, List.mem_cons, List.not_mem_nil, or_false] at hs
    rcases hs with rfl | rfl | rfl <;> (refine ⟨?_, ?_, ?_⟩ <;> (try show (_ : Nat) < _) <;> decide)
  rw [wakeR]
  rintro e w4 ⟨v, L, rfl, ⟨hown, hsh, hat, _⟩, hb4⟩
  have hb4' := hbb.trans (hb4.mono hbb.size)
  match L, hsh.len with
  | [y], _ =>
    have hk := hsh.eq
    simp only [List.map_cons, List.map_nil, List.cons.injEq, and_true, Prod.mk.injEq] at hk
    have hy := hat y (List.mem_singleton.2 rfl)
    obtain ⟨⟨Al, nl, cl, ll⟩, ⟨As, ns, cs, ls⟩, ⟨Aw, nw, cw, lw⟩⟩ := y
    obtain ⟨_, _, ⟨_, hwl, hwr⟩⟩ := hy
    simp only at hk hwl hwr
    obtain ⟨rfl, rfl⟩ := hk
    obtain rfl : nw = 1 := hwl.symm
    obtain ⟨g6, c6, rfl, hg6, hg6', hc6, hq⟩ := own_at hown (by simp)
    have q2 : w4.cell? ⟨g6, 2, none⟩ = some (.slice Aw 1 cw) := hq 2 (by simp)
    obtain ⟨g7, o7, rfl, hg7, hq7⟩ := hwr.at_ (by omega)
    have q3 : w4.cell? ⟨g7, o7 + 1, none⟩ = some (.int .i64 2) := (hq7 1 (by omega)).trans (by rw [← wakeW]; rfl)
    clear hq hq7 hown hsh hat r0 r1 r2 r0' r1' hbb hsz hb4
    go_wp2_with fail
    refine (until_any _ _ _).mono ?_
    rw [show beginOf 25 10 = (20, 0) from by decide]
    rintro e w5 ⟨rfl, rfl⟩
    go_wp2_with fail
    go_ret
    exact ⟨rfl, hb4'⟩
end Go.Proofs.Ytohocdbneopooaa
