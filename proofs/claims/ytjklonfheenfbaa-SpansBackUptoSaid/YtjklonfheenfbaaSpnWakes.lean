/- The law's own helper wakes (almanaclaw12) returns true in every world. No condition. -/
import Derived.Test.YtjklonfheenfbaaSpnEnc
import Derived.Test.YtjklonfheenfbaaSpnHas
namespace Go.Proofs.Ytjklonfheenfbaa
set_option maxRecDepth 100000
open Go.RowKit Go.Shelf

def wakeS : List Spn := [⟨5, 7⟩, ⟨1, 4⟩, ⟨9, 8⟩, ⟨9, 9⟩]
theorem wakeS_of {R : List Spn} (h : OfRes wakeS R) : R = [⟨1, 7⟩, ⟨9, 9⟩] := by
  refine oneS_unique h.one ⟨by simp, by simp⟩ fun t => ?_
  rw [h.has]
  rw [Bool.eq_iff_iff, hasP_iff, hasP_iff]
  simp only [wakeS, List.mem_cons, List.not_mem_nil, or_false, exists_eq_or_imp, exists_eq_left]
  omega
theorem wakeS_ok : ∀ x ∈ wakeS, x.ok := by
  intro x hx
  simp only [wakeS, List.mem_cons, List.not_mem_nil, or_false] at hx
  rcases hx with rfl | rfl | rfl | rfl <;> (unfold Spn.ok; decide)
theorem wakeT_of {R : List Spn} (h : OfRes [⟨1, 2⟩] R) : R = [⟨1, 2⟩] := by
  refine oneS_unique h.one ⟨by simp, by simp⟩ fun t => h.has t
theorem wakeT_enc : encL [⟨1, 2⟩] = [1, 2, 4] := by
  unfold encL encS intL
  simp only [List.length_singleton, List.flatMap_cons, List.flatMap_nil, List.append_nil]
  rw [uintL_small (by decide), uintL_small (by decide), uintL_small (by decide)]
  decide

set_option maxHeartbeats 3200000 in
theorem spnWakes_any (w : World) : Calls Try.prog 18 #[] w fun e w' => e = .returned (.bool true) ∧ Below w.heap.size w w' := by
  have r0 := Row.fresh w 51 2 4 (wakeS.flatMap Spn.cells) rfl
  have R0 := hidden r0
  have hb0 := hidden ((Below.refl w.heap.size w).alloc (Nat.le_refl _) (.cells (wakeS.flatMap Spn.cells).toArray 51))
  clear r0
  go_enter Try.func18, Try.ntmps18
  go_wp2_with fail
  refine (spnOf_any (some ⟨w.heap.size, 0, none⟩) 4 4 wakeS _ (R0.out.more (by simp)) rfl (by omega) wakeS_ok).mono ?_
  rintro e w1 ⟨v, R, rfl, ho, hR, _, hb⟩
  obtain rfl := wakeS_of hR
  have hB1 := hb0.out.trans (hb.mono (by simp))
  clear hR hb hb0 R0
  obtain ⟨A, c, rfl, hc, hr1⟩ := own_shape ho
  obtain ⟨gs, o, x, rfl, _, hx, hcl⟩ := row_at spnK hr1 (l := [⟨1, 7⟩, ⟨9, 9⟩]) rfl 0 (by decide)
  obtain rfl : x = ⟨1, 7⟩ := by simpa using hx.symm
  have c0 : w1.cell? ⟨gs, o, none⟩ = some (.int .i64 1) := hcl 0 (by omega)
  have c1 : w1.cell? ⟨gs, o + 1, none⟩ = some (.int .i64 7) := hcl 1 (by omega)
  have HR1 := hidden hr1
  clear hx hcl hr1 ho
  go_wp2_with fail
  refine (has_any (some ⟨gs, o, none⟩) 2 c [⟨1, 7⟩, ⟨9, 9⟩] 9 w1 HR1.out rfl (by omega)).mono ?_
  rw [show hasP [⟨1, 7⟩, ⟨9, 9⟩] 9 = true by decide]
  rintro e w2 ⟨rfl, hb2⟩
  have hB2 := hB1.trans (hb2.mono hB1.size)
  clear c0 c1 HR1 hb2 hB1
  have HR2 := hidden (Row.fresh w2 51 2 1 [.int .i64 1, .int .i64 2] rfl)
  have HB3 := hidden (hB2.alloc hB2.size (.cells #[.int .i64 1, .int .i64 2] 51))
  clear hB2
  go_wp2_with fail
  refine (encode_any (some ⟨w2.heap.size, 0, none⟩) 1 1 [⟨1, 2⟩] _ (HR2.out.more (by simp)) rfl (by omega) (by omega) (by intro x hx; rw [List.mem_singleton.1 hx]; unfold Spn.ok; decide)).mono ?_
  rintro e w3 ⟨R, hR, rfl, hb3⟩
  obtain rfl := wakeT_of hR
  rw [wakeT_enc]
  have HB4 := HB3.out.trans (hb3.mono HB3.out.size)
  clear hR hb3 HB3 HR2
  go_wp2_with fail
  go_ret
  exact ⟨rfl, HB4⟩
end Go.Proofs.Ytjklonfheenfbaa
