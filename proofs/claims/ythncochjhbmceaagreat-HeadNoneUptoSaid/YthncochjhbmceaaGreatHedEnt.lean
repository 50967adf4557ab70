/- The law's own entry, walked. No condition. -/
import Derived.Test.YthncochjhbmceaaGreatHedM
namespace Go.Proofs.YthncochjhbmceaaGreat
set_option maxRecDepth 100000
open Go.RowKit

set_option maxHeartbeats 3200000 in
theorem entry_any (s : ByteArray) (t : Int) (w : World) :
    Calls Tryz.prog 26 #[.string s, .int .i64 t] w fun e w' => ∃ g, e = .returned (.agg #[.slice (some ⟨g, 0, none⟩) 1 1, .int .i64 t, .int .u64 7]) ∧ Whole1 w' g 70 #[.string ⟨#[97]⟩, .string s] ∧ w.heap.size ≤ g ∧ Below w.heap.size w w' := by
  go_enter Tryz.func26, Tryz.ntmps26
  go_wp2_with fail
  have hA := (Whole1.new w 93 #[.slice (some ⟨w.heap.size + 1, 0, none⟩) 1 1, .int .i64 t, .int .u64 7]).alloc (.cells #[.string ⟨#[97]⟩, .string s] 70)
  have hL := Whole1.new (w.alloc (.cells #[.slice (some ⟨w.heap.size + 1, 0, none⟩) 1 1, .int .i64 t, .int .u64 7] 93)) 70 #[.string ⟨#[97]⟩, .string s]
  rw [World.size_alloc] at hL
  have d0 := hA.cell 0
  have d1 := hA.cell 1
  have d2 := hA.cell 2
  refine bodyPost_ret (v := .agg #[.slice (some ⟨w.heap.size + 1, 0, none⟩) 1 1, .int .i64 t, .int .u64 7]) (by simp [results, Tryz.results26, go_sem, d0, d1, d2]) rfl ⟨w.heap.size + 1, rfl, hL, by omega, ((Below.refl _ _).alloc (Nat.le_refl _) _).alloc (by simp) _⟩
end Go.Proofs.YthncochjhbmceaaGreat
