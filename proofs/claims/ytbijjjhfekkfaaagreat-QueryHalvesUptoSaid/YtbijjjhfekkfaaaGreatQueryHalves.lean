/- QueryHalves: a range that is asked for in two halves gives, put together, what it gives at once. Condition: the arguments' bulk is within the limit. -/
import Derived.Test.YtbijjjhfekkfaaaGreatQryHalf
namespace Go.Proofs.YtbijjjhfekkfaaaGreat
set_option maxRecDepth 100000
open Go.RowKit Go.WideShapes Go.ChangeShapes

namespace queryHalvesUpto
set_option maxHeartbeats 12800000 in
theorem closed : joinedFacts Tryz.pinned.checked.prog 4 Tryz.f4 (Rows.OpenSpec.upto Rows.queryHalvesSpec).bare Rows.queryHalvesUptoRow = true := by
  unfold joinedFacts
  repeat' (with_reducible refine Bool.and_eq_true_iff.mpr ⟨?_, ?_⟩)
  all_goals (as_aux_lemma => kernel_rfl)
theorem proved : Rows.QueryHalvesUptoSaid :=
  OpenClaim.holds_of_cond 4 Tryz.f4 rfl rfl rfl rfl rfl rfl rfl ⟨rfl, rfl, rfl, rfl, rfl⟩ rfl rfl rfl rfl rfl (by kernel_rfl) Tryz.func4 closed
    (of_decide_eq_true (by kernel_rfl)) (by unfold Func.isWrapper; first | (rw [if_pos (by decide +kernel)]; kernel_rfl) | (rw [if_neg (by decide +kernel)]; exact ⟨rfl, rfl⟩))
    (fun os started H enc _ F => lifted os started H enc F)
#print axioms proved
end queryHalvesUpto

end Go.Proofs.YtbijjjhfekkfaaaGreat
