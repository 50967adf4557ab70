/- HeadNone: a nil head has nothing and takes nothing, but plans as a new one; lists that are answered are new memory. Condition: the batch is of bulk within the limit. -/
import Derived.Test.YthncochjhbmceaaGreatHedNoneL
namespace Go.Proofs.YthncochjhbmceaaGreat
set_option maxRecDepth 100000
open Go.RowKit Go.WideShapes Go.ChangeShapes

namespace headNoneUpto
set_option maxHeartbeats 12800000 in
theorem closed : joinedFacts Tryz.pinned.checked.prog 4 Tryz.f4 (Rows.OpenSpec.upto Rows.headNoneSpec).bare Rows.headNoneUptoRow = true := by
  unfold joinedFacts
  repeat' (with_reducible refine Bool.and_eq_true_iff.mpr ⟨?_, ?_⟩)
  all_goals (as_aux_lemma => kernel_rfl)
theorem proved : Rows.HeadNoneUptoSaid :=
  OpenClaim.holds_of_cond 4 Tryz.f4 rfl rfl rfl rfl rfl rfl rfl ⟨rfl, rfl, rfl, rfl, rfl⟩ rfl rfl rfl rfl rfl (by kernel_rfl) Tryz.func4 closed
    (of_decide_eq_true (by kernel_rfl)) (by unfold Func.isWrapper; first | (rw [if_pos (by decide +kernel)]; kernel_rfl) | (rw [if_neg (by decide +kernel)]; exact ⟨rfl, rfl⟩))
    (fun os started H enc _ F => lifted os started H enc F)
#print axioms proved
end headNoneUpto

end Go.Proofs.YthncochjhbmceaaGreat
