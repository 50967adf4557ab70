/- HeadErases: what is erased is no longer told, and all else is. Condition: the arguments' bulk is within the limit. -/
import Derived.Test.YthncochjhbmceaaGreatHedErasesL
namespace Go.Proofs.YthncochjhbmceaaGreat
set_option maxRecDepth 100000
open Go.RowKit Go.WideShapes Go.ChangeShapes

namespace headErasesUpto
set_option maxHeartbeats 12800000 in
theorem closed : joinedFacts Tryz.pinned.checked.prog 5 Tryz.f5 (Rows.OpenSpec.upto Rows.headErasesSpec).bare Rows.headErasesUptoRow = true := by
  unfold joinedFacts
  repeat' (with_reducible refine Bool.and_eq_true_iff.mpr ⟨?_, ?_⟩)
  all_goals (as_aux_lemma => kernel_rfl)
theorem proved : Rows.HeadErasesUptoSaid :=
  OpenClaim.holds_of_cond 5 Tryz.f5 rfl rfl rfl rfl rfl rfl rfl ⟨rfl, rfl, rfl, rfl, rfl⟩ rfl rfl rfl rfl rfl (by kernel_rfl) Tryz.func5 closed
    (of_decide_eq_true (by kernel_rfl)) (by unfold Func.isWrapper; first | (rw [if_pos (by decide +kernel)]; kernel_rfl) | (rw [if_neg (by decide +kernel)]; exact ⟨rfl, rfl⟩))
    (fun os started H enc _ F => lifted os started H enc F)
#print axioms proved
end headErasesUpto

end Go.Proofs.YthncochjhbmceaaGreat
