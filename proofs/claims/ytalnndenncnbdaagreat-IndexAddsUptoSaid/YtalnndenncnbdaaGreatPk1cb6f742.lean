/- LabelsKeeps: lists that are answered are new memory. No condition. -/
import Derived.Test.YtalnndenncnbdaaGreatPkfe08034b
namespace Go.Proofs.YtalnndenncnbdaaGreat
set_option maxRecDepth 100000
open Go.RowKit Go.WideShapes Go.ChangeShapes

theorem LbF.grown {w w' : World} {A : Option Addr} {n : Nat} {l : List Lbl} {X : Option Nat} (h : LbF w A n l) (hg : w.grownBy w' X) (hoff : 0 < n → ∀ a, A = some a → some a.block ≠ X) : LbF w' A n l :=
  ⟨(h.row.grown hg hoff (Nat.le_refl _)).more hg.size, h.len, h.fit, h.sz⟩
def markB : Lbl := ⟨⟨#[109, 97, 114, 107]⟩, ⟨#[109, 97, 114, 107]⟩⟩

namespace labelsKeeps
end labelsKeeps

end Go.Proofs.YtalnndenncnbdaaGreat
