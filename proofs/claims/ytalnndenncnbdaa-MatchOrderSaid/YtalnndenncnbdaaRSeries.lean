/- The reference's Compare at labels that are the same, and its Series at lists that are alike. No condition. -/
import Derived.Test.YtalnndenncnbdaaSerMem
namespace Go.Proofs.Ytalnndenncnbdaa
set_option maxRecDepth 100000
open Go.RowKit

theorem lbl_cells_at {w wr : World} {A : Option Addr} {n : Nat} {l : List Lbl} {B : Nat} (hr : Row w B 2 A n (lblCells l)) (hl : l.length = n) (hb : Below B w wr) (k : Nat) (hk : k < n) :
    ∃ gs o, A = some ⟨gs, o, none⟩ ∧ gs < B ∧ ∃ x, l[k]? = some x ∧ wr.cell? ⟨gs, o + k * 2, none⟩ = some (.string x.name) ∧ wr.cell? ⟨gs, o + k * 2 + 1, none⟩ = some (.string x.value) := by
  obtain ⟨gs, o, rfl, hgs, hc⟩ := hr.at_ (by omega)
  have hkl : k < l.length := by omega
  have hs := lblCells_at l k hkl
  exact ⟨gs, o, rfl, hgs, l[k], List.getElem?_eq_getElem hkl, ((hb.cell (p := ⟨gs, o + k * 2, none⟩) hgs).trans (hc (k * 2) (by omega))).trans hs.1, ((hb.cell (p := ⟨gs, o + (k * 2 + 1), none⟩) hgs).trans (hc (k * 2 + 1) (by omega))).trans hs.2⟩

theorem bytes_irrefl : ∀ l : List UInt8, Op.bytesLess l l = false
  | [] => rfl
  | a :: l => by simp [Op.bytesLess, bytes_irrefl l]

end Go.Proofs.Ytalnndenncnbdaa
