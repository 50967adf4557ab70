/- IndexSorts: the sets stand in order, each once; two indexes are apart; a nil one has nothing. Condition: the arguments' bulk is within the limit. -/
import Derived.Test.YtalnndenncnbdaaGreatPka89d7ad3
namespace Go.Proofs.YtalnndenncnbdaaGreat
set_option maxRecDepth 100000
open Go.RowKit Go.WideShapes Go.ChangeShapes

theorem indexSorts_walk {H : Type} (enc : TypeId × Value → H) : LawWalk enc Tryz.prog 6 Tryz.f6 (fun ds => Rows.uptoBulkAll ds ≤ 1048576) := by
  intro W base args ds p hval hA hlt hsz hcond
  rw [Tryz.params6] at hval hA hsz
  obtain ⟨v0, vs0, d0, ds0, p0, q0, hargs, rfl, rfl, h0, r0⟩ := trodAll_cons hA
  obtain ⟨v1, vs1, d1, ds1, p1, q1, rfl, rfl, rfl, h1, r1⟩ := trodAll_cons r0
  obtain ⟨rfl, rfl, rfl⟩ := trodAll_nil r1
  obtain rfl : args = #[v0, v1] := by cases args; simp_all
  obtain ⟨A, N, C, ss, rfl, hs⟩ := open_sets (hval 0 22 v0 rfl rfl) h0 (arg_fits (b := Rows.uptoBulkAll [d0, d1]) (j := 0) rfl rfl (fun x hx => hlt x (by simp [hx])) hsz (Nat.le_refl _)) hcond
  obtain ⟨B, n, c, ts, rfl, ht⟩ := open_sets (hval 1 22 v1 rfl rfl) h1 (arg_fits (b := Rows.uptoBulkAll [d0, d1]) (j := 1) rfl rfl (fun x hx => hlt x (by simp [hx])) hsz (Nat.le_refl _)) hcond
  exact indexSorts_any A B N C n c ss ts W hs ht

namespace indexSortsUpto
set_option maxRecDepth 100000 in
theorem lifted (os : Os) (started : os.Started) (H : Type) (enc : TypeId × Value → H) (F : Stop.Interp) :
    ReturnsInHanded {} Tryz.checked os 6 .any ((Rows.OpenSpec.upto Rows.indexSortsSpec).pre6 enc Tryz.prog Tryz.f6 Rows.indexSortsUptoRow.domain false) (((Rows.OpenSpec.upto Rows.indexSortsSpec).at F).post enc Tryz.prog Tryz.f6 false true false false) :=
  law_upto (C := Tryz.checked) (s := Rows.indexSortsSpec) (tb := 4) own_prog started (by kernel_rfl) Tryz.func6
    (OpenSpec.witness (enc := enc) (C := Tryz.checked) (s := Rows.OpenSpec.upto Rows.indexSortsSpec) (k := Rows.uptoSmall) rfl false ⟨#[], #[.slice none 0 0, .slice none 0 0], []⟩ 8 (by kernel_rfl) (by kernel_rfl) (by kernel_rfl)
      (x := ([.nil, .nil], [], [])) (by kernel_rfl) rfl (by kernel_rfl))
    laidOut (by kernel_rfl) rfl Tryz.underlying4 ⟨rfl, fun H ds h => match ds, h with | [_, _], _ => ⟨rfl, rfl, rfl⟩⟩ (indexSorts_walk enc)

theorem proved : Rows.IndexSortsUptoSaid :=
  OpenClaim.holds_of_cond 6 Tryz.f6 rfl rfl rfl rfl rfl rfl rfl ⟨rfl, rfl, rfl, rfl, rfl⟩ rfl rfl rfl rfl rfl (by kernel_rfl) Tryz.func6 (by kernel_rfl)
    (of_decide_eq_true (by kernel_rfl)) (by unfold Func.isWrapper; first | (rw [if_pos (by decide +kernel)]; kernel_rfl) | (rw [if_neg (by decide +kernel)]; exact ⟨rfl, rfl⟩))
    (fun os started H enc _ F => lifted os started H enc F)
#print axioms proved
end indexSortsUpto

end Go.Proofs.YtalnndenncnbdaaGreat
