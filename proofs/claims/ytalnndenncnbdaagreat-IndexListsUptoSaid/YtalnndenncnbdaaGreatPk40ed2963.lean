/- IndexLists: the names, the values of any name, and the order of the sets are the document's; new memory. Condition: the arguments' bulk is within the limit. -/
import Derived.Test.YtalnndenncnbdaaGreatPkd055e3ad
namespace Go.Proofs.YtalnndenncnbdaaGreat
set_option maxRecDepth 100000
open Go.RowKit Go.WideShapes Go.ChangeShapes

section
variable {H : Type} {enc : TypeId × Value → H} {W : World} {b : Nat}
instance : Inhabited ByteArray := ⟨⟨#[]⟩⟩
theorem open_texts {base : Nat} {v : Value} {d : DataW H} {ps : List MemPlace} (hv : Value.okWide Tryz.prog W .any base 44 v) (h : DataW.Trod enc Tryz.prog W 0 (fun _ => true) true 44 v d ps) (hF : Fits Tryz.prog W b 44 (d, ps)) :
    ∃ (A : Option Addr) (n c : Nat) (l : List ByteArray), v = .slice A n c ∧ TxF W A n l ∧ n ≤ b := by
  obtain ⟨s, rfl, hs, _, hn, hb⟩ := open_arg_slice (k := 1) (f := encT) Tryz.underlying44 (by kernel_rfl) (by decide) (fun _ => rfl) (opens_string Tryz.underlying9) hv h hF
  rw [show Tryz.prog.bytesOf 9 = 16 from by kernel_rfl] at hn
  simp only [reachBytes] at hn
  have hr := hs.2.2
  rw [encT_fm] at hr
  exact ⟨s.A, s.n, s.c, s.l, rfl, ⟨hr, hs.2.1, hn⟩, hb⟩
end
theorem indexLists_walk {H : Type} (enc : TypeId × Value → H) : LawWalk enc Tryz.prog 4 Tryz.f4 (fun ds => Rows.uptoBulkAll ds ≤ 1048576) := by
  intro W base args ds p hval hA hlt hsz hcond
  rw [Tryz.params4] at hval hA hsz
  obtain ⟨v0, vs0, d0, ds0, p0, q0, hargs, rfl, rfl, h0, r0⟩ := trodAll_cons hA
  obtain ⟨v1, vs1, d1, ds1, p1, q1, rfl, rfl, rfl, h1, r1⟩ := trodAll_cons r0
  obtain ⟨rfl, rfl, rfl⟩ := trodAll_nil r1
  obtain rfl : args = #[v0, v1] := by cases args; simp_all
  obtain ⟨A, N, C, ss, rfl, hs⟩ := open_sets (hval 0 22 v0 rfl rfl) h0 (arg_fits (b := Rows.uptoBulkAll [d0, d1]) (j := 0) rfl rfl (fun x hx => hlt x (by simp [hx])) hsz (Nat.le_refl _)) hcond
  obtain ⟨B, n, c, ls, rfl, hls, hn⟩ := open_texts (hval 1 44 v1 rfl rfl) h1 (arg_fits (b := Rows.uptoBulkAll [d0, d1]) (j := 1) rfl rfl (fun x hx => hlt x (by simp [hx])) hsz (Nat.le_refl _))
  exact indexLists_any A B N C n c ss ls W hs hls (Nat.le_trans hn hcond)

namespace indexListsUpto
set_option maxRecDepth 100000 in
theorem lifted (os : Os) (started : os.Started) (H : Type) (enc : TypeId × Value → H) (F : Stop.Interp) :
    ReturnsInHanded {} Tryz.checked os 4 .any ((Rows.OpenSpec.upto Rows.indexListsSpec).pre6 enc Tryz.prog Tryz.f4 Rows.indexListsUptoRow.domain false) (((Rows.OpenSpec.upto Rows.indexListsSpec).at F).post enc Tryz.prog Tryz.f4 false true false false) :=
  law_upto (C := Tryz.checked) (s := Rows.indexListsSpec) (tb := 4) own_prog started (by kernel_rfl) Tryz.func4
    (OpenSpec.witness (enc := enc) (C := Tryz.checked) (s := Rows.OpenSpec.upto Rows.indexListsSpec) (k := Rows.uptoSmall) rfl false ⟨#[], #[.slice none 0 0, .slice none 0 0], []⟩ 8 (by kernel_rfl) (by kernel_rfl) (by kernel_rfl)
      (x := ([.nil, .nil], [], [])) (by kernel_rfl) rfl (by kernel_rfl))
    laidOut (by kernel_rfl) rfl Tryz.underlying4 ⟨rfl, fun H ds h => match ds, h with | [_, _], _ => ⟨rfl, rfl, rfl⟩⟩ (indexLists_walk enc)

theorem proved : Rows.IndexListsUptoSaid :=
  OpenClaim.holds_of_cond 4 Tryz.f4 rfl rfl rfl rfl rfl rfl rfl ⟨rfl, rfl, rfl, rfl, rfl⟩ rfl rfl rfl rfl rfl (by kernel_rfl) Tryz.func4 (by kernel_rfl)
    (of_decide_eq_true (by kernel_rfl)) (by unfold Func.isWrapper; first | (rw [if_pos (by decide +kernel)]; kernel_rfl) | (rw [if_neg (by decide +kernel)]; exact ⟨rfl, rfl⟩))
    (fun os started H enc _ F => lifted os started H enc F)
#print axioms proved
end indexListsUpto

end Go.Proofs.YtalnndenncnbdaaGreat
