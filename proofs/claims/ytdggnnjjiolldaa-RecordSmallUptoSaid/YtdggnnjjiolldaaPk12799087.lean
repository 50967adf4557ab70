/- The reference's Of: the one list of the spans. Condition: the row is within the reach. -/
import Derived.Test.YtdggnnjjiolldaaPkda44597c
import Derived.Test.YtdggnnjjiolldaaPk55098a59
import Derived.Lib.QuietBelow
namespace Go.Proofs.Ytdggnnjjiolldaa
set_option maxRecDepth 100000
open Go.RowKit Go.Shelf

/-- do two spans, the first one begun no later, make one? -/
def joinB (a b : Spn) : Bool := decide (b.frm ≤ a.til) || decide (b.frm - 1 = a.til)
theorem joinB_not {a b : Spn} : joinB a b = false ↔ (a.til < b.frm ∧ a.til < b.frm - 1) := by
  unfold joinB
  rw [Bool.or_eq_false_iff, decide_eq_false_iff_not, decide_eq_false_iff_not]
  omega
theorem own_tail_g {w : World} {base n : Nat} {T : TypeId} {v : Value} {l : List Spn} {xs : List Value} (h : w.ownsRow base T 2 v n xs) (he : xs = l.flatMap Spn.cells) (hn : 0 < n) :
    ∃ g cap rest, v = .slice (some ⟨g, 0, none⟩) n cap ∧ base ≤ g ∧ Whole1 w g T (l.flatMap Spn.cells ++ rest).toArray ∧ n ≤ cap ∧ cap ≤ maxLen ∧ (l.flatMap Spn.cells ++ rest).length = cap * 2 := by
  subst he
  obtain ⟨g, cap, rest, a, b, c, d, e, _, f⟩ := own_whole_g spnK h hn
  exact ⟨g, cap, rest, a, b, c, d, e, f⟩
theorem fullS_snoc (l : List Spn) (x : Spn) : fullS (l ++ [x]) = if x.til < x.frm then fullS l else fullS l ++ [x] := by
  unfold fullS
  rw [List.filter_append]
  by_cases h : x.til < x.frm
  · rw [if_pos h]; simp [h]
  · rw [if_neg h]; simp [h]
abbrev frmLt (a b : Spn) : Bool := decide (a.frm < b.frm)
theorem swo_frmLt : Go.Sort.SWO frmLt := ⟨fun x => by simp [frmLt], fun x y z h1 h2 => by simp only [frmLt, decide_eq_true_eq] at *; omega, fun x y z h1 h2 => by simp only [frmLt, decide_eq_false_iff_not] at *; omega⟩

theorem own_ins {w : World} {base g cap j : Nat} {T : TypeId} {R : List Spn} {x : Spn} {rest : List Value} (hg : base ≤ g) (hw : Whole1 w g T ((PutG.putAt j x R).flatMap Spn.cells ++ rest).toArray) (hnc : R.length + 1 ≤ cap) (hc : cap ≤ maxLen) (hj : j ≤ R.length) (hlr : ((R ++ [x]).flatMap Spn.cells ++ rest).length = cap * 2) :
    w.ownsRow base T 2 (.slice (some ⟨g, 0, none⟩) (R.length + 1) cap) (PutG.putAt j x R).length ((PutG.putAt j x R).flatMap Spn.cells) := by
  have hl := PutG.putAt_len j x R hj
  rw [hl]
  refine own_of_whole_g spnK hg hw hnc hc hl ?_
  rw [List.length_append, fm_len spnK] at hlr ⊢
  rw [hl]
  simpa using hlr

end Go.Proofs.Ytdggnnjjiolldaa
