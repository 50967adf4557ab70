/-
  No cell of these rows narrows 'for every input' (looked for: loops, veiled, ifaces, maps, wideKeys, modest, calm, conditions, laid).
  DERIVED. THE GIVEN ROWS OF THIS SEAT. 8 by the template 'for every input the law returns true; each argument reads behind the call as it read before'; 0 by the template 'total and deterministic' (their statements: YtfcpphfiickpoaaTotals.lean).
  GIVEN WITH THE SEED: the statements are not yours to turn. If you find one false, say at which input.
  Laid BY PROGRAM, IN A SANDBOX (cutbox-rows.mjs): the forced cells as the released guide's own fill.sh prints them over the translation b91973252470088f… (all of the seat's roots in one cut). By AI agents, Wed Nov 11 2026. No macro, syntax, notation, axiom, sorry.
-/
import Derived.Test.YtfcpphfiickpoaaChecked
import GoSem.Claim
import GoSem.ClaimJoined
import GoSem.ClaimMapViews
import Derived.JoinedTies
import Derived.KernelRfl
namespace Go.Proofs.Ytfcpphfiickpoaa
/- THE CELL 'sum', in the pinned program and in every row, IS THE sha256 OF THE DUMP (.gsa) THAT YtfcpphfiickpoaaProg.lean LOADS. Nothing in Lean hashes anything: it is a label: what it is worth is what the hold of that sum in a sandbox is worth. -/
noncomputable def Try.pinned : Pinned := { name := "ytfcpphfiickpoaa", sum := "b91973252470088fc615455c3cdfc4be1a6475ea3e672a92a05b3f98336de1fd", checked := Try.checked }
namespace Rows
def none {H : Type} : Left H := { results := [], args := [] }

/-- 'almanaclaw10.FoldStarts': WHATEVER THE INPUT: true; the input reads as it did. -/
def foldStartsSpec : ChangeSpec := { name := "foldStarts", fn := fun _ => fun
  | [d1, d2] => { results := [.lit (.bool true)], args := [d1, d2] }
  | _ => none }
def foldStartsRow : OpenClaim := { program := "ytfcpphfiickpoaa", sum := "b91973252470088fc615455c3cdfc4be1a6475ea3e672a92a05b3f98336de1fd", func := "almanac/almanaclaw10.FoldStarts", spec := "foldStarts", inPlace := ["math.Float64frombits", "math.Float64bits"], apart := false }
def FoldStartsSaid : Prop := foldStartsRow.holds Try.pinned (OpenSpec.ofChange foldStartsSpec)

/-- ITS FALSE NEIGHBOUR: 'it returns false'. Refute it at one input. -/
def foldStartsWrong : ChangeSpec := { name := "foldStarts", fn := fun _ => fun
  | [d1, d2] => { results := [.lit (.bool false)], args := [d1, d2] }
  | _ => none }
def FoldStartsWrongFalsely : Prop := foldStartsRow.holds Try.pinned (OpenSpec.ofChange foldStartsWrong)

/-- 'almanaclaw10.FoldFolds': WHATEVER THE INPUT: true; the input reads as it did. -/
def foldFoldsSpec : ChangeSpec := { name := "foldFolds", fn := fun _ => fun
  | [d1, d2] => { results := [.lit (.bool true)], args := [d1, d2] }
  | _ => none }
def foldFoldsRow : OpenClaim := { program := "ytfcpphfiickpoaa", sum := "b91973252470088fc615455c3cdfc4be1a6475ea3e672a92a05b3f98336de1fd", func := "almanac/almanaclaw10.FoldFolds", spec := "foldFolds", inPlace := ["math.Float64frombits", "math.Float64bits"], apart := false }
def FoldFoldsSaid : Prop := foldFoldsRow.holds Try.pinned (OpenSpec.ofChange foldFoldsSpec)

/-- ITS FALSE NEIGHBOUR: 'it returns false'. Refute it at one input. -/
def foldFoldsWrong : ChangeSpec := { name := "foldFolds", fn := fun _ => fun
  | [d1, d2] => { results := [.lit (.bool false)], args := [d1, d2] }
  | _ => none }
def FoldFoldsWrongFalsely : Prop := foldFoldsRow.holds Try.pinned (OpenSpec.ofChange foldFoldsWrong)

/-- 'almanaclaw10.FoldBounds': WHATEVER THE INPUT: true; the input reads as it did. -/
def foldBoundsSpec : ChangeSpec := { name := "foldBounds", fn := fun _ => fun
  | [d] => { results := [.lit (.bool true)], args := [d] }
  | _ => none }
def foldBoundsRow : OpenClaim := { program := "ytfcpphfiickpoaa", sum := "b91973252470088fc615455c3cdfc4be1a6475ea3e672a92a05b3f98336de1fd", func := "almanac/almanaclaw10.FoldBounds", spec := "foldBounds", inPlace := ["math.Float64frombits", "math.Float64bits"], apart := false }
def FoldBoundsSaid : Prop := foldBoundsRow.holds Try.pinned (OpenSpec.ofChange foldBoundsSpec)

/-- ITS FALSE NEIGHBOUR: 'it returns false'. Refute it at one input. -/
def foldBoundsWrong : ChangeSpec := { name := "foldBounds", fn := fun _ => fun
  | [d] => { results := [.lit (.bool false)], args := [d] }
  | _ => none }
def FoldBoundsWrongFalsely : Prop := foldBoundsRow.holds Try.pinned (OpenSpec.ofChange foldBoundsWrong)

/-- 'almanaclaw10.FoldMerges': WHATEVER THE INPUT: true; the input reads as it did. -/
def foldMergesSpec : ChangeSpec := { name := "foldMerges", fn := fun _ => fun
  | [d1, d2] => { results := [.lit (.bool true)], args := [d1, d2] }
  | _ => none }
def foldMergesRow : OpenClaim := { program := "ytfcpphfiickpoaa", sum := "b91973252470088fc615455c3cdfc4be1a6475ea3e672a92a05b3f98336de1fd", func := "almanac/almanaclaw10.FoldMerges", spec := "foldMerges", inPlace := ["math.Float64frombits", "math.Float64bits"], apart := false }
def FoldMergesSaid : Prop := foldMergesRow.holds Try.pinned (OpenSpec.ofChange foldMergesSpec)

/-- ITS FALSE NEIGHBOUR: 'it returns false'. Refute it at one input. -/
def foldMergesWrong : ChangeSpec := { name := "foldMerges", fn := fun _ => fun
  | [d1, d2] => { results := [.lit (.bool false)], args := [d1, d2] }
  | _ => none }
def FoldMergesWrongFalsely : Prop := foldMergesRow.holds Try.pinned (OpenSpec.ofChange foldMergesWrong)

/-- 'almanaclaw10.FoldWindows': WHATEVER THE INPUT: true; the input reads as it did. -/
def foldWindowsSpec : ChangeSpec := { name := "foldWindows", fn := fun _ => fun
  | [d1, d2] => { results := [.lit (.bool true)], args := [d1, d2] }
  | _ => none }
def foldWindowsRow : OpenClaim := { program := "ytfcpphfiickpoaa", sum := "b91973252470088fc615455c3cdfc4be1a6475ea3e672a92a05b3f98336de1fd", func := "almanac/almanaclaw10.FoldWindows", spec := "foldWindows", inPlace := ["math.Float64frombits", "math.Float64bits"], unfollowed := true, recurses := true, apart := false }
def FoldWindowsSaid : Prop := foldWindowsRow.holds Try.pinned (OpenSpec.ofChange foldWindowsSpec)

/-- ITS FALSE NEIGHBOUR: 'it returns false'. Refute it at one input. -/
def foldWindowsWrong : ChangeSpec := { name := "foldWindows", fn := fun _ => fun
  | [d1, d2] => { results := [.lit (.bool false)], args := [d1, d2] }
  | _ => none }
def FoldWindowsWrongFalsely : Prop := foldWindowsRow.holds Try.pinned (OpenSpec.ofChange foldWindowsWrong)

/-- 'almanaclaw10.FoldWhole': WHATEVER THE INPUT: true; the input reads as it did. -/
def foldWholeSpec : ChangeSpec := { name := "foldWhole", fn := fun _ => fun
  | [d1, d2] => { results := [.lit (.bool true)], args := [d1, d2] }
  | _ => none }
def foldWholeRow : OpenClaim := { program := "ytfcpphfiickpoaa", sum := "b91973252470088fc615455c3cdfc4be1a6475ea3e672a92a05b3f98336de1fd", func := "almanac/almanaclaw10.FoldWhole", spec := "foldWhole", inPlace := ["math.Float64frombits", "math.Float64bits"], unfollowed := true, recurses := true, apart := false }
def FoldWholeSaid : Prop := foldWholeRow.holds Try.pinned (OpenSpec.ofChange foldWholeSpec)

/-- ITS FALSE NEIGHBOUR: 'it returns false'. Refute it at one input. -/
def foldWholeWrong : ChangeSpec := { name := "foldWhole", fn := fun _ => fun
  | [d1, d2] => { results := [.lit (.bool false)], args := [d1, d2] }
  | _ => none }
def FoldWholeWrongFalsely : Prop := foldWholeRow.holds Try.pinned (OpenSpec.ofChange foldWholeWrong)

/-- 'almanaclaw10.FoldWidens': WHATEVER THE INPUT: true; the input reads as it did. -/
def foldWidensSpec : ChangeSpec := { name := "foldWidens", fn := fun _ => fun
  | [d1, d2] => { results := [.lit (.bool true)], args := [d1, d2] }
  | _ => none }
def foldWidensRow : OpenClaim := { program := "ytfcpphfiickpoaa", sum := "b91973252470088fc615455c3cdfc4be1a6475ea3e672a92a05b3f98336de1fd", func := "almanac/almanaclaw10.FoldWidens", spec := "foldWidens", inPlace := ["math.Float64frombits", "math.Float64bits"], unfollowed := true, recurses := true, apart := false }
def FoldWidensSaid : Prop := foldWidensRow.holds Try.pinned (OpenSpec.ofChange foldWidensSpec)

/-- ITS FALSE NEIGHBOUR: 'it returns false'. Refute it at one input. -/
def foldWidensWrong : ChangeSpec := { name := "foldWidens", fn := fun _ => fun
  | [d1, d2] => { results := [.lit (.bool false)], args := [d1, d2] }
  | _ => none }
def FoldWidensWrongFalsely : Prop := foldWidensRow.holds Try.pinned (OpenSpec.ofChange foldWidensWrong)

/-- 'almanaclaw10.FoldTwice': WHATEVER THE INPUT: true; the input reads as it did. -/
def foldTwiceSpec : ChangeSpec := { name := "foldTwice", fn := fun _ => fun
  | [d1, d2, d3] => { results := [.lit (.bool true)], args := [d1, d2, d3] }
  | _ => none }
def foldTwiceRow : OpenClaim := { program := "ytfcpphfiickpoaa", sum := "b91973252470088fc615455c3cdfc4be1a6475ea3e672a92a05b3f98336de1fd", func := "almanac/almanaclaw10.FoldTwice", spec := "foldTwice", inPlace := ["math.Float64frombits", "math.Float64bits"], unfollowed := true, recurses := true, apart := false }
def FoldTwiceSaid : Prop := foldTwiceRow.holds Try.pinned (OpenSpec.ofChange foldTwiceSpec)

/-- ITS FALSE NEIGHBOUR: 'it returns false'. Refute it at one input. -/
def foldTwiceWrong : ChangeSpec := { name := "foldTwice", fn := fun _ => fun
  | [d1, d2, d3] => { results := [.lit (.bool false)], args := [d1, d2, d3] }
  | _ => none }
def FoldTwiceWrongFalsely : Prop := foldTwiceRow.holds Try.pinned (OpenSpec.ofChange foldTwiceWrong)

/- THE SECOND FORM. 'bulk': how many values and letters a reading holds, each counted each time it is reached (what is shared counts as often as it is met; a slice's spare places count too). A statement '..UptoSaid' is the law's where the arguments, and the package variables that the reading takes, are together of bulk at most 1048576: NARROWER than '..Said'. Prove '..Said' where nothing that the law and all that it calls make is longer than what came in: it says more and counts as full. Else prove '..UptoSaid'. A law counts once. -/
mutual
def uptoBulk {H : Type} : DataW H → Nat
  | .lit (.string bytes) => bytes.length + 1
  | .lit _ => 1
  | .nil => 1
  | .ptr d => uptoBulk d + 1
  | .slice elems spare => uptoBulkAll elems + uptoBulkAll spare + 1
  | .agg parts => uptoBulkAll parts + 1
  | .iface _ d => uptoBulk d + 1
  | .map entries => uptoBulkEntries entries + 1
  | .held _ => 1
def uptoBulkAll {H : Type} : List (DataW H) → Nat
  | [] => 0
  | d :: r => uptoBulk d + uptoBulkAll r
def uptoBulkEntries {H : Type} : List (Lit × DataW H) → Nat
  | [] => 0
  | x :: r => uptoBulkEntry x + uptoBulkEntries r
def uptoBulkEntry {H : Type} : Lit × DataW H → Nat
  | (.string bytes, d) => bytes.length + uptoBulk d + 1
  | (_, d) => uptoBulk d + 1
 end
def uptoSmall : (H : Type) → List (DataW H) → Bool := fun _ ds => decide (uptoBulkAll ds ≤ 1048576)
def OpenSpec.upto (s : _root_.Go.ChangeSpec) : _root_.Go.OpenSpec := { _root_.Go.OpenSpec.ofChange s with cond := some uptoSmall }

/-- 'almanaclaw10.FoldStarts', WHERE WHAT IT READS IS OF BULK AT MOST 1048576: true; the input reads as it did. -/
def foldStartsUptoRow : OpenClaim := { program := "ytfcpphfiickpoaa", sum := "b91973252470088fc615455c3cdfc4be1a6475ea3e672a92a05b3f98336de1fd", func := "almanac/almanaclaw10.FoldStarts", spec := "foldStarts", inPlace := ["math.Float64frombits", "math.Float64bits"], apart := false, narrowed := true }
def FoldStartsUptoSaid : Prop := foldStartsUptoRow.holds Try.pinned (OpenSpec.upto foldStartsSpec)

/-- 'almanaclaw10.FoldFolds', WHERE WHAT IT READS IS OF BULK AT MOST 1048576: true; the input reads as it did. -/
def foldFoldsUptoRow : OpenClaim := { program := "ytfcpphfiickpoaa", sum := "b91973252470088fc615455c3cdfc4be1a6475ea3e672a92a05b3f98336de1fd", func := "almanac/almanaclaw10.FoldFolds", spec := "foldFolds", inPlace := ["math.Float64frombits", "math.Float64bits"], apart := false, narrowed := true }
def FoldFoldsUptoSaid : Prop := foldFoldsUptoRow.holds Try.pinned (OpenSpec.upto foldFoldsSpec)

/-- 'almanaclaw10.FoldBounds', WHERE WHAT IT READS IS OF BULK AT MOST 1048576: true; the input reads as it did. -/
def foldBoundsUptoRow : OpenClaim := { program := "ytfcpphfiickpoaa", sum := "b91973252470088fc615455c3cdfc4be1a6475ea3e672a92a05b3f98336de1fd", func := "almanac/almanaclaw10.FoldBounds", spec := "foldBounds", inPlace := ["math.Float64frombits", "math.Float64bits"], apart := false, narrowed := true }
def FoldBoundsUptoSaid : Prop := foldBoundsUptoRow.holds Try.pinned (OpenSpec.upto foldBoundsSpec)

/-- 'almanaclaw10.FoldMerges', WHERE WHAT IT READS IS OF BULK AT MOST 1048576: true; the input reads as it did. -/
def foldMergesUptoRow : OpenClaim := { program := "ytfcpphfiickpoaa", sum := "b91973252470088fc615455c3cdfc4be1a6475ea3e672a92a05b3f98336de1fd", func := "almanac/almanaclaw10.FoldMerges", spec := "foldMerges", inPlace := ["math.Float64frombits", "math.Float64bits"], apart := false, narrowed := true }
def FoldMergesUptoSaid : Prop := foldMergesUptoRow.holds Try.pinned (OpenSpec.upto foldMergesSpec)

/-- 'almanaclaw10.FoldWindows', WHERE WHAT IT READS IS OF BULK AT MOST 1048576: true; the input reads as it did. -/
def foldWindowsUptoRow : OpenClaim := { program := "ytfcpphfiickpoaa", sum := "b91973252470088fc615455c3cdfc4be1a6475ea3e672a92a05b3f98336de1fd", func := "almanac/almanaclaw10.FoldWindows", spec := "foldWindows", inPlace := ["math.Float64frombits", "math.Float64bits"], unfollowed := true, recurses := true, apart := false, narrowed := true }
def FoldWindowsUptoSaid : Prop := foldWindowsUptoRow.holds Try.pinned (OpenSpec.upto foldWindowsSpec)

/-- 'almanaclaw10.FoldWhole', WHERE WHAT IT READS IS OF BULK AT MOST 1048576: true; the input reads as it did. -/
def foldWholeUptoRow : OpenClaim := { program := "ytfcpphfiickpoaa", sum := "b91973252470088fc615455c3cdfc4be1a6475ea3e672a92a05b3f98336de1fd", func := "almanac/almanaclaw10.FoldWhole", spec := "foldWhole", inPlace := ["math.Float64frombits", "math.Float64bits"], unfollowed := true, recurses := true, apart := false, narrowed := true }
def FoldWholeUptoSaid : Prop := foldWholeUptoRow.holds Try.pinned (OpenSpec.upto foldWholeSpec)

/-- 'almanaclaw10.FoldWidens', WHERE WHAT IT READS IS OF BULK AT MOST 1048576: true; the input reads as it did. -/
def foldWidensUptoRow : OpenClaim := { program := "ytfcpphfiickpoaa", sum := "b91973252470088fc615455c3cdfc4be1a6475ea3e672a92a05b3f98336de1fd", func := "almanac/almanaclaw10.FoldWidens", spec := "foldWidens", inPlace := ["math.Float64frombits", "math.Float64bits"], unfollowed := true, recurses := true, apart := false, narrowed := true }
def FoldWidensUptoSaid : Prop := foldWidensUptoRow.holds Try.pinned (OpenSpec.upto foldWidensSpec)

/-- 'almanaclaw10.FoldTwice', WHERE WHAT IT READS IS OF BULK AT MOST 1048576: true; the input reads as it did. -/
def foldTwiceUptoRow : OpenClaim := { program := "ytfcpphfiickpoaa", sum := "b91973252470088fc615455c3cdfc4be1a6475ea3e672a92a05b3f98336de1fd", func := "almanac/almanaclaw10.FoldTwice", spec := "foldTwice", inPlace := ["math.Float64frombits", "math.Float64bits"], unfollowed := true, recurses := true, apart := false, narrowed := true }
def FoldTwiceUptoSaid : Prop := foldTwiceUptoRow.holds Try.pinned (OpenSpec.upto foldTwiceSpec)

end Rows
end Go.Proofs.Ytfcpphfiickpoaa
