/-
  No cell of these rows narrows 'for every input' (looked for: loops, veiled, ifaces, maps, wideKeys, modest, calm, conditions, laid).
  DERIVED. THE GIVEN ROWS OF THIS SEAT. 11 by the template 'for every input the law returns true; each argument reads behind the call as it read before'; 0 by the template 'total and deterministic' (their statements: YtohocdbneopooaaTotals.lean).
  GIVEN WITH THE SEED: the statements are not yours to turn. If you find one false, say at which input.
  Laid BY PROGRAM, IN A SANDBOX (cutbox-rows.mjs): the forced cells as the released guide's own fill.sh prints them over the translation 2aa044a286daa11c… (all of the seat's roots in one cut). By AI agents, Wed Nov 11 2026. No macro, syntax, notation, axiom, sorry.
-/
import Derived.Test.YtohocdbneopooaaChecked
import GoSem.Claim
import GoSem.ClaimJoined
import GoSem.ClaimMapViews
import Derived.JoinedTies
import Derived.KernelRfl
namespace Go.Proofs.Ytohocdbneopooaa
/- THE CELL 'sum', in the pinned program and in every row, IS THE sha256 OF THE DUMP (.gsa) THAT YtohocdbneopooaaProg.lean LOADS. Nothing in Lean hashes anything: it is a label: what it is worth is what the hold of that sum in a sandbox is worth. -/
noncomputable def Try.pinned : Pinned := { name := "ytohocdbneopooaa", sum := "2aa044a286daa11ca947481de76ff1a33147bafb1183fa01c8e09641a2cae083", checked := Try.checked }
namespace Rows
def none {H : Type} : Left H := { results := [], args := [] }

/-- 'almanaclaw24.RollupFine': WHATEVER THE INPUT: true; the input reads as it did. -/
def rollupFineSpec : ChangeSpec := { name := "rollupFine", fn := fun _ => fun
  | [d1, d2] => { results := [.lit (.bool true)], args := [d1, d2] }
  | _ => none }
def rollupFineRow : OpenClaim := { program := "ytohocdbneopooaa", sum := "2aa044a286daa11ca947481de76ff1a33147bafb1183fa01c8e09641a2cae083", func := "almanac/almanaclaw24.RollupFine", spec := "rollupFine", inPlace := ["math.Float64frombits", "math.Float64bits"], unfollowed := true, recurses := true, apart := false }
def RollupFineSaid : Prop := rollupFineRow.holds Try.pinned (OpenSpec.ofChange rollupFineSpec)

/-- ITS FALSE NEIGHBOUR: 'it returns false'. Refute it at one input. -/
def rollupFineWrong : ChangeSpec := { name := "rollupFine", fn := fun _ => fun
  | [d1, d2] => { results := [.lit (.bool false)], args := [d1, d2] }
  | _ => none }
def RollupFineWrongFalsely : Prop := rollupFineRow.holds Try.pinned (OpenSpec.ofChange rollupFineWrong)

/-- 'almanaclaw24.RollupCoarse': WHATEVER THE INPUT: true; the input reads as it did. -/
def rollupCoarseSpec : ChangeSpec := { name := "rollupCoarse", fn := fun _ => fun
  | [d1, d2] => { results := [.lit (.bool true)], args := [d1, d2] }
  | _ => none }
def rollupCoarseRow : OpenClaim := { program := "ytohocdbneopooaa", sum := "2aa044a286daa11ca947481de76ff1a33147bafb1183fa01c8e09641a2cae083", func := "almanac/almanaclaw24.RollupCoarse", spec := "rollupCoarse", inPlace := ["math.Float64frombits", "math.Float64bits"], unfollowed := true, recurses := true, apart := false }
def RollupCoarseSaid : Prop := rollupCoarseRow.holds Try.pinned (OpenSpec.ofChange rollupCoarseSpec)

/-- ITS FALSE NEIGHBOUR: 'it returns false'. Refute it at one input. -/
def rollupCoarseWrong : ChangeSpec := { name := "rollupCoarse", fn := fun _ => fun
  | [d1, d2] => { results := [.lit (.bool false)], args := [d1, d2] }
  | _ => none }
def RollupCoarseWrongFalsely : Prop := rollupCoarseRow.holds Try.pinned (OpenSpec.ofChange rollupCoarseWrong)

/-- 'almanaclaw24.RollupPieces': WHATEVER THE INPUT: true; the input reads as it did. -/
def rollupPiecesSpec : ChangeSpec := { name := "rollupPieces", fn := fun _ => fun
  | [d1, d2, d3] => { results := [.lit (.bool true)], args := [d1, d2, d3] }
  | _ => none }
def rollupPiecesRow : OpenClaim := { program := "ytohocdbneopooaa", sum := "2aa044a286daa11ca947481de76ff1a33147bafb1183fa01c8e09641a2cae083", func := "almanac/almanaclaw24.RollupPieces", spec := "rollupPieces", inPlace := ["math.Float64frombits", "math.Float64bits", "internal/bytealg.abigen_runtime_cmpstring"], unfollowed := true, recurses := true, apart := false }
def RollupPiecesSaid : Prop := rollupPiecesRow.holds Try.pinned (OpenSpec.ofChange rollupPiecesSpec)

/-- ITS FALSE NEIGHBOUR: 'it returns false'. Refute it at one input. -/
def rollupPiecesWrong : ChangeSpec := { name := "rollupPieces", fn := fun _ => fun
  | [d1, d2, d3] => { results := [.lit (.bool false)], args := [d1, d2, d3] }
  | _ => none }
def RollupPiecesWrongFalsely : Prop := rollupPiecesRow.holds Try.pinned (OpenSpec.ofChange rollupPiecesWrong)

/-- 'almanaclaw24.RollupCounts': WHATEVER THE INPUT: true; the input reads as it did. -/
def rollupCountsSpec : ChangeSpec := { name := "rollupCounts", fn := fun _ => fun
  | [d1, d2, d3] => { results := [.lit (.bool true)], args := [d1, d2, d3] }
  | _ => none }
def rollupCountsRow : OpenClaim := { program := "ytohocdbneopooaa", sum := "2aa044a286daa11ca947481de76ff1a33147bafb1183fa01c8e09641a2cae083", func := "almanac/almanaclaw24.RollupCounts", spec := "rollupCounts", inPlace := ["math.Float64frombits", "math.Float64bits", "internal/bytealg.abigen_runtime_cmpstring"], unfollowed := true, recurses := true, apart := false }
def RollupCountsSaid : Prop := rollupCountsRow.holds Try.pinned (OpenSpec.ofChange rollupCountsSpec)

/-- ITS FALSE NEIGHBOUR: 'it returns false'. Refute it at one input. -/
def rollupCountsWrong : ChangeSpec := { name := "rollupCounts", fn := fun _ => fun
  | [d1, d2, d3] => { results := [.lit (.bool false)], args := [d1, d2, d3] }
  | _ => none }
def RollupCountsWrongFalsely : Prop := rollupCountsRow.holds Try.pinned (OpenSpec.ofChange rollupCountsWrong)

/-- 'almanaclaw21.MergeMerges': WHATEVER THE INPUT: true; the input reads as it did. -/
def mergeMergesSpec : ChangeSpec := { name := "mergeMerges", fn := fun _ => fun
  | [d] => { results := [.lit (.bool true)], args := [d] }
  | _ => none }
def mergeMergesRow : OpenClaim := { program := "ytohocdbneopooaa", sum := "2aa044a286daa11ca947481de76ff1a33147bafb1183fa01c8e09641a2cae083", func := "almanac/almanaclaw21.MergeMerges", spec := "mergeMerges", inPlace := ["internal/bytealg.abigen_runtime_cmpstring"], unfollowed := true, recurses := true, apart := false }
def MergeMergesSaid : Prop := mergeMergesRow.holds Try.pinned (OpenSpec.ofChange mergeMergesSpec)

/-- ITS FALSE NEIGHBOUR: 'it returns false'. Refute it at one input. -/
def mergeMergesWrong : ChangeSpec := { name := "mergeMerges", fn := fun _ => fun
  | [d] => { results := [.lit (.bool false)], args := [d] }
  | _ => none }
def MergeMergesWrongFalsely : Prop := mergeMergesRow.holds Try.pinned (OpenSpec.ofChange mergeMergesWrong)

/-- 'almanaclaw21.MergeClips': WHATEVER THE INPUT: true; the input reads as it did. -/
def mergeClipsSpec : ChangeSpec := { name := "mergeClips", fn := fun _ => fun
  | [d1, d2, d3] => { results := [.lit (.bool true)], args := [d1, d2, d3] }
  | _ => none }
def mergeClipsRow : OpenClaim := { program := "ytohocdbneopooaa", sum := "2aa044a286daa11ca947481de76ff1a33147bafb1183fa01c8e09641a2cae083", func := "almanac/almanaclaw21.MergeClips", spec := "mergeClips", inPlace := ["internal/bytealg.abigen_runtime_cmpstring"], unfollowed := true, recurses := true, apart := false }
def MergeClipsSaid : Prop := mergeClipsRow.holds Try.pinned (OpenSpec.ofChange mergeClipsSpec)

/-- ITS FALSE NEIGHBOUR: 'it returns false'. Refute it at one input. -/
def mergeClipsWrong : ChangeSpec := { name := "mergeClips", fn := fun _ => fun
  | [d1, d2, d3] => { results := [.lit (.bool false)], args := [d1, d2, d3] }
  | _ => none }
def MergeClipsWrongFalsely : Prop := mergeClipsRow.holds Try.pinned (OpenSpec.ofChange mergeClipsWrong)

/-- 'almanaclaw21.MergeStrips': WHATEVER THE INPUT: true; the input reads as it did. -/
def mergeStripsSpec : ChangeSpec := { name := "mergeStrips", fn := fun _ => fun
  | [d1, d2, d3] => { results := [.lit (.bool true)], args := [d1, d2, d3] }
  | _ => none }
def mergeStripsRow : OpenClaim := { program := "ytohocdbneopooaa", sum := "2aa044a286daa11ca947481de76ff1a33147bafb1183fa01c8e09641a2cae083", func := "almanac/almanaclaw21.MergeStrips", spec := "mergeStrips", inPlace := ["internal/bytealg.abigen_runtime_cmpstring"], unfollowed := true, recurses := true, apart := false }
def MergeStripsSaid : Prop := mergeStripsRow.holds Try.pinned (OpenSpec.ofChange mergeStripsSpec)

/-- ITS FALSE NEIGHBOUR: 'it returns false'. Refute it at one input. -/
def mergeStripsWrong : ChangeSpec := { name := "mergeStrips", fn := fun _ => fun
  | [d1, d2, d3] => { results := [.lit (.bool false)], args := [d1, d2, d3] }
  | _ => none }
def MergeStripsWrongFalsely : Prop := mergeStripsRow.holds Try.pinned (OpenSpec.ofChange mergeStripsWrong)

/-- 'almanaclaw21.MergeLaws': WHATEVER THE INPUT: true; the input reads as it did. -/
def mergeLawsSpec : ChangeSpec := { name := "mergeLaws", fn := fun _ => fun
  | [d1, d2, d3] => { results := [.lit (.bool true)], args := [d1, d2, d3] }
  | _ => none }
def mergeLawsRow : OpenClaim := { program := "ytohocdbneopooaa", sum := "2aa044a286daa11ca947481de76ff1a33147bafb1183fa01c8e09641a2cae083", func := "almanac/almanaclaw21.MergeLaws", spec := "mergeLaws", inPlace := ["internal/bytealg.abigen_runtime_cmpstring"], unfollowed := true, recurses := true, apart := false }
def MergeLawsSaid : Prop := mergeLawsRow.holds Try.pinned (OpenSpec.ofChange mergeLawsSpec)

/-- ITS FALSE NEIGHBOUR: 'it returns false'. Refute it at one input. -/
def mergeLawsWrong : ChangeSpec := { name := "mergeLaws", fn := fun _ => fun
  | [d1, d2, d3] => { results := [.lit (.bool false)], args := [d1, d2, d3] }
  | _ => none }
def MergeLawsWrongFalsely : Prop := mergeLawsRow.holds Try.pinned (OpenSpec.ofChange mergeLawsWrong)

/-- 'almanaclaw22.PlanPlans': WHATEVER THE INPUT: true; the input reads as it did. -/
def planPlansSpec : ChangeSpec := { name := "planPlans", fn := fun _ => fun
  | [d1, d2] => { results := [.lit (.bool true)], args := [d1, d2] }
  | _ => none }
def planPlansRow : OpenClaim := { program := "ytohocdbneopooaa", sum := "2aa044a286daa11ca947481de76ff1a33147bafb1183fa01c8e09641a2cae083", func := "almanac/almanaclaw22.PlanPlans", spec := "planPlans", unfollowed := true, recurses := true, apart := false }
def PlanPlansSaid : Prop := planPlansRow.holds Try.pinned (OpenSpec.ofChange planPlansSpec)

/-- ITS FALSE NEIGHBOUR: 'it returns false'. Refute it at one input. -/
def planPlansWrong : ChangeSpec := { name := "planPlans", fn := fun _ => fun
  | [d1, d2] => { results := [.lit (.bool false)], args := [d1, d2] }
  | _ => none }
def PlanPlansWrongFalsely : Prop := planPlansRow.holds Try.pinned (OpenSpec.ofChange planPlansWrong)

/-- 'almanaclaw22.PlanOnce': WHATEVER THE INPUT: true; the input reads as it did. -/
def planOnceSpec : ChangeSpec := { name := "planOnce", fn := fun _ => fun
  | [d1, d2] => { results := [.lit (.bool true)], args := [d1, d2] }
  | _ => none }
def planOnceRow : OpenClaim := { program := "ytohocdbneopooaa", sum := "2aa044a286daa11ca947481de76ff1a33147bafb1183fa01c8e09641a2cae083", func := "almanac/almanaclaw22.PlanOnce", spec := "planOnce", unfollowed := true, recurses := true, apart := false }
def PlanOnceSaid : Prop := planOnceRow.holds Try.pinned (OpenSpec.ofChange planOnceSpec)

/-- ITS FALSE NEIGHBOUR: 'it returns false'. Refute it at one input. -/
def planOnceWrong : ChangeSpec := { name := "planOnce", fn := fun _ => fun
  | [d1, d2] => { results := [.lit (.bool false)], args := [d1, d2] }
  | _ => none }
def PlanOnceWrongFalsely : Prop := planOnceRow.holds Try.pinned (OpenSpec.ofChange planOnceWrong)

/-- 'almanaclaw22.PlanCalm': WHATEVER THE INPUT: true; the input reads as it did. -/
def planCalmSpec : ChangeSpec := { name := "planCalm", fn := fun _ => fun
  | [d1, d2] => { results := [.lit (.bool true)], args := [d1, d2] }
  | _ => none }
def planCalmRow : OpenClaim := { program := "ytohocdbneopooaa", sum := "2aa044a286daa11ca947481de76ff1a33147bafb1183fa01c8e09641a2cae083", func := "almanac/almanaclaw22.PlanCalm", spec := "planCalm", unfollowed := true, recurses := true, apart := false }
def PlanCalmSaid : Prop := planCalmRow.holds Try.pinned (OpenSpec.ofChange planCalmSpec)

/-- ITS FALSE NEIGHBOUR: 'it returns false'. Refute it at one input. -/
def planCalmWrong : ChangeSpec := { name := "planCalm", fn := fun _ => fun
  | [d1, d2] => { results := [.lit (.bool false)], args := [d1, d2] }
  | _ => none }
def PlanCalmWrongFalsely : Prop := planCalmRow.holds Try.pinned (OpenSpec.ofChange planCalmWrong)

/- THE SECOND FORM. 'bulk': how many values and letters a reading holds, each counted each time it is reached (what is shared counts as often as it is met; a slice's spare places count too). A statement '..UptoSaid' is the law's where the arguments, and the package variables that the reading takes, are together of bulk at most 1048576: NARROWER than '..Said'. Prove '..Said' where nothing that the law and all that it calls make is longer than what came in: it says more and counts as full. Else prove '..UptoSaid'. A law counts once. -/
mutual
def uptoBulk {H : Type} : DataW H → Nat
  | .lit (.string bytes) => bytes.length + 1
  | .lit _ => 1
  | .nil => 1
  | .ptr d => uptoBulk d + 1
  | .slice elems spare => uptoBulkAll elems + uptoBulkAll spare + 1
  | .agg parts => uptoBulkAll parts + 1
  | .iface _ d => uptoBulk d + 1
  | .map entries => uptoBulkEntries entries + 1
  | .held _ => 1
def uptoBulkAll {H : Type} : List (DataW H) → Nat
  | [] => 0
  | d :: r => uptoBulk d + uptoBulkAll r
def uptoBulkEntries {H : Type} : List (Lit × DataW H) → Nat
  | [] => 0
  | x :: r => uptoBulkEntry x + uptoBulkEntries r
def uptoBulkEntry {H : Type} : Lit × DataW H → Nat
  | (.string bytes, d) => bytes.length + uptoBulk d + 1
  | (_, d) => uptoBulk d + 1
 end
def uptoSmall : (H : Type) → List (DataW H) → Bool := fun _ ds => decide (uptoBulkAll ds ≤ 1048576)
def OpenSpec.upto (s : _root_.Go.ChangeSpec) : _root_.Go.OpenSpec := { _root_.Go.OpenSpec.ofChange s with cond := some uptoSmall }

/-- 'almanaclaw24.RollupFine', WHERE WHAT IT READS IS OF BULK AT MOST 1048576: true; the input reads as it did. -/
def rollupFineUptoRow : OpenClaim := { program := "ytohocdbneopooaa", sum := "2aa044a286daa11ca947481de76ff1a33147bafb1183fa01c8e09641a2cae083", func := "almanac/almanaclaw24.RollupFine", spec := "rollupFine", inPlace := ["math.Float64frombits", "math.Float64bits"], unfollowed := true, recurses := true, apart := false, narrowed := true }
def RollupFineUptoSaid : Prop := rollupFineUptoRow.holds Try.pinned (OpenSpec.upto rollupFineSpec)

/-- 'almanaclaw24.RollupCoarse', WHERE WHAT IT READS IS OF BULK AT MOST 1048576: true; the input reads as it did. -/
def rollupCoarseUptoRow : OpenClaim := { program := "ytohocdbneopooaa", sum := "2aa044a286daa11ca947481de76ff1a33147bafb1183fa01c8e09641a2cae083", func := "almanac/almanaclaw24.RollupCoarse", spec := "rollupCoarse", inPlace := ["math.Float64frombits", "math.Float64bits"], unfollowed := true, recurses := true, apart := false, narrowed := true }
def RollupCoarseUptoSaid : Prop := rollupCoarseUptoRow.holds Try.pinned (OpenSpec.upto rollupCoarseSpec)

/-- 'almanaclaw24.RollupPieces', WHERE WHAT IT READS IS OF BULK AT MOST 1048576: true; the input reads as it did. -/
def rollupPiecesUptoRow : OpenClaim := { program := "ytohocdbneopooaa", sum := "2aa044a286daa11ca947481de76ff1a33147bafb1183fa01c8e09641a2cae083", func := "almanac/almanaclaw24.RollupPieces", spec := "rollupPieces", inPlace := ["math.Float64frombits", "math.Float64bits", "internal/bytealg.abigen_runtime_cmpstring"], unfollowed := true, recurses := true, apart := false, narrowed := true }
def RollupPiecesUptoSaid : Prop := rollupPiecesUptoRow.holds Try.pinned (OpenSpec.upto rollupPiecesSpec)

/-- 'almanaclaw24.RollupCounts', WHERE WHAT IT READS IS OF BULK AT MOST 1048576: true; the input reads as it did. -/
def rollupCountsUptoRow : OpenClaim := { program := "ytohocdbneopooaa", sum := "2aa044a286daa11ca947481de76ff1a33147bafb1183fa01c8e09641a2cae083", func := "almanac/almanaclaw24.RollupCounts", spec := "rollupCounts", inPlace := ["math.Float64frombits", "math.Float64bits", "internal/bytealg.abigen_runtime_cmpstring"], unfollowed := true, recurses := true, apart := false, narrowed := true }
def RollupCountsUptoSaid : Prop := rollupCountsUptoRow.holds Try.pinned (OpenSpec.upto rollupCountsSpec)

/-- 'almanaclaw21.MergeMerges', WHERE WHAT IT READS IS OF BULK AT MOST 1048576: true; the input reads as it did. -/
def mergeMergesUptoRow : OpenClaim := { program := "ytohocdbneopooaa", sum := "2aa044a286daa11ca947481de76ff1a33147bafb1183fa01c8e09641a2cae083", func := "almanac/almanaclaw21.MergeMerges", spec := "mergeMerges", inPlace := ["internal/bytealg.abigen_runtime_cmpstring"], unfollowed := true, recurses := true, apart := false, narrowed := true }
def MergeMergesUptoSaid : Prop := mergeMergesUptoRow.holds Try.pinned (OpenSpec.upto mergeMergesSpec)

/-- 'almanaclaw21.MergeClips', WHERE WHAT IT READS IS OF BULK AT MOST 1048576: true; the input reads as it did. -/
def mergeClipsUptoRow : OpenClaim := { program := "ytohocdbneopooaa", sum := "2aa044a286daa11ca947481de76ff1a33147bafb1183fa01c8e09641a2cae083", func := "almanac/almanaclaw21.MergeClips", spec := "mergeClips", inPlace := ["internal/bytealg.abigen_runtime_cmpstring"], unfollowed := true, recurses := true, apart := false, narrowed := true }
def MergeClipsUptoSaid : Prop := mergeClipsUptoRow.holds Try.pinned (OpenSpec.upto mergeClipsSpec)

/-- 'almanaclaw21.MergeStrips', WHERE WHAT IT READS IS OF BULK AT MOST 1048576: true; the input reads as it did. -/
def mergeStripsUptoRow : OpenClaim := { program := "ytohocdbneopooaa", sum := "2aa044a286daa11ca947481de76ff1a33147bafb1183fa01c8e09641a2cae083", func := "almanac/almanaclaw21.MergeStrips", spec := "mergeStrips", inPlace := ["internal/bytealg.abigen_runtime_cmpstring"], unfollowed := true, recurses := true, apart := false, narrowed := true }
def MergeStripsUptoSaid : Prop := mergeStripsUptoRow.holds Try.pinned (OpenSpec.upto mergeStripsSpec)

/-- 'almanaclaw21.MergeLaws', WHERE WHAT IT READS IS OF BULK AT MOST 1048576: true; the input reads as it did. -/
def mergeLawsUptoRow : OpenClaim := { program := "ytohocdbneopooaa", sum := "2aa044a286daa11ca947481de76ff1a33147bafb1183fa01c8e09641a2cae083", func := "almanac/almanaclaw21.MergeLaws", spec := "mergeLaws", inPlace := ["internal/bytealg.abigen_runtime_cmpstring"], unfollowed := true, recurses := true, apart := false, narrowed := true }
def MergeLawsUptoSaid : Prop := mergeLawsUptoRow.holds Try.pinned (OpenSpec.upto mergeLawsSpec)

/-- 'almanaclaw22.PlanPlans', WHERE WHAT IT READS IS OF BULK AT MOST 1048576: true; the input reads as it did. -/
def planPlansUptoRow : OpenClaim := { program := "ytohocdbneopooaa", sum := "2aa044a286daa11ca947481de76ff1a33147bafb1183fa01c8e09641a2cae083", func := "almanac/almanaclaw22.PlanPlans", spec := "planPlans", unfollowed := true, recurses := true, apart := false, narrowed := true }
def PlanPlansUptoSaid : Prop := planPlansUptoRow.holds Try.pinned (OpenSpec.upto planPlansSpec)

/-- 'almanaclaw22.PlanOnce', WHERE WHAT IT READS IS OF BULK AT MOST 1048576: true; the input reads as it did. -/
def planOnceUptoRow : OpenClaim := { program := "ytohocdbneopooaa", sum := "2aa044a286daa11ca947481de76ff1a33147bafb1183fa01c8e09641a2cae083", func := "almanac/almanaclaw22.PlanOnce", spec := "planOnce", unfollowed := true, recurses := true, apart := false, narrowed := true }
def PlanOnceUptoSaid : Prop := planOnceUptoRow.holds Try.pinned (OpenSpec.upto planOnceSpec)

/-- 'almanaclaw22.PlanCalm', WHERE WHAT IT READS IS OF BULK AT MOST 1048576: true; the input reads as it did. -/
def planCalmUptoRow : OpenClaim := { program := "ytohocdbneopooaa", sum := "2aa044a286daa11ca947481de76ff1a33147bafb1183fa01c8e09641a2cae083", func := "almanac/almanaclaw22.PlanCalm", spec := "planCalm", unfollowed := true, recurses := true, apart := false, narrowed := true }
def PlanCalmUptoSaid : Prop := planCalmUptoRow.holds Try.pinned (OpenSpec.upto planCalmSpec)

end Rows
end Go.Proofs.Ytohocdbneopooaa
