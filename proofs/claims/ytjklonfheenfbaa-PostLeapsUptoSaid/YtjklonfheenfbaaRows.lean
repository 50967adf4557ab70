/-
  No cell of these rows narrows 'for every input' (looked for: loops, veiled, ifaces, maps, wideKeys, modest, calm, conditions, laid).
  DERIVED. THE GIVEN ROWS OF THIS SEAT. 12 by the template 'for every input the law returns true; each argument reads behind the call as it read before'; 0 by the template 'total and deterministic' (their statements: YtjklonfheenfbaaTotals.lean).
  GIVEN WITH THE SEED: the statements are not yours to turn. If you find one false, say at which input.
  Laid BY PROGRAM, IN A SANDBOX (cutbox-rows.mjs): the forced cells as the released guide's own fill.sh prints them over the translation 321ce977e7c22484… (all of the seat's roots in one cut). By AI agents, Wed Nov 11 2026. No macro, syntax, notation, axiom, sorry.
-/
import Derived.Test.YtjklonfheenfbaaChecked
import GoSem.Claim
import GoSem.ClaimJoined
import GoSem.ClaimMapViews
import Derived.JoinedTies
import Derived.KernelRfl
namespace Go.Proofs.Ytjklonfheenfbaa
/- THE CELL 'sum', in the pinned program and in every row, IS THE sha256 OF THE DUMP (.gsa) THAT YtjklonfheenfbaaProg.lean LOADS. Nothing in Lean hashes anything: it is a label: what it is worth is what the hold of that sum in a sandbox is worth. -/
noncomputable def Try.pinned : Pinned := { name := "ytjklonfheenfbaa", sum := "321ce977e7c224847f017fdcce8acd23a78483e15c7aff1f327a4b420b4e8f05", checked := Try.checked }
namespace Rows
def none {H : Type} : Left H := { results := [], args := [] }

/-- 'almanaclaw26.QueryBest': WHATEVER THE INPUT: true; the input reads as it did. -/
def queryBestSpec : ChangeSpec := { name := "queryBest", fn := fun _ => fun
  | [d1, d2] => { results := [.lit (.bool true)], args := [d1, d2] }
  | _ => none }
def queryBestRow : OpenClaim := { program := "ytjklonfheenfbaa", sum := "321ce977e7c224847f017fdcce8acd23a78483e15c7aff1f327a4b420b4e8f05", func := "almanac/almanaclaw26.QueryBest", spec := "queryBest", inPlace := ["internal/bytealg.abigen_runtime_cmpstring"], unfollowed := true, recurses := true, apart := false }
def QueryBestSaid : Prop := queryBestRow.holds Try.pinned (OpenSpec.ofChange queryBestSpec)

/-- ITS FALSE NEIGHBOUR: 'it returns false'. Refute it at one input. -/
def queryBestWrong : ChangeSpec := { name := "queryBest", fn := fun _ => fun
  | [d1, d2] => { results := [.lit (.bool false)], args := [d1, d2] }
  | _ => none }
def QueryBestWrongFalsely : Prop := queryBestRow.holds Try.pinned (OpenSpec.ofChange queryBestWrong)

/-- 'almanaclaw12.SpansOf': WHATEVER THE INPUT: true; the input reads as it did. -/
def spansOfSpec : ChangeSpec := { name := "spansOf", fn := fun _ => fun
  | [d1, d2, d3] => { results := [.lit (.bool true)], args := [d1, d2, d3] }
  | _ => none }
def spansOfRow : OpenClaim := { program := "ytjklonfheenfbaa", sum := "321ce977e7c224847f017fdcce8acd23a78483e15c7aff1f327a4b420b4e8f05", func := "almanac/almanaclaw12.SpansOf", spec := "spansOf", inPlace := ["internal/abi.NoEscape"], unfollowed := true, recurses := true, apart := false }
def SpansOfSaid : Prop := spansOfRow.holds Try.pinned (OpenSpec.ofChange spansOfSpec)

/-- ITS FALSE NEIGHBOUR: 'it returns false'. Refute it at one input. -/
def spansOfWrong : ChangeSpec := { name := "spansOf", fn := fun _ => fun
  | [d1, d2, d3] => { results := [.lit (.bool false)], args := [d1, d2, d3] }
  | _ => none }
def SpansOfWrongFalsely : Prop := spansOfRow.holds Try.pinned (OpenSpec.ofChange spansOfWrong)

/-- 'almanaclaw12.SpansKeep': WHATEVER THE INPUT: true; the input reads as it did. -/
def spansKeepSpec : ChangeSpec := { name := "spansKeep", fn := fun _ => fun
  | [d1, d2] => { results := [.lit (.bool true)], args := [d1, d2] }
  | _ => none }
def spansKeepRow : OpenClaim := { program := "ytjklonfheenfbaa", sum := "321ce977e7c224847f017fdcce8acd23a78483e15c7aff1f327a4b420b4e8f05", func := "almanac/almanaclaw12.SpansKeep", spec := "spansKeep", inPlace := ["internal/abi.NoEscape"], unfollowed := true, recurses := true, apart := false }
def SpansKeepSaid : Prop := spansKeepRow.holds Try.pinned (OpenSpec.ofChange spansKeepSpec)

/-- ITS FALSE NEIGHBOUR: 'it returns false'. Refute it at one input. -/
def spansKeepWrong : ChangeSpec := { name := "spansKeep", fn := fun _ => fun
  | [d1, d2] => { results := [.lit (.bool false)], args := [d1, d2] }
  | _ => none }
def SpansKeepWrongFalsely : Prop := spansKeepRow.holds Try.pinned (OpenSpec.ofChange spansKeepWrong)

/-- 'almanaclaw12.SpansSet': WHATEVER THE INPUT: true; the input reads as it did. -/
def spansSetSpec : ChangeSpec := { name := "spansSet", fn := fun _ => fun
  | [d1, d2, d3] => { results := [.lit (.bool true)], args := [d1, d2, d3] }
  | _ => none }
def spansSetRow : OpenClaim := { program := "ytjklonfheenfbaa", sum := "321ce977e7c224847f017fdcce8acd23a78483e15c7aff1f327a4b420b4e8f05", func := "almanac/almanaclaw12.SpansSet", spec := "spansSet", inPlace := ["internal/abi.NoEscape"], unfollowed := true, recurses := true, apart := false }
def SpansSetSaid : Prop := spansSetRow.holds Try.pinned (OpenSpec.ofChange spansSetSpec)

/-- ITS FALSE NEIGHBOUR: 'it returns false'. Refute it at one input. -/
def spansSetWrong : ChangeSpec := { name := "spansSet", fn := fun _ => fun
  | [d1, d2, d3] => { results := [.lit (.bool false)], args := [d1, d2, d3] }
  | _ => none }
def SpansSetWrongFalsely : Prop := spansSetRow.holds Try.pinned (OpenSpec.ofChange spansSetWrong)

/-- 'almanaclaw12.SpansClip': WHATEVER THE INPUT: true; the input reads as it did. -/
def spansClipSpec : ChangeSpec := { name := "spansClip", fn := fun _ => fun
  | [d1, d2, d3] => { results := [.lit (.bool true)], args := [d1, d2, d3] }
  | _ => none }
def spansClipRow : OpenClaim := { program := "ytjklonfheenfbaa", sum := "321ce977e7c224847f017fdcce8acd23a78483e15c7aff1f327a4b420b4e8f05", func := "almanac/almanaclaw12.SpansClip", spec := "spansClip", inPlace := ["internal/abi.NoEscape"], unfollowed := true, recurses := true, apart := false }
def SpansClipSaid : Prop := spansClipRow.holds Try.pinned (OpenSpec.ofChange spansClipSpec)

/-- ITS FALSE NEIGHBOUR: 'it returns false'. Refute it at one input. -/
def spansClipWrong : ChangeSpec := { name := "spansClip", fn := fun _ => fun
  | [d1, d2, d3] => { results := [.lit (.bool false)], args := [d1, d2, d3] }
  | _ => none }
def SpansClipWrongFalsely : Prop := spansClipRow.holds Try.pinned (OpenSpec.ofChange spansClipWrong)

/-- 'almanaclaw12.SpansBytes': WHATEVER THE INPUT: true; the input reads as it did. -/
def spansBytesSpec : ChangeSpec := { name := "spansBytes", fn := fun _ => fun
  | [d1, d2, d3] => { results := [.lit (.bool true)], args := [d1, d2, d3] }
  | _ => none }
def spansBytesRow : OpenClaim := { program := "ytjklonfheenfbaa", sum := "321ce977e7c224847f017fdcce8acd23a78483e15c7aff1f327a4b420b4e8f05", func := "almanac/almanaclaw12.SpansBytes", spec := "spansBytes", inPlace := ["internal/abi.NoEscape"], unfollowed := true, recurses := true, apart := false }
def SpansBytesSaid : Prop := spansBytesRow.holds Try.pinned (OpenSpec.ofChange spansBytesSpec)

/-- ITS FALSE NEIGHBOUR: 'it returns false'. Refute it at one input. -/
def spansBytesWrong : ChangeSpec := { name := "spansBytes", fn := fun _ => fun
  | [d1, d2, d3] => { results := [.lit (.bool false)], args := [d1, d2, d3] }
  | _ => none }
def SpansBytesWrongFalsely : Prop := spansBytesRow.holds Try.pinned (OpenSpec.ofChange spansBytesWrong)

/-- 'almanaclaw12.SpansBack': WHATEVER THE INPUT: true; the input reads as it did. -/
def spansBackSpec : ChangeSpec := { name := "spansBack", fn := fun _ => fun
  | [d1, d2] => { results := [.lit (.bool true)], args := [d1, d2] }
  | _ => none }
def spansBackRow : OpenClaim := { program := "ytjklonfheenfbaa", sum := "321ce977e7c224847f017fdcce8acd23a78483e15c7aff1f327a4b420b4e8f05", func := "almanac/almanaclaw12.SpansBack", spec := "spansBack", inPlace := ["internal/abi.NoEscape"], unfollowed := true, recurses := true, apart := false }
def SpansBackSaid : Prop := spansBackRow.holds Try.pinned (OpenSpec.ofChange spansBackSpec)

/-- ITS FALSE NEIGHBOUR: 'it returns false'. Refute it at one input. -/
def spansBackWrong : ChangeSpec := { name := "spansBack", fn := fun _ => fun
  | [d1, d2] => { results := [.lit (.bool false)], args := [d1, d2] }
  | _ => none }
def SpansBackWrongFalsely : Prop := spansBackRow.holds Try.pinned (OpenSpec.ofChange spansBackWrong)

/-- 'almanaclaw13.PostPlays': WHATEVER THE INPUT: true; the input reads as it did. -/
def postPlaysSpec : ChangeSpec := { name := "postPlays", fn := fun _ => fun
  | [d1, d2] => { results := [.lit (.bool true)], args := [d1, d2] }
  | _ => none }
def postPlaysRow : OpenClaim := { program := "ytjklonfheenfbaa", sum := "321ce977e7c224847f017fdcce8acd23a78483e15c7aff1f327a4b420b4e8f05", func := "almanac/almanaclaw13.PostPlays", spec := "postPlays", unfollowed := true, recurses := true, apart := false }
def PostPlaysSaid : Prop := postPlaysRow.holds Try.pinned (OpenSpec.ofChange postPlaysSpec)

/-- ITS FALSE NEIGHBOUR: 'it returns false'. Refute it at one input. -/
def postPlaysWrong : ChangeSpec := { name := "postPlays", fn := fun _ => fun
  | [d1, d2] => { results := [.lit (.bool false)], args := [d1, d2] }
  | _ => none }
def PostPlaysWrongFalsely : Prop := postPlaysRow.holds Try.pinned (OpenSpec.ofChange postPlaysWrong)

/-- 'almanaclaw13.PostRests': WHATEVER THE INPUT: true; the input reads as it did. -/
def postRestsSpec : ChangeSpec := { name := "postRests", fn := fun _ => fun
  | [d] => { results := [.lit (.bool true)], args := [d] }
  | _ => none }
def postRestsRow : OpenClaim := { program := "ytjklonfheenfbaa", sum := "321ce977e7c224847f017fdcce8acd23a78483e15c7aff1f327a4b420b4e8f05", func := "almanac/almanaclaw13.PostRests", spec := "postRests", unfollowed := true, recurses := true, apart := false }
def PostRestsSaid : Prop := postRestsRow.holds Try.pinned (OpenSpec.ofChange postRestsSpec)

/-- ITS FALSE NEIGHBOUR: 'it returns false'. Refute it at one input. -/
def postRestsWrong : ChangeSpec := { name := "postRests", fn := fun _ => fun
  | [d] => { results := [.lit (.bool false)], args := [d] }
  | _ => none }
def PostRestsWrongFalsely : Prop := postRestsRow.holds Try.pinned (OpenSpec.ofChange postRestsWrong)

/-- 'almanaclaw13.PostLeaps': WHATEVER THE INPUT: true; the input reads as it did. -/
def postLeapsSpec : ChangeSpec := { name := "postLeaps", fn := fun _ => fun
  | [d1, d2] => { results := [.lit (.bool true)], args := [d1, d2] }
  | _ => none }
def postLeapsRow : OpenClaim := { program := "ytjklonfheenfbaa", sum := "321ce977e7c224847f017fdcce8acd23a78483e15c7aff1f327a4b420b4e8f05", func := "almanac/almanaclaw13.PostLeaps", spec := "postLeaps", unfollowed := true, recurses := true, apart := false }
def PostLeapsSaid : Prop := postLeapsRow.holds Try.pinned (OpenSpec.ofChange postLeapsSpec)

/-- ITS FALSE NEIGHBOUR: 'it returns false'. Refute it at one input. -/
def postLeapsWrong : ChangeSpec := { name := "postLeaps", fn := fun _ => fun
  | [d1, d2] => { results := [.lit (.bool false)], args := [d1, d2] }
  | _ => none }
def PostLeapsWrongFalsely : Prop := postLeapsRow.holds Try.pinned (OpenSpec.ofChange postLeapsWrong)

/-- 'almanaclaw13.PostSets': WHATEVER THE INPUT: true; the input reads as it did. -/
def postSetsSpec : ChangeSpec := { name := "postSets", fn := fun _ => fun
  | [d1, d2] => { results := [.lit (.bool true)], args := [d1, d2] }
  | _ => none }
def postSetsRow : OpenClaim := { program := "ytjklonfheenfbaa", sum := "321ce977e7c224847f017fdcce8acd23a78483e15c7aff1f327a4b420b4e8f05", func := "almanac/almanaclaw13.PostSets", spec := "postSets", unfollowed := true, recurses := true, apart := false }
def PostSetsSaid : Prop := postSetsRow.holds Try.pinned (OpenSpec.ofChange postSetsSpec)

/-- ITS FALSE NEIGHBOUR: 'it returns false'. Refute it at one input. -/
def postSetsWrong : ChangeSpec := { name := "postSets", fn := fun _ => fun
  | [d1, d2] => { results := [.lit (.bool false)], args := [d1, d2] }
  | _ => none }
def PostSetsWrongFalsely : Prop := postSetsRow.holds Try.pinned (OpenSpec.ofChange postSetsWrong)

/-- 'almanaclaw13.PostNone': WHATEVER THE INPUT: true; the input reads as it did. -/
def postNoneSpec : ChangeSpec := { name := "postNone", fn := fun _ => fun
  | [d1, d2] => { results := [.lit (.bool true)], args := [d1, d2] }
  | _ => none }
def postNoneRow : OpenClaim := { program := "ytjklonfheenfbaa", sum := "321ce977e7c224847f017fdcce8acd23a78483e15c7aff1f327a4b420b4e8f05", func := "almanac/almanaclaw13.PostNone", spec := "postNone", unfollowed := true, recurses := true, apart := false }
def PostNoneSaid : Prop := postNoneRow.holds Try.pinned (OpenSpec.ofChange postNoneSpec)

/-- ITS FALSE NEIGHBOUR: 'it returns false'. Refute it at one input. -/
def postNoneWrong : ChangeSpec := { name := "postNone", fn := fun _ => fun
  | [d1, d2] => { results := [.lit (.bool false)], args := [d1, d2] }
  | _ => none }
def PostNoneWrongFalsely : Prop := postNoneRow.holds Try.pinned (OpenSpec.ofChange postNoneWrong)

/- THE SECOND FORM. 'bulk': how many values and letters a reading holds, each counted each time it is reached (what is shared counts as often as it is met; a slice's spare places count too). A statement '..UptoSaid' is the law's where the arguments, and the package variables that the reading takes, are together of bulk at most 1048576: NARROWER than '..Said'. Prove '..Said' where nothing that the law and all that it calls make is longer than what came in: it says more and counts as full. Else prove '..UptoSaid'. A law counts once. -/
mutual
def uptoBulk {H : Type} : DataW H → Nat
  | .lit (.string bytes) => bytes.length + 1
  | .lit _ => 1
  | .nil => 1
  | .ptr d => uptoBulk d + 1
  | .slice elems spare => uptoBulkAll elems + uptoBulkAll spare + 1
  | .agg parts => uptoBulkAll parts + 1
  | .iface _ d => uptoBulk d + 1
  | .map entries => uptoBulkEntries entries + 1
  | .held _ => 1
def uptoBulkAll {H : Type} : List (DataW H) → Nat
  | [] => 0
  | d :: r => uptoBulk d + uptoBulkAll r
def uptoBulkEntries {H : Type} : List (Lit × DataW H) → Nat
  | [] => 0
  | x :: r => uptoBulkEntry x + uptoBulkEntries r
def uptoBulkEntry {H : Type} : Lit × DataW H → Nat
  | (.string bytes, d) => bytes.length + uptoBulk d + 1
  | (_, d) => uptoBulk d + 1
 end
def uptoSmall : (H : Type) → List (DataW H) → Bool := fun _ ds => decide (uptoBulkAll ds ≤ 1048576)
def OpenSpec.upto (s : _root_.Go.ChangeSpec) : _root_.Go.OpenSpec := { _root_.Go.OpenSpec.ofChange s with cond := some uptoSmall }

/-- 'almanaclaw26.QueryBest', WHERE WHAT IT READS IS OF BULK AT MOST 1048576: true; the input reads as it did. -/
def queryBestUptoRow : OpenClaim := { program := "ytjklonfheenfbaa", sum := "321ce977e7c224847f017fdcce8acd23a78483e15c7aff1f327a4b420b4e8f05", func := "almanac/almanaclaw26.QueryBest", spec := "queryBest", inPlace := ["internal/bytealg.abigen_runtime_cmpstring"], unfollowed := true, recurses := true, apart := false, narrowed := true }
def QueryBestUptoSaid : Prop := queryBestUptoRow.holds Try.pinned (OpenSpec.upto queryBestSpec)

/-- 'almanaclaw12.SpansOf', WHERE WHAT IT READS IS OF BULK AT MOST 1048576: true; the input reads as it did. -/
def spansOfUptoRow : OpenClaim := { program := "ytjklonfheenfbaa", sum := "321ce977e7c224847f017fdcce8acd23a78483e15c7aff1f327a4b420b4e8f05", func := "almanac/almanaclaw12.SpansOf", spec := "spansOf", inPlace := ["internal/abi.NoEscape"], unfollowed := true, recurses := true, apart := false, narrowed := true }
def SpansOfUptoSaid : Prop := spansOfUptoRow.holds Try.pinned (OpenSpec.upto spansOfSpec)

/-- 'almanaclaw12.SpansKeep', WHERE WHAT IT READS IS OF BULK AT MOST 1048576: true; the input reads as it did. -/
def spansKeepUptoRow : OpenClaim := { program := "ytjklonfheenfbaa", sum := "321ce977e7c224847f017fdcce8acd23a78483e15c7aff1f327a4b420b4e8f05", func := "almanac/almanaclaw12.SpansKeep", spec := "spansKeep", inPlace := ["internal/abi.NoEscape"], unfollowed := true, recurses := true, apart := false, narrowed := true }
def SpansKeepUptoSaid : Prop := spansKeepUptoRow.holds Try.pinned (OpenSpec.upto spansKeepSpec)

/-- 'almanaclaw12.SpansSet', WHERE WHAT IT READS IS OF BULK AT MOST 1048576: true; the input reads as it did. -/
def spansSetUptoRow : OpenClaim := { program := "ytjklonfheenfbaa", sum := "321ce977e7c224847f017fdcce8acd23a78483e15c7aff1f327a4b420b4e8f05", func := "almanac/almanaclaw12.SpansSet", spec := "spansSet", inPlace := ["internal/abi.NoEscape"], unfollowed := true, recurses := true, apart := false, narrowed := true }
def SpansSetUptoSaid : Prop := spansSetUptoRow.holds Try.pinned (OpenSpec.upto spansSetSpec)

/-- 'almanaclaw12.SpansClip', WHERE WHAT IT READS IS OF BULK AT MOST 1048576: true; the input reads as it did. -/
def spansClipUptoRow : OpenClaim := { program := "ytjklonfheenfbaa", sum := "321ce977e7c224847f017fdcce8acd23a78483e15c7aff1f327a4b420b4e8f05", func := "almanac/almanaclaw12.SpansClip", spec := "spansClip", inPlace := ["internal/abi.NoEscape"], unfollowed := true, recurses := true, apart := false, narrowed := true }
def SpansClipUptoSaid : Prop := spansClipUptoRow.holds Try.pinned (OpenSpec.upto spansClipSpec)

/-- 'almanaclaw12.SpansBytes', WHERE WHAT IT READS IS OF BULK AT MOST 1048576: true; the input reads as it did. -/
def spansBytesUptoRow : OpenClaim := { program := "ytjklonfheenfbaa", sum := "321ce977e7c224847f017fdcce8acd23a78483e15c7aff1f327a4b420b4e8f05", func := "almanac/almanaclaw12.SpansBytes", spec := "spansBytes", inPlace := ["internal/abi.NoEscape"], unfollowed := true, recurses := true, apart := false, narrowed := true }
def SpansBytesUptoSaid : Prop := spansBytesUptoRow.holds Try.pinned (OpenSpec.upto spansBytesSpec)

/-- 'almanaclaw12.SpansBack', WHERE WHAT IT READS IS OF BULK AT MOST 1048576: true; the input reads as it did. -/
def spansBackUptoRow : OpenClaim := { program := "ytjklonfheenfbaa", sum := "321ce977e7c224847f017fdcce8acd23a78483e15c7aff1f327a4b420b4e8f05", func := "almanac/almanaclaw12.SpansBack", spec := "spansBack", inPlace := ["internal/abi.NoEscape"], unfollowed := true, recurses := true, apart := false, narrowed := true }
def SpansBackUptoSaid : Prop := spansBackUptoRow.holds Try.pinned (OpenSpec.upto spansBackSpec)

/-- 'almanaclaw13.PostPlays', WHERE WHAT IT READS IS OF BULK AT MOST 1048576: true; the input reads as it did. -/
def postPlaysUptoRow : OpenClaim := { program := "ytjklonfheenfbaa", sum := "321ce977e7c224847f017fdcce8acd23a78483e15c7aff1f327a4b420b4e8f05", func := "almanac/almanaclaw13.PostPlays", spec := "postPlays", unfollowed := true, recurses := true, apart := false, narrowed := true }
def PostPlaysUptoSaid : Prop := postPlaysUptoRow.holds Try.pinned (OpenSpec.upto postPlaysSpec)

/-- 'almanaclaw13.PostRests', WHERE WHAT IT READS IS OF BULK AT MOST 1048576: true; the input reads as it did. -/
def postRestsUptoRow : OpenClaim := { program := "ytjklonfheenfbaa", sum := "321ce977e7c224847f017fdcce8acd23a78483e15c7aff1f327a4b420b4e8f05", func := "almanac/almanaclaw13.PostRests", spec := "postRests", unfollowed := true, recurses := true, apart := false, narrowed := true }
def PostRestsUptoSaid : Prop := postRestsUptoRow.holds Try.pinned (OpenSpec.upto postRestsSpec)

/-- 'almanaclaw13.PostLeaps', WHERE WHAT IT READS IS OF BULK AT MOST 1048576: true; the input reads as it did. -/
def postLeapsUptoRow : OpenClaim := { program := "ytjklonfheenfbaa", sum := "321ce977e7c224847f017fdcce8acd23a78483e15c7aff1f327a4b420b4e8f05", func := "almanac/almanaclaw13.PostLeaps", spec := "postLeaps", unfollowed := true, recurses := true, apart := false, narrowed := true }
def PostLeapsUptoSaid : Prop := postLeapsUptoRow.holds Try.pinned (OpenSpec.upto postLeapsSpec)

/-- 'almanaclaw13.PostSets', WHERE WHAT IT READS IS OF BULK AT MOST 1048576: true; the input reads as it did. -/
def postSetsUptoRow : OpenClaim := { program := "ytjklonfheenfbaa", sum := "321ce977e7c224847f017fdcce8acd23a78483e15c7aff1f327a4b420b4e8f05", func := "almanac/almanaclaw13.PostSets", spec := "postSets", unfollowed := true, recurses := true, apart := false, narrowed := true }
def PostSetsUptoSaid : Prop := postSetsUptoRow.holds Try.pinned (OpenSpec.upto postSetsSpec)

/-- 'almanaclaw13.PostNone', WHERE WHAT IT READS IS OF BULK AT MOST 1048576: true; the input reads as it did. -/
def postNoneUptoRow : OpenClaim := { program := "ytjklonfheenfbaa", sum := "321ce977e7c224847f017fdcce8acd23a78483e15c7aff1f327a4b420b4e8f05", func := "almanac/almanaclaw13.PostNone", spec := "postNone", unfollowed := true, recurses := true, apart := false, narrowed := true }
def PostNoneUptoSaid : Prop := postNoneUptoRow.holds Try.pinned (OpenSpec.upto postNoneSpec)

end Rows
end Go.Proofs.Ytjklonfheenfbaa
