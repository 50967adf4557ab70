/-
  No cell of these rows narrows 'for every input' (looked for: loops, veiled, ifaces, maps, wideKeys, modest, calm, conditions, laid).
  DERIVED. THE GIVEN ROWS OF THIS SEAT. 7 by the template 'for every input the law returns true; each argument reads behind the call as it read before'; 0 by the template 'total and deterministic' (their statements: YtbijjjhfekkfaaaGreatTotals.lean).
  GIVEN WITH THE SEED: the statements are not yours to turn. If you find one false, say at which input.
  Laid BY PROGRAM, IN A SANDBOX (cutbox-rows.mjs): the forced cells as the released guide's own fill.sh prints them over the translation e1a7a66bb0f95352… (all of the seat's roots in one cut). By AI agents, Wed Nov 11 2026. No macro, syntax, notation, axiom, sorry.
-/
import Derived.Test.YtbijjjhfekkfaaaGreatChecked
import GoSem.Claim
import GoSem.ClaimJoined
import GoSem.ClaimMapViews
import Derived.JoinedTies
import Derived.KernelRfl
namespace Go.Proofs.YtbijjjhfekkfaaaGreat
/- THE CELL 'sum', in the pinned program and in every row, IS THE sha256 OF THE DUMP (.gsa) THAT YtbijjjhfekkfaaaGreatProg.lean LOADS. Nothing in Lean hashes anything: it is a label: what it is worth is what the hold of that sum in a sandbox is worth. -/
noncomputable def Tryz.pinned : Pinned := { name := "ytbijjjhfekkfaaagreat", sum := "e1a7a66bb0f9535215810b038be499eb4ca7b340a31d2aa364b048b6c858985f", checked := Tryz.checked }
namespace Rows
def none {H : Type} : Left H := { results := [], args := [] }

/-- 'almanaclaw08.MatchReads': WHATEVER THE INPUT: true; the input reads as it did. -/
def matchReadsSpec : ChangeSpec := { name := "matchReads", fn := fun _ => fun
  | [d] => { results := [.lit (.bool true)], args := [d] }
  | _ => none }
def matchReadsRow : OpenClaim := { program := "ytbijjjhfekkfaaagreat", sum := "e1a7a66bb0f9535215810b038be499eb4ca7b340a31d2aa364b048b6c858985f", func := "almanac/almanaclaw08.MatchReads", spec := "matchReads", inPlace := ["internal/bytealg.IndexByteString", "internal/bytealg.IndexString", "internal/abi.NoEscape", "internal/bytealg.abigen_runtime_cmpstring", "internal/bytealg.MakeNoZero"], unfollowed := true, recurses := true, named := ["internal/bytealg.MaxLen"], plainKeys := false, apart := false }
def MatchReadsSaid : Prop := matchReadsRow.holds Tryz.pinned (OpenSpec.ofChange matchReadsSpec)

/-- ITS FALSE NEIGHBOUR: 'it returns false'. Refute it at one input. -/
def matchReadsWrong : ChangeSpec := { name := "matchReads", fn := fun _ => fun
  | [d] => { results := [.lit (.bool false)], args := [d] }
  | _ => none }
def MatchReadsWrongFalsely : Prop := matchReadsRow.holds Tryz.pinned (OpenSpec.ofChange matchReadsWrong)

/-- 'almanaclaw26.QueryHalves': WHATEVER THE INPUT: true; the input reads as it did. -/
def queryHalvesSpec : ChangeSpec := { name := "queryHalves", fn := fun _ => fun
  | [d1, d2] => { results := [.lit (.bool true)], args := [d1, d2] }
  | _ => none }
def queryHalvesRow : OpenClaim := { program := "ytbijjjhfekkfaaagreat", sum := "e1a7a66bb0f9535215810b038be499eb4ca7b340a31d2aa364b048b6c858985f", func := "almanac/almanaclaw26.QueryHalves", spec := "queryHalves", inPlace := ["internal/bytealg.abigen_runtime_cmpstring"], unfollowed := true, recurses := true, plainKeys := false, apart := false }
def QueryHalvesSaid : Prop := queryHalvesRow.holds Tryz.pinned (OpenSpec.ofChange queryHalvesSpec)

/-- ITS FALSE NEIGHBOUR: 'it returns false'. Refute it at one input. -/
def queryHalvesWrong : ChangeSpec := { name := "queryHalves", fn := fun _ => fun
  | [d1, d2] => { results := [.lit (.bool false)], args := [d1, d2] }
  | _ => none }
def QueryHalvesWrongFalsely : Prop := queryHalvesRow.holds Tryz.pinned (OpenSpec.ofChange queryHalvesWrong)

/-- 'almanaclaw26.QueryMatchers': WHATEVER THE INPUT: true; the input reads as it did. -/
def queryMatchersSpec : ChangeSpec := { name := "queryMatchers", fn := fun _ => fun
  | [d] => { results := [.lit (.bool true)], args := [d] }
  | _ => none }
def queryMatchersRow : OpenClaim := { program := "ytbijjjhfekkfaaagreat", sum := "e1a7a66bb0f9535215810b038be499eb4ca7b340a31d2aa364b048b6c858985f", func := "almanac/almanaclaw26.QueryMatchers", spec := "queryMatchers", inPlace := ["internal/bytealg.abigen_runtime_cmpstring"], unfollowed := true, recurses := true, plainKeys := false, apart := false }
def QueryMatchersSaid : Prop := queryMatchersRow.holds Tryz.pinned (OpenSpec.ofChange queryMatchersSpec)

/-- ITS FALSE NEIGHBOUR: 'it returns false'. Refute it at one input. -/
def queryMatchersWrong : ChangeSpec := { name := "queryMatchers", fn := fun _ => fun
  | [d] => { results := [.lit (.bool false)], args := [d] }
  | _ => none }
def QueryMatchersWrongFalsely : Prop := queryMatchersRow.holds Tryz.pinned (OpenSpec.ofChange queryMatchersWrong)

/-- 'almanaclaw14.IndexFits': WHATEVER THE INPUT: true; the input reads as it did. -/
def indexFitsSpec : ChangeSpec := { name := "indexFits", fn := fun _ => fun
  | [d1, d2] => { results := [.lit (.bool true)], args := [d1, d2] }
  | _ => none }
def indexFitsRow : OpenClaim := { program := "ytbijjjhfekkfaaagreat", sum := "e1a7a66bb0f9535215810b038be499eb4ca7b340a31d2aa364b048b6c858985f", func := "almanac/almanaclaw14.IndexFits", spec := "indexFits", inPlace := ["internal/bytealg.abigen_runtime_cmpstring", "internal/abi.NoEscape"], unfollowed := true, recurses := true, plainKeys := false, apart := false }
def IndexFitsSaid : Prop := indexFitsRow.holds Tryz.pinned (OpenSpec.ofChange indexFitsSpec)

/-- ITS FALSE NEIGHBOUR: 'it returns false'. Refute it at one input. -/
def indexFitsWrong : ChangeSpec := { name := "indexFits", fn := fun _ => fun
  | [d1, d2] => { results := [.lit (.bool false)], args := [d1, d2] }
  | _ => none }
def IndexFitsWrongFalsely : Prop := indexFitsRow.holds Tryz.pinned (OpenSpec.ofChange indexFitsWrong)

/-- 'almanaclaw18.HeadPlans': WHATEVER THE INPUT: true; the input reads as it did. -/
def headPlansSpec : ChangeSpec := { name := "headPlans", fn := fun _ => fun
  | [d1, d2] => { results := [.lit (.bool true)], args := [d1, d2] }
  | _ => none }
def headPlansRow : OpenClaim := { program := "ytbijjjhfekkfaaagreat", sum := "e1a7a66bb0f9535215810b038be499eb4ca7b340a31d2aa364b048b6c858985f", func := "almanac/almanaclaw18.HeadPlans", spec := "headPlans", inPlace := ["internal/bytealg.abigen_runtime_cmpstring", "internal/abi.NoEscape"], unfollowed := true, recurses := true, plainKeys := false, apart := false }
def HeadPlansSaid : Prop := headPlansRow.holds Tryz.pinned (OpenSpec.ofChange headPlansSpec)

/-- ITS FALSE NEIGHBOUR: 'it returns false'. Refute it at one input. -/
def headPlansWrong : ChangeSpec := { name := "headPlans", fn := fun _ => fun
  | [d1, d2] => { results := [.lit (.bool false)], args := [d1, d2] }
  | _ => none }
def HeadPlansWrongFalsely : Prop := headPlansRow.holds Tryz.pinned (OpenSpec.ofChange headPlansWrong)

/-- 'almanaclaw18.HeadNone': WHATEVER THE INPUT: true; the input reads as it did. -/
def headNoneSpec : ChangeSpec := { name := "headNone", fn := fun _ => fun
  | [d] => { results := [.lit (.bool true)], args := [d] }
  | _ => none }
def headNoneRow : OpenClaim := { program := "ytbijjjhfekkfaaagreat", sum := "e1a7a66bb0f9535215810b038be499eb4ca7b340a31d2aa364b048b6c858985f", func := "almanac/almanaclaw18.HeadNone", spec := "headNone", inPlace := ["internal/bytealg.abigen_runtime_cmpstring", "internal/abi.NoEscape"], unfollowed := true, recurses := true, plainKeys := false, apart := false }
def HeadNoneSaid : Prop := headNoneRow.holds Tryz.pinned (OpenSpec.ofChange headNoneSpec)

/-- ITS FALSE NEIGHBOUR: 'it returns false'. Refute it at one input. -/
def headNoneWrong : ChangeSpec := { name := "headNone", fn := fun _ => fun
  | [d] => { results := [.lit (.bool false)], args := [d] }
  | _ => none }
def HeadNoneWrongFalsely : Prop := headNoneRow.holds Tryz.pinned (OpenSpec.ofChange headNoneWrong)

/-- 'almanaclaw18.HeadErases': WHATEVER THE INPUT: true; the input reads as it did. -/
def headErasesSpec : ChangeSpec := { name := "headErases", fn := fun _ => fun
  | [d1, d2, d3] => { results := [.lit (.bool true)], args := [d1, d2, d3] }
  | _ => none }
def headErasesRow : OpenClaim := { program := "ytbijjjhfekkfaaagreat", sum := "e1a7a66bb0f9535215810b038be499eb4ca7b340a31d2aa364b048b6c858985f", func := "almanac/almanaclaw18.HeadErases", spec := "headErases", inPlace := ["internal/bytealg.abigen_runtime_cmpstring", "internal/abi.NoEscape"], unfollowed := true, recurses := true, plainKeys := false, apart := false }
def HeadErasesSaid : Prop := headErasesRow.holds Tryz.pinned (OpenSpec.ofChange headErasesSpec)

/-- ITS FALSE NEIGHBOUR: 'it returns false'. Refute it at one input. -/
def headErasesWrong : ChangeSpec := { name := "headErases", fn := fun _ => fun
  | [d1, d2, d3] => { results := [.lit (.bool false)], args := [d1, d2, d3] }
  | _ => none }
def HeadErasesWrongFalsely : Prop := headErasesRow.holds Tryz.pinned (OpenSpec.ofChange headErasesWrong)

/- THE SECOND FORM. 'bulk': how many values and letters a reading holds, each counted each time it is reached (what is shared counts as often as it is met; a slice's spare places count too). A statement '..UptoSaid' is the law's where the arguments, and the package variables that the reading takes, are together of bulk at most 1048576: NARROWER than '..Said'. Prove '..Said' where nothing that the law and all that it calls make is longer than what came in: it says more and counts as full. Else prove '..UptoSaid'. A law counts once. -/
mutual
def uptoBulk {H : Type} : DataW H → Nat
  | .lit (.string bytes) => bytes.length + 1
  | .lit _ => 1
  | .nil => 1
  | .ptr d => uptoBulk d + 1
  | .slice elems spare => uptoBulkAll elems + uptoBulkAll spare + 1
  | .agg parts => uptoBulkAll parts + 1
  | .iface _ d => uptoBulk d + 1
  | .map entries => uptoBulkEntries entries + 1
  | .held _ => 1
def uptoBulkAll {H : Type} : List (DataW H) → Nat
  | [] => 0
  | d :: r => uptoBulk d + uptoBulkAll r
def uptoBulkEntries {H : Type} : List (Lit × DataW H) → Nat
  | [] => 0
  | x :: r => uptoBulkEntry x + uptoBulkEntries r
def uptoBulkEntry {H : Type} : Lit × DataW H → Nat
  | (.string bytes, d) => bytes.length + uptoBulk d + 1
  | (_, d) => uptoBulk d + 1
 end
def uptoSmall : (H : Type) → List (DataW H) → Bool := fun _ ds => decide (uptoBulkAll ds ≤ 1048576)
def OpenSpec.upto (s : _root_.Go.ChangeSpec) : _root_.Go.OpenSpec := { _root_.Go.OpenSpec.ofChange s with cond := some uptoSmall }

/-- 'almanaclaw08.MatchReads', WHERE WHAT IT READS IS OF BULK AT MOST 1048576: true; the input reads as it did. -/
def matchReadsUptoRow : OpenClaim := { program := "ytbijjjhfekkfaaagreat", sum := "e1a7a66bb0f9535215810b038be499eb4ca7b340a31d2aa364b048b6c858985f", func := "almanac/almanaclaw08.MatchReads", spec := "matchReads", inPlace := ["internal/bytealg.IndexByteString", "internal/bytealg.IndexString", "internal/abi.NoEscape", "internal/bytealg.abigen_runtime_cmpstring", "internal/bytealg.MakeNoZero"], unfollowed := true, recurses := true, named := ["internal/bytealg.MaxLen"], plainKeys := false, apart := false, narrowed := true }
def MatchReadsUptoSaid : Prop := matchReadsUptoRow.holds Tryz.pinned (OpenSpec.upto matchReadsSpec)

/-- 'almanaclaw26.QueryHalves', WHERE WHAT IT READS IS OF BULK AT MOST 1048576: true; the input reads as it did. -/
def queryHalvesUptoRow : OpenClaim := { program := "ytbijjjhfekkfaaagreat", sum := "e1a7a66bb0f9535215810b038be499eb4ca7b340a31d2aa364b048b6c858985f", func := "almanac/almanaclaw26.QueryHalves", spec := "queryHalves", inPlace := ["internal/bytealg.abigen_runtime_cmpstring"], unfollowed := true, recurses := true, plainKeys := false, apart := false, narrowed := true }
def QueryHalvesUptoSaid : Prop := queryHalvesUptoRow.holds Tryz.pinned (OpenSpec.upto queryHalvesSpec)

/-- 'almanaclaw26.QueryMatchers', WHERE WHAT IT READS IS OF BULK AT MOST 1048576: true; the input reads as it did. -/
def queryMatchersUptoRow : OpenClaim := { program := "ytbijjjhfekkfaaagreat", sum := "e1a7a66bb0f9535215810b038be499eb4ca7b340a31d2aa364b048b6c858985f", func := "almanac/almanaclaw26.QueryMatchers", spec := "queryMatchers", inPlace := ["internal/bytealg.abigen_runtime_cmpstring"], unfollowed := true, recurses := true, plainKeys := false, apart := false, narrowed := true }
def QueryMatchersUptoSaid : Prop := queryMatchersUptoRow.holds Tryz.pinned (OpenSpec.upto queryMatchersSpec)

/-- 'almanaclaw14.IndexFits', WHERE WHAT IT READS IS OF BULK AT MOST 1048576: true; the input reads as it did. -/
def indexFitsUptoRow : OpenClaim := { program := "ytbijjjhfekkfaaagreat", sum := "e1a7a66bb0f9535215810b038be499eb4ca7b340a31d2aa364b048b6c858985f", func := "almanac/almanaclaw14.IndexFits", spec := "indexFits", inPlace := ["internal/bytealg.abigen_runtime_cmpstring", "internal/abi.NoEscape"], unfollowed := true, recurses := true, plainKeys := false, apart := false, narrowed := true }
def IndexFitsUptoSaid : Prop := indexFitsUptoRow.holds Tryz.pinned (OpenSpec.upto indexFitsSpec)

/-- 'almanaclaw18.HeadPlans', WHERE WHAT IT READS IS OF BULK AT MOST 1048576: true; the input reads as it did. -/
def headPlansUptoRow : OpenClaim := { program := "ytbijjjhfekkfaaagreat", sum := "e1a7a66bb0f9535215810b038be499eb4ca7b340a31d2aa364b048b6c858985f", func := "almanac/almanaclaw18.HeadPlans", spec := "headPlans", inPlace := ["internal/bytealg.abigen_runtime_cmpstring", "internal/abi.NoEscape"], unfollowed := true, recurses := true, plainKeys := false, apart := false, narrowed := true }
def HeadPlansUptoSaid : Prop := headPlansUptoRow.holds Tryz.pinned (OpenSpec.upto headPlansSpec)

/-- 'almanaclaw18.HeadNone', WHERE WHAT IT READS IS OF BULK AT MOST 1048576: true; the input reads as it did. -/
def headNoneUptoRow : OpenClaim := { program := "ytbijjjhfekkfaaagreat", sum := "e1a7a66bb0f9535215810b038be499eb4ca7b340a31d2aa364b048b6c858985f", func := "almanac/almanaclaw18.HeadNone", spec := "headNone", inPlace := ["internal/bytealg.abigen_runtime_cmpstring", "internal/abi.NoEscape"], unfollowed := true, recurses := true, plainKeys := false, apart := false, narrowed := true }
def HeadNoneUptoSaid : Prop := headNoneUptoRow.holds Tryz.pinned (OpenSpec.upto headNoneSpec)

/-- 'almanaclaw18.HeadErases', WHERE WHAT IT READS IS OF BULK AT MOST 1048576: true; the input reads as it did. -/
def headErasesUptoRow : OpenClaim := { program := "ytbijjjhfekkfaaagreat", sum := "e1a7a66bb0f9535215810b038be499eb4ca7b340a31d2aa364b048b6c858985f", func := "almanac/almanaclaw18.HeadErases", spec := "headErases", inPlace := ["internal/bytealg.abigen_runtime_cmpstring", "internal/abi.NoEscape"], unfollowed := true, recurses := true, plainKeys := false, apart := false, narrowed := true }
def HeadErasesUptoSaid : Prop := headErasesUptoRow.holds Tryz.pinned (OpenSpec.upto headErasesSpec)

end Rows
end Go.Proofs.YtbijjjhfekkfaaaGreat
