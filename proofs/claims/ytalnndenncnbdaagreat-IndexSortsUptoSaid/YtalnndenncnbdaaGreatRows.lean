/-
  No cell of these rows narrows 'for every input' (looked for: loops, veiled, ifaces, maps, wideKeys, modest, calm, conditions, laid).
  DERIVED. THE GIVEN ROWS OF THIS SEAT. 5 by the template 'for every input the law returns true; each argument reads behind the call as it read before'; 0 by the template 'total and deterministic' (their statements: YtalnndenncnbdaaGreatTotals.lean).
  GIVEN WITH THE SEED: the statements are not yours to turn. If you find one false, say at which input.
  Laid BY PROGRAM, IN A SANDBOX (cutbox-rows.mjs): the forced cells as the released guide's own fill.sh prints them over the translation af58d397fe1bcd62… (all of the seat's roots in one cut). By AI agents, Wed Nov 11 2026. No macro, syntax, notation, axiom, sorry.
-/
import Derived.Test.YtalnndenncnbdaaGreatChecked
import GoSem.Claim
import GoSem.ClaimJoined
import GoSem.ClaimMapViews
import Derived.JoinedTies
import Derived.KernelRfl
namespace Go.Proofs.YtalnndenncnbdaaGreat
/- THE CELL 'sum', in the pinned program and in every row, IS THE sha256 OF THE DUMP (.gsa) THAT YtalnndenncnbdaaGreatProg.lean LOADS. Nothing in Lean hashes anything: it is a label: what it is worth is what the hold of that sum in a sandbox is worth. -/
noncomputable def Tryz.pinned : Pinned := { name := "ytalnndenncnbdaagreat", sum := "af58d397fe1bcd6274cb1db7e20d66f3d202965a2d8233b72ec1b0d68ac083f6", checked := Tryz.checked }
namespace Rows
def none {H : Type} : Left H := { results := [], args := [] }

/-- 'almanaclaw14.IndexAdds': WHATEVER THE INPUT: true; the input reads as it did. -/
def indexAddsSpec : ChangeSpec := { name := "indexAdds", fn := fun _ => fun
  | [d1, d2, d3] => { results := [.lit (.bool true)], args := [d1, d2, d3] }
  | _ => none }
def indexAddsRow : OpenClaim := { program := "ytalnndenncnbdaagreat", sum := "af58d397fe1bcd6274cb1db7e20d66f3d202965a2d8233b72ec1b0d68ac083f6", func := "almanac/almanaclaw14.IndexAdds", spec := "indexAdds", inPlace := ["internal/bytealg.abigen_runtime_cmpstring", "internal/abi.NoEscape"], unfollowed := true, recurses := true, plainKeys := false, apart := false }
def IndexAddsSaid : Prop := indexAddsRow.holds Tryz.pinned (OpenSpec.ofChange indexAddsSpec)

/-- ITS FALSE NEIGHBOUR: 'it returns false'. Refute it at one input. -/
def indexAddsWrong : ChangeSpec := { name := "indexAdds", fn := fun _ => fun
  | [d1, d2, d3] => { results := [.lit (.bool false)], args := [d1, d2, d3] }
  | _ => none }
def IndexAddsWrongFalsely : Prop := indexAddsRow.holds Tryz.pinned (OpenSpec.ofChange indexAddsWrong)

/-- 'almanaclaw14.IndexLists': WHATEVER THE INPUT: true; the input reads as it did. -/
def indexListsSpec : ChangeSpec := { name := "indexLists", fn := fun _ => fun
  | [d1, d2] => { results := [.lit (.bool true)], args := [d1, d2] }
  | _ => none }
def indexListsRow : OpenClaim := { program := "ytalnndenncnbdaagreat", sum := "af58d397fe1bcd6274cb1db7e20d66f3d202965a2d8233b72ec1b0d68ac083f6", func := "almanac/almanaclaw14.IndexLists", spec := "indexLists", inPlace := ["internal/bytealg.abigen_runtime_cmpstring", "internal/abi.NoEscape"], unfollowed := true, recurses := true, plainKeys := false, apart := false }
def IndexListsSaid : Prop := indexListsRow.holds Tryz.pinned (OpenSpec.ofChange indexListsSpec)

/-- ITS FALSE NEIGHBOUR: 'it returns false'. Refute it at one input. -/
def indexListsWrong : ChangeSpec := { name := "indexLists", fn := fun _ => fun
  | [d1, d2] => { results := [.lit (.bool false)], args := [d1, d2] }
  | _ => none }
def IndexListsWrongFalsely : Prop := indexListsRow.holds Tryz.pinned (OpenSpec.ofChange indexListsWrong)

/-- 'almanaclaw14.IndexFits': WHATEVER THE INPUT: true; the input reads as it did. -/
def indexFitsSpec : ChangeSpec := { name := "indexFits", fn := fun _ => fun
  | [d1, d2] => { results := [.lit (.bool true)], args := [d1, d2] }
  | _ => none }
def indexFitsRow : OpenClaim := { program := "ytalnndenncnbdaagreat", sum := "af58d397fe1bcd6274cb1db7e20d66f3d202965a2d8233b72ec1b0d68ac083f6", func := "almanac/almanaclaw14.IndexFits", spec := "indexFits", inPlace := ["internal/bytealg.abigen_runtime_cmpstring", "internal/abi.NoEscape"], unfollowed := true, recurses := true, plainKeys := false, apart := false }
def IndexFitsSaid : Prop := indexFitsRow.holds Tryz.pinned (OpenSpec.ofChange indexFitsSpec)

/-- ITS FALSE NEIGHBOUR: 'it returns false'. Refute it at one input. -/
def indexFitsWrong : ChangeSpec := { name := "indexFits", fn := fun _ => fun
  | [d1, d2] => { results := [.lit (.bool false)], args := [d1, d2] }
  | _ => none }
def IndexFitsWrongFalsely : Prop := indexFitsRow.holds Tryz.pinned (OpenSpec.ofChange indexFitsWrong)

/-- 'almanaclaw14.IndexSorts': WHATEVER THE INPUT: true; the input reads as it did. -/
def indexSortsSpec : ChangeSpec := { name := "indexSorts", fn := fun _ => fun
  | [d1, d2] => { results := [.lit (.bool true)], args := [d1, d2] }
  | _ => none }
def indexSortsRow : OpenClaim := { program := "ytalnndenncnbdaagreat", sum := "af58d397fe1bcd6274cb1db7e20d66f3d202965a2d8233b72ec1b0d68ac083f6", func := "almanac/almanaclaw14.IndexSorts", spec := "indexSorts", inPlace := ["internal/bytealg.abigen_runtime_cmpstring", "internal/abi.NoEscape"], unfollowed := true, recurses := true, plainKeys := false, apart := false }
def IndexSortsSaid : Prop := indexSortsRow.holds Tryz.pinned (OpenSpec.ofChange indexSortsSpec)

/-- ITS FALSE NEIGHBOUR: 'it returns false'. Refute it at one input. -/
def indexSortsWrong : ChangeSpec := { name := "indexSorts", fn := fun _ => fun
  | [d1, d2] => { results := [.lit (.bool false)], args := [d1, d2] }
  | _ => none }
def IndexSortsWrongFalsely : Prop := indexSortsRow.holds Tryz.pinned (OpenSpec.ofChange indexSortsWrong)

/-- 'almanaclaw08.MatchReads': WHATEVER THE INPUT: true; the input reads as it did. -/
def matchReadsSpec : ChangeSpec := { name := "matchReads", fn := fun _ => fun
  | [d] => { results := [.lit (.bool true)], args := [d] }
  | _ => none }
def matchReadsRow : OpenClaim := { program := "ytalnndenncnbdaagreat", sum := "af58d397fe1bcd6274cb1db7e20d66f3d202965a2d8233b72ec1b0d68ac083f6", func := "almanac/almanaclaw08.MatchReads", spec := "matchReads", inPlace := ["internal/bytealg.IndexByteString", "internal/bytealg.IndexString", "internal/abi.NoEscape", "internal/bytealg.abigen_runtime_cmpstring", "internal/bytealg.MakeNoZero"], unfollowed := true, recurses := true, named := ["internal/bytealg.MaxLen"], plainKeys := false, apart := false }
def MatchReadsSaid : Prop := matchReadsRow.holds Tryz.pinned (OpenSpec.ofChange matchReadsSpec)

/-- ITS FALSE NEIGHBOUR: 'it returns false'. Refute it at one input. -/
def matchReadsWrong : ChangeSpec := { name := "matchReads", fn := fun _ => fun
  | [d] => { results := [.lit (.bool false)], args := [d] }
  | _ => none }
def MatchReadsWrongFalsely : Prop := matchReadsRow.holds Tryz.pinned (OpenSpec.ofChange matchReadsWrong)

/- THE SECOND FORM. 'bulk': how many values and letters a reading holds, each counted each time it is reached (what is shared counts as often as it is met; a slice's spare places count too). A statement '..UptoSaid' is the law's where the arguments, and the package variables that the reading takes, are together of bulk at most 1048576: NARROWER than '..Said'. Prove '..Said' where nothing that the law and all that it calls make is longer than what came in: it says more and counts as full. Else prove '..UptoSaid'. A law counts once. -/
mutual
def uptoBulk {H : Type} : DataW H → Nat
  | .lit (.string bytes) => bytes.length + 1
  | .lit _ => 1
  | .nil => 1
  | .ptr d => uptoBulk d + 1
  | .slice elems spare => uptoBulkAll elems + uptoBulkAll spare + 1
  | .agg parts => uptoBulkAll parts + 1
  | .iface _ d => uptoBulk d + 1
  | .map entries => uptoBulkEntries entries + 1
  | .held _ => 1
def uptoBulkAll {H : Type} : List (DataW H) → Nat
  | [] => 0
  | d :: r => uptoBulk d + uptoBulkAll r
def uptoBulkEntries {H : Type} : List (Lit × DataW H) → Nat
  | [] => 0
  | x :: r => uptoBulkEntry x + uptoBulkEntries r
def uptoBulkEntry {H : Type} : Lit × DataW H → Nat
  | (.string bytes, d) => bytes.length + uptoBulk d + 1
  | (_, d) => uptoBulk d + 1
 end
def uptoSmall : (H : Type) → List (DataW H) → Bool := fun _ ds => decide (uptoBulkAll ds ≤ 1048576)
def OpenSpec.upto (s : _root_.Go.ChangeSpec) : _root_.Go.OpenSpec := { _root_.Go.OpenSpec.ofChange s with cond := some uptoSmall }

/-- 'almanaclaw14.IndexAdds', WHERE WHAT IT READS IS OF BULK AT MOST 1048576: true; the input reads as it did. -/
def indexAddsUptoRow : OpenClaim := { program := "ytalnndenncnbdaagreat", sum := "af58d397fe1bcd6274cb1db7e20d66f3d202965a2d8233b72ec1b0d68ac083f6", func := "almanac/almanaclaw14.IndexAdds", spec := "indexAdds", inPlace := ["internal/bytealg.abigen_runtime_cmpstring", "internal/abi.NoEscape"], unfollowed := true, recurses := true, plainKeys := false, apart := false, narrowed := true }
def IndexAddsUptoSaid : Prop := indexAddsUptoRow.holds Tryz.pinned (OpenSpec.upto indexAddsSpec)

/-- 'almanaclaw14.IndexLists', WHERE WHAT IT READS IS OF BULK AT MOST 1048576: true; the input reads as it did. -/
def indexListsUptoRow : OpenClaim := { program := "ytalnndenncnbdaagreat", sum := "af58d397fe1bcd6274cb1db7e20d66f3d202965a2d8233b72ec1b0d68ac083f6", func := "almanac/almanaclaw14.IndexLists", spec := "indexLists", inPlace := ["internal/bytealg.abigen_runtime_cmpstring", "internal/abi.NoEscape"], unfollowed := true, recurses := true, plainKeys := false, apart := false, narrowed := true }
def IndexListsUptoSaid : Prop := indexListsUptoRow.holds Tryz.pinned (OpenSpec.upto indexListsSpec)

/-- 'almanaclaw14.IndexFits', WHERE WHAT IT READS IS OF BULK AT MOST 1048576: true; the input reads as it did. -/
def indexFitsUptoRow : OpenClaim := { program := "ytalnndenncnbdaagreat", sum := "af58d397fe1bcd6274cb1db7e20d66f3d202965a2d8233b72ec1b0d68ac083f6", func := "almanac/almanaclaw14.IndexFits", spec := "indexFits", inPlace := ["internal/bytealg.abigen_runtime_cmpstring", "internal/abi.NoEscape"], unfollowed := true, recurses := true, plainKeys := false, apart := false, narrowed := true }
def IndexFitsUptoSaid : Prop := indexFitsUptoRow.holds Tryz.pinned (OpenSpec.upto indexFitsSpec)

/-- 'almanaclaw14.IndexSorts', WHERE WHAT IT READS IS OF BULK AT MOST 1048576: true; the input reads as it did. -/
def indexSortsUptoRow : OpenClaim := { program := "ytalnndenncnbdaagreat", sum := "af58d397fe1bcd6274cb1db7e20d66f3d202965a2d8233b72ec1b0d68ac083f6", func := "almanac/almanaclaw14.IndexSorts", spec := "indexSorts", inPlace := ["internal/bytealg.abigen_runtime_cmpstring", "internal/abi.NoEscape"], unfollowed := true, recurses := true, plainKeys := false, apart := false, narrowed := true }
def IndexSortsUptoSaid : Prop := indexSortsUptoRow.holds Tryz.pinned (OpenSpec.upto indexSortsSpec)

/-- 'almanaclaw08.MatchReads', WHERE WHAT IT READS IS OF BULK AT MOST 1048576: true; the input reads as it did. -/
def matchReadsUptoRow : OpenClaim := { program := "ytalnndenncnbdaagreat", sum := "af58d397fe1bcd6274cb1db7e20d66f3d202965a2d8233b72ec1b0d68ac083f6", func := "almanac/almanaclaw08.MatchReads", spec := "matchReads", inPlace := ["internal/bytealg.IndexByteString", "internal/bytealg.IndexString", "internal/abi.NoEscape", "internal/bytealg.abigen_runtime_cmpstring", "internal/bytealg.MakeNoZero"], unfollowed := true, recurses := true, named := ["internal/bytealg.MaxLen"], plainKeys := false, apart := false, narrowed := true }
def MatchReadsUptoSaid : Prop := matchReadsUptoRow.holds Tryz.pinned (OpenSpec.upto matchReadsSpec)

end Rows
end Go.Proofs.YtalnndenncnbdaaGreat
