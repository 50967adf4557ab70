/-
  No cell of these rows narrows 'for every input' (looked for: loops, veiled, ifaces, maps, wideKeys, modest, calm, conditions, laid).
  DERIVED. THE GIVEN ROWS OF THIS SEAT. 11 by the template 'for every input the law returns true; each argument reads behind the call as it read before'; 0 by the template 'total and deterministic' (their statements: YtfidneoakcejgaaTotals.lean).
  GIVEN WITH THE SEED: the statements are not yours to turn. If you find one false, say at which input.
  Laid BY PROGRAM, IN A SANDBOX (cutbox-rows.mjs): the forced cells as the released guide's own fill.sh prints them over the translation e963b533f80c1ff6… (all of the seat's roots in one cut). By AI agents, Wed Nov 11 2026. No macro, syntax, notation, axiom, sorry.
-/
import Derived.Test.YtfidneoakcejgaaChecked
import GoSem.Claim
import GoSem.ClaimJoined
import GoSem.ClaimMapViews
import Derived.JoinedTies
import Derived.KernelRfl
namespace Go.Proofs.Ytfidneoakcejgaa
/- THE CELL 'sum', in the pinned program and in every row, IS THE sha256 OF THE DUMP (.gsa) THAT YtfidneoakcejgaaProg.lean LOADS. Nothing in Lean hashes anything: it is a label: what it is worth is what the hold of that sum in a sandbox is worth. -/
noncomputable def Try.pinned : Pinned := { name := "ytfidneoakcejgaa", sum := "e963b533f80c1ff686cb26f09a4196df5ef37015343f60ddc15eb9f658694fe0", checked := Try.checked }
namespace Rows
def none {H : Type} : Left H := { results := [], args := [] }

/-- 'almanaclaw04.LabelsMakes': WHATEVER THE INPUT: true; the input reads as it did. -/
def labelsMakesSpec : ChangeSpec := { name := "labelsMakes", fn := fun _ => fun
  | [d] => { results := [.lit (.bool true)], args := [d] }
  | _ => none }
def labelsMakesRow : OpenClaim := { program := "ytfidneoakcejgaa", sum := "e963b533f80c1ff686cb26f09a4196df5ef37015343f60ddc15eb9f658694fe0", func := "almanac/almanaclaw04.LabelsMakes", spec := "labelsMakes", inPlace := ["internal/bytealg.abigen_runtime_cmpstring", "internal/abi.NoEscape", "internal/bytealg.MakeNoZero"], unfollowed := true, recurses := true, apart := false }
def LabelsMakesSaid : Prop := labelsMakesRow.holds Try.pinned (OpenSpec.ofChange labelsMakesSpec)

/-- ITS FALSE NEIGHBOUR: 'it returns false'. Refute it at one input. -/
def labelsMakesWrong : ChangeSpec := { name := "labelsMakes", fn := fun _ => fun
  | [d] => { results := [.lit (.bool false)], args := [d] }
  | _ => none }
def LabelsMakesWrongFalsely : Prop := labelsMakesRow.holds Try.pinned (OpenSpec.ofChange labelsMakesWrong)

/-- 'almanaclaw04.LabelsGets': WHATEVER THE INPUT: true; the input reads as it did. -/
def labelsGetsSpec : ChangeSpec := { name := "labelsGets", fn := fun _ => fun
  | [d1, d2] => { results := [.lit (.bool true)], args := [d1, d2] }
  | _ => none }
def labelsGetsRow : OpenClaim := { program := "ytfidneoakcejgaa", sum := "e963b533f80c1ff686cb26f09a4196df5ef37015343f60ddc15eb9f658694fe0", func := "almanac/almanaclaw04.LabelsGets", spec := "labelsGets", inPlace := ["internal/bytealg.abigen_runtime_cmpstring", "internal/abi.NoEscape", "internal/bytealg.MakeNoZero"], unfollowed := true, recurses := true, apart := false }
def LabelsGetsSaid : Prop := labelsGetsRow.holds Try.pinned (OpenSpec.ofChange labelsGetsSpec)

/-- ITS FALSE NEIGHBOUR: 'it returns false'. Refute it at one input. -/
def labelsGetsWrong : ChangeSpec := { name := "labelsGets", fn := fun _ => fun
  | [d1, d2] => { results := [.lit (.bool false)], args := [d1, d2] }
  | _ => none }
def LabelsGetsWrongFalsely : Prop := labelsGetsRow.holds Try.pinned (OpenSpec.ofChange labelsGetsWrong)

/-- 'almanaclaw04.LabelsKeeps': WHATEVER THE INPUT: true; the input reads as it did. -/
def labelsKeepsSpec : ChangeSpec := { name := "labelsKeeps", fn := fun _ => fun
  | [d] => { results := [.lit (.bool true)], args := [d] }
  | _ => none }
def labelsKeepsRow : OpenClaim := { program := "ytfidneoakcejgaa", sum := "e963b533f80c1ff686cb26f09a4196df5ef37015343f60ddc15eb9f658694fe0", func := "almanac/almanaclaw04.LabelsKeeps", spec := "labelsKeeps", inPlace := ["internal/bytealg.abigen_runtime_cmpstring", "internal/abi.NoEscape", "internal/bytealg.MakeNoZero"], unfollowed := true, recurses := true, apart := false }
def LabelsKeepsSaid : Prop := labelsKeepsRow.holds Try.pinned (OpenSpec.ofChange labelsKeepsSpec)

/-- ITS FALSE NEIGHBOUR: 'it returns false'. Refute it at one input. -/
def labelsKeepsWrong : ChangeSpec := { name := "labelsKeeps", fn := fun _ => fun
  | [d] => { results := [.lit (.bool false)], args := [d] }
  | _ => none }
def LabelsKeepsWrongFalsely : Prop := labelsKeepsRow.holds Try.pinned (OpenSpec.ofChange labelsKeepsWrong)

/-- 'almanaclaw04.LabelsOrder': WHATEVER THE INPUT: true; the input reads as it did. -/
def labelsOrderSpec : ChangeSpec := { name := "labelsOrder", fn := fun _ => fun
  | [d1, d2] => { results := [.lit (.bool true)], args := [d1, d2] }
  | _ => none }
def labelsOrderRow : OpenClaim := { program := "ytfidneoakcejgaa", sum := "e963b533f80c1ff686cb26f09a4196df5ef37015343f60ddc15eb9f658694fe0", func := "almanac/almanaclaw04.LabelsOrder", spec := "labelsOrder", inPlace := ["internal/bytealg.abigen_runtime_cmpstring", "internal/abi.NoEscape", "internal/bytealg.MakeNoZero"], unfollowed := true, recurses := true, apart := false }
def LabelsOrderSaid : Prop := labelsOrderRow.holds Try.pinned (OpenSpec.ofChange labelsOrderSpec)

/-- ITS FALSE NEIGHBOUR: 'it returns false'. Refute it at one input. -/
def labelsOrderWrong : ChangeSpec := { name := "labelsOrder", fn := fun _ => fun
  | [d1, d2] => { results := [.lit (.bool false)], args := [d1, d2] }
  | _ => none }
def LabelsOrderWrongFalsely : Prop := labelsOrderRow.holds Try.pinned (OpenSpec.ofChange labelsOrderWrong)

/-- 'almanaclaw04.LabelsQuotes': WHATEVER THE INPUT: true; the input reads as it did. -/
def labelsQuotesSpec : ChangeSpec := { name := "labelsQuotes", fn := fun _ => fun
  | [d1, d2, d3] => { results := [.lit (.bool true)], args := [d1, d2, d3] }
  | _ => none }
def labelsQuotesRow : OpenClaim := { program := "ytfidneoakcejgaa", sum := "e963b533f80c1ff686cb26f09a4196df5ef37015343f60ddc15eb9f658694fe0", func := "almanac/almanaclaw04.LabelsQuotes", spec := "labelsQuotes", inPlace := ["internal/bytealg.IndexByteString", "internal/abi.NoEscape", "internal/bytealg.abigen_runtime_cmpstring", "internal/bytealg.MakeNoZero"], unfollowed := true, recurses := true, apart := false }
def LabelsQuotesSaid : Prop := labelsQuotesRow.holds Try.pinned (OpenSpec.ofChange labelsQuotesSpec)

/-- ITS FALSE NEIGHBOUR: 'it returns false'. Refute it at one input. -/
def labelsQuotesWrong : ChangeSpec := { name := "labelsQuotes", fn := fun _ => fun
  | [d1, d2, d3] => { results := [.lit (.bool false)], args := [d1, d2, d3] }
  | _ => none }
def LabelsQuotesWrongFalsely : Prop := labelsQuotesRow.holds Try.pinned (OpenSpec.ofChange labelsQuotesWrong)

/-- 'almanaclaw04.LabelsSorts': WHATEVER THE INPUT: true; the input reads as it did. -/
def labelsSortsSpec : ChangeSpec := { name := "labelsSorts", fn := fun _ => fun
  | [d1, d2, d3] => { results := [.lit (.bool true)], args := [d1, d2, d3] }
  | _ => none }
def labelsSortsRow : OpenClaim := { program := "ytfidneoakcejgaa", sum := "e963b533f80c1ff686cb26f09a4196df5ef37015343f60ddc15eb9f658694fe0", func := "almanac/almanaclaw04.LabelsSorts", spec := "labelsSorts", inPlace := ["internal/bytealg.abigen_runtime_cmpstring", "internal/abi.NoEscape", "internal/bytealg.MakeNoZero"], unfollowed := true, recurses := true, apart := false }
def LabelsSortsSaid : Prop := labelsSortsRow.holds Try.pinned (OpenSpec.ofChange labelsSortsSpec)

/-- ITS FALSE NEIGHBOUR: 'it returns false'. Refute it at one input. -/
def labelsSortsWrong : ChangeSpec := { name := "labelsSorts", fn := fun _ => fun
  | [d1, d2, d3] => { results := [.lit (.bool false)], args := [d1, d2, d3] }
  | _ => none }
def LabelsSortsWrongFalsely : Prop := labelsSortsRow.holds Try.pinned (OpenSpec.ofChange labelsSortsWrong)

/-- 'almanaclaw13.PostBytes': WHATEVER THE INPUT: true; the input reads as it did. -/
def postBytesSpec : ChangeSpec := { name := "postBytes", fn := fun _ => fun
  | [d1, d2, d3] => { results := [.lit (.bool true)], args := [d1, d2, d3] }
  | _ => none }
def postBytesRow : OpenClaim := { program := "ytfidneoakcejgaa", sum := "e963b533f80c1ff686cb26f09a4196df5ef37015343f60ddc15eb9f658694fe0", func := "almanac/almanaclaw13.PostBytes", spec := "postBytes", inPlace := ["internal/abi.NoEscape"], unfollowed := true, recurses := true, apart := false }
def PostBytesSaid : Prop := postBytesRow.holds Try.pinned (OpenSpec.ofChange postBytesSpec)

/-- ITS FALSE NEIGHBOUR: 'it returns false'. Refute it at one input. -/
def postBytesWrong : ChangeSpec := { name := "postBytes", fn := fun _ => fun
  | [d1, d2, d3] => { results := [.lit (.bool false)], args := [d1, d2, d3] }
  | _ => none }
def PostBytesWrongFalsely : Prop := postBytesRow.holds Try.pinned (OpenSpec.ofChange postBytesWrong)

/-- 'almanaclaw04.LabelsTexts': WHATEVER THE INPUT: true; the input reads as it did. -/
def labelsTextsSpec : ChangeSpec := { name := "labelsTexts", fn := fun _ => fun
  | [d1, d2] => { results := [.lit (.bool true)], args := [d1, d2] }
  | _ => none }
def labelsTextsRow : OpenClaim := { program := "ytfidneoakcejgaa", sum := "e963b533f80c1ff686cb26f09a4196df5ef37015343f60ddc15eb9f658694fe0", func := "almanac/almanaclaw04.LabelsTexts", spec := "labelsTexts", inPlace := ["internal/bytealg.IndexByteString", "internal/abi.NoEscape", "internal/bytealg.abigen_runtime_cmpstring", "internal/bytealg.MakeNoZero"], unfollowed := true, recurses := true, apart := false }
def LabelsTextsSaid : Prop := labelsTextsRow.holds Try.pinned (OpenSpec.ofChange labelsTextsSpec)

/-- ITS FALSE NEIGHBOUR: 'it returns false'. Refute it at one input. -/
def labelsTextsWrong : ChangeSpec := { name := "labelsTexts", fn := fun _ => fun
  | [d1, d2] => { results := [.lit (.bool false)], args := [d1, d2] }
  | _ => none }
def LabelsTextsWrongFalsely : Prop := labelsTextsRow.holds Try.pinned (OpenSpec.ofChange labelsTextsWrong)

/-- 'almanaclaw04.LabelsBytes': WHATEVER THE INPUT: true; the input reads as it did. -/
def labelsBytesSpec : ChangeSpec := { name := "labelsBytes", fn := fun _ => fun
  | [d1, d2, d3] => { results := [.lit (.bool true)], args := [d1, d2, d3] }
  | _ => none }
def labelsBytesRow : OpenClaim := { program := "ytfidneoakcejgaa", sum := "e963b533f80c1ff686cb26f09a4196df5ef37015343f60ddc15eb9f658694fe0", func := "almanac/almanaclaw04.LabelsBytes", spec := "labelsBytes", inPlace := ["internal/bytealg.abigen_runtime_cmpstring", "internal/abi.NoEscape", "internal/bytealg.MakeNoZero"], unfollowed := true, recurses := true, apart := false }
def LabelsBytesSaid : Prop := labelsBytesRow.holds Try.pinned (OpenSpec.ofChange labelsBytesSpec)

/-- ITS FALSE NEIGHBOUR: 'it returns false'. Refute it at one input. -/
def labelsBytesWrong : ChangeSpec := { name := "labelsBytes", fn := fun _ => fun
  | [d1, d2, d3] => { results := [.lit (.bool false)], args := [d1, d2, d3] }
  | _ => none }
def LabelsBytesWrongFalsely : Prop := labelsBytesRow.holds Try.pinned (OpenSpec.ofChange labelsBytesWrong)

/-- 'almanaclaw04.LabelsOne': WHATEVER THE INPUT: true; the input reads as it did. -/
def labelsOneSpec : ChangeSpec := { name := "labelsOne", fn := fun _ => fun
  | [d] => { results := [.lit (.bool true)], args := [d] }
  | _ => none }
def labelsOneRow : OpenClaim := { program := "ytfidneoakcejgaa", sum := "e963b533f80c1ff686cb26f09a4196df5ef37015343f60ddc15eb9f658694fe0", func := "almanac/almanaclaw04.LabelsOne", spec := "labelsOne", inPlace := ["internal/bytealg.abigen_runtime_cmpstring", "internal/abi.NoEscape", "internal/bytealg.MakeNoZero", "internal/bytealg.IndexByteString"], unfollowed := true, recurses := true, apart := false }
def LabelsOneSaid : Prop := labelsOneRow.holds Try.pinned (OpenSpec.ofChange labelsOneSpec)

/-- ITS FALSE NEIGHBOUR: 'it returns false'. Refute it at one input. -/
def labelsOneWrong : ChangeSpec := { name := "labelsOne", fn := fun _ => fun
  | [d] => { results := [.lit (.bool false)], args := [d] }
  | _ => none }
def LabelsOneWrongFalsely : Prop := labelsOneRow.holds Try.pinned (OpenSpec.ofChange labelsOneWrong)

/-- 'almanaclaw04.LabelsBack': WHATEVER THE INPUT: true; the input reads as it did. -/
def labelsBackSpec : ChangeSpec := { name := "labelsBack", fn := fun _ => fun
  | [d] => { results := [.lit (.bool true)], args := [d] }
  | _ => none }
def labelsBackRow : OpenClaim := { program := "ytfidneoakcejgaa", sum := "e963b533f80c1ff686cb26f09a4196df5ef37015343f60ddc15eb9f658694fe0", func := "almanac/almanaclaw04.LabelsBack", spec := "labelsBack", inPlace := ["internal/bytealg.abigen_runtime_cmpstring", "internal/abi.NoEscape", "internal/bytealg.MakeNoZero", "internal/bytealg.IndexByteString"], unfollowed := true, recurses := true, apart := false }
def LabelsBackSaid : Prop := labelsBackRow.holds Try.pinned (OpenSpec.ofChange labelsBackSpec)

/-- ITS FALSE NEIGHBOUR: 'it returns false'. Refute it at one input. -/
def labelsBackWrong : ChangeSpec := { name := "labelsBack", fn := fun _ => fun
  | [d] => { results := [.lit (.bool false)], args := [d] }
  | _ => none }
def LabelsBackWrongFalsely : Prop := labelsBackRow.holds Try.pinned (OpenSpec.ofChange labelsBackWrong)

/- THE SECOND FORM. 'bulk': how many values and letters a reading holds, each counted each time it is reached (what is shared counts as often as it is met; a slice's spare places count too). A statement '..UptoSaid' is the law's where the arguments, and the package variables that the reading takes, are together of bulk at most 1048576: NARROWER than '..Said'. Prove '..Said' where nothing that the law and all that it calls make is longer than what came in: it says more and counts as full. Else prove '..UptoSaid'. A law counts once. -/
mutual
def uptoBulk {H : Type} : DataW H → Nat
  | .lit (.string bytes) => bytes.length + 1
  | .lit _ => 1
  | .nil => 1
  | .ptr d => uptoBulk d + 1
  | .slice elems spare => uptoBulkAll elems + uptoBulkAll spare + 1
  | .agg parts => uptoBulkAll parts + 1
  | .iface _ d => uptoBulk d + 1
  | .map entries => uptoBulkEntries entries + 1
  | .held _ => 1
def uptoBulkAll {H : Type} : List (DataW H) → Nat
  | [] => 0
  | d :: r => uptoBulk d + uptoBulkAll r
def uptoBulkEntries {H : Type} : List (Lit × DataW H) → Nat
  | [] => 0
  | x :: r => uptoBulkEntry x + uptoBulkEntries r
def uptoBulkEntry {H : Type} : Lit × DataW H → Nat
  | (.string bytes, d) => bytes.length + uptoBulk d + 1
  | (_, d) => uptoBulk d + 1
 end
def uptoSmall : (H : Type) → List (DataW H) → Bool := fun _ ds => decide (uptoBulkAll ds ≤ 1048576)
def OpenSpec.upto (s : _root_.Go.ChangeSpec) : _root_.Go.OpenSpec := { _root_.Go.OpenSpec.ofChange s with cond := some uptoSmall }

/-- 'almanaclaw04.LabelsMakes', WHERE WHAT IT READS IS OF BULK AT MOST 1048576: true; the input reads as it did. -/
def labelsMakesUptoRow : OpenClaim := { program := "ytfidneoakcejgaa", sum := "e963b533f80c1ff686cb26f09a4196df5ef37015343f60ddc15eb9f658694fe0", func := "almanac/almanaclaw04.LabelsMakes", spec := "labelsMakes", inPlace := ["internal/bytealg.abigen_runtime_cmpstring", "internal/abi.NoEscape", "internal/bytealg.MakeNoZero"], unfollowed := true, recurses := true, apart := false, narrowed := true }
def LabelsMakesUptoSaid : Prop := labelsMakesUptoRow.holds Try.pinned (OpenSpec.upto labelsMakesSpec)

/-- 'almanaclaw04.LabelsGets', WHERE WHAT IT READS IS OF BULK AT MOST 1048576: true; the input reads as it did. -/
def labelsGetsUptoRow : OpenClaim := { program := "ytfidneoakcejgaa", sum := "e963b533f80c1ff686cb26f09a4196df5ef37015343f60ddc15eb9f658694fe0", func := "almanac/almanaclaw04.LabelsGets", spec := "labelsGets", inPlace := ["internal/bytealg.abigen_runtime_cmpstring", "internal/abi.NoEscape", "internal/bytealg.MakeNoZero"], unfollowed := true, recurses := true, apart := false, narrowed := true }
def LabelsGetsUptoSaid : Prop := labelsGetsUptoRow.holds Try.pinned (OpenSpec.upto labelsGetsSpec)

/-- 'almanaclaw04.LabelsKeeps', WHERE WHAT IT READS IS OF BULK AT MOST 1048576: true; the input reads as it did. -/
def labelsKeepsUptoRow : OpenClaim := { program := "ytfidneoakcejgaa", sum := "e963b533f80c1ff686cb26f09a4196df5ef37015343f60ddc15eb9f658694fe0", func := "almanac/almanaclaw04.LabelsKeeps", spec := "labelsKeeps", inPlace := ["internal/bytealg.abigen_runtime_cmpstring", "internal/abi.NoEscape", "internal/bytealg.MakeNoZero"], unfollowed := true, recurses := true, apart := false, narrowed := true }
def LabelsKeepsUptoSaid : Prop := labelsKeepsUptoRow.holds Try.pinned (OpenSpec.upto labelsKeepsSpec)

/-- 'almanaclaw04.LabelsOrder', WHERE WHAT IT READS IS OF BULK AT MOST 1048576: true; the input reads as it did. -/
def labelsOrderUptoRow : OpenClaim := { program := "ytfidneoakcejgaa", sum := "e963b533f80c1ff686cb26f09a4196df5ef37015343f60ddc15eb9f658694fe0", func := "almanac/almanaclaw04.LabelsOrder", spec := "labelsOrder", inPlace := ["internal/bytealg.abigen_runtime_cmpstring", "internal/abi.NoEscape", "internal/bytealg.MakeNoZero"], unfollowed := true, recurses := true, apart := false, narrowed := true }
def LabelsOrderUptoSaid : Prop := labelsOrderUptoRow.holds Try.pinned (OpenSpec.upto labelsOrderSpec)

/-- 'almanaclaw04.LabelsQuotes', WHERE WHAT IT READS IS OF BULK AT MOST 1048576: true; the input reads as it did. -/
def labelsQuotesUptoRow : OpenClaim := { program := "ytfidneoakcejgaa", sum := "e963b533f80c1ff686cb26f09a4196df5ef37015343f60ddc15eb9f658694fe0", func := "almanac/almanaclaw04.LabelsQuotes", spec := "labelsQuotes", inPlace := ["internal/bytealg.IndexByteString", "internal/abi.NoEscape", "internal/bytealg.abigen_runtime_cmpstring", "internal/bytealg.MakeNoZero"], unfollowed := true, recurses := true, apart := false, narrowed := true }
def LabelsQuotesUptoSaid : Prop := labelsQuotesUptoRow.holds Try.pinned (OpenSpec.upto labelsQuotesSpec)

/-- 'almanaclaw04.LabelsSorts', WHERE WHAT IT READS IS OF BULK AT MOST 1048576: true; the input reads as it did. -/
def labelsSortsUptoRow : OpenClaim := { program := "ytfidneoakcejgaa", sum := "e963b533f80c1ff686cb26f09a4196df5ef37015343f60ddc15eb9f658694fe0", func := "almanac/almanaclaw04.LabelsSorts", spec := "labelsSorts", inPlace := ["internal/bytealg.abigen_runtime_cmpstring", "internal/abi.NoEscape", "internal/bytealg.MakeNoZero"], unfollowed := true, recurses := true, apart := false, narrowed := true }
def LabelsSortsUptoSaid : Prop := labelsSortsUptoRow.holds Try.pinned (OpenSpec.upto labelsSortsSpec)

/-- 'almanaclaw13.PostBytes', WHERE WHAT IT READS IS OF BULK AT MOST 1048576: true; the input reads as it did. -/
def postBytesUptoRow : OpenClaim := { program := "ytfidneoakcejgaa", sum := "e963b533f80c1ff686cb26f09a4196df5ef37015343f60ddc15eb9f658694fe0", func := "almanac/almanaclaw13.PostBytes", spec := "postBytes", inPlace := ["internal/abi.NoEscape"], unfollowed := true, recurses := true, apart := false, narrowed := true }
def PostBytesUptoSaid : Prop := postBytesUptoRow.holds Try.pinned (OpenSpec.upto postBytesSpec)

/-- 'almanaclaw04.LabelsTexts', WHERE WHAT IT READS IS OF BULK AT MOST 1048576: true; the input reads as it did. -/
def labelsTextsUptoRow : OpenClaim := { program := "ytfidneoakcejgaa", sum := "e963b533f80c1ff686cb26f09a4196df5ef37015343f60ddc15eb9f658694fe0", func := "almanac/almanaclaw04.LabelsTexts", spec := "labelsTexts", inPlace := ["internal/bytealg.IndexByteString", "internal/abi.NoEscape", "internal/bytealg.abigen_runtime_cmpstring", "internal/bytealg.MakeNoZero"], unfollowed := true, recurses := true, apart := false, narrowed := true }
def LabelsTextsUptoSaid : Prop := labelsTextsUptoRow.holds Try.pinned (OpenSpec.upto labelsTextsSpec)

/-- 'almanaclaw04.LabelsBytes', WHERE WHAT IT READS IS OF BULK AT MOST 1048576: true; the input reads as it did. -/
def labelsBytesUptoRow : OpenClaim := { program := "ytfidneoakcejgaa", sum := "e963b533f80c1ff686cb26f09a4196df5ef37015343f60ddc15eb9f658694fe0", func := "almanac/almanaclaw04.LabelsBytes", spec := "labelsBytes", inPlace := ["internal/bytealg.abigen_runtime_cmpstring", "internal/abi.NoEscape", "internal/bytealg.MakeNoZero"], unfollowed := true, recurses := true, apart := false, narrowed := true }
def LabelsBytesUptoSaid : Prop := labelsBytesUptoRow.holds Try.pinned (OpenSpec.upto labelsBytesSpec)

/-- 'almanaclaw04.LabelsOne', WHERE WHAT IT READS IS OF BULK AT MOST 1048576: true; the input reads as it did. -/
def labelsOneUptoRow : OpenClaim := { program := "ytfidneoakcejgaa", sum := "e963b533f80c1ff686cb26f09a4196df5ef37015343f60ddc15eb9f658694fe0", func := "almanac/almanaclaw04.LabelsOne", spec := "labelsOne", inPlace := ["internal/bytealg.abigen_runtime_cmpstring", "internal/abi.NoEscape", "internal/bytealg.MakeNoZero", "internal/bytealg.IndexByteString"], unfollowed := true, recurses := true, apart := false, narrowed := true }
def LabelsOneUptoSaid : Prop := labelsOneUptoRow.holds Try.pinned (OpenSpec.upto labelsOneSpec)

/-- 'almanaclaw04.LabelsBack', WHERE WHAT IT READS IS OF BULK AT MOST 1048576: true; the input reads as it did. -/
def labelsBackUptoRow : OpenClaim := { program := "ytfidneoakcejgaa", sum := "e963b533f80c1ff686cb26f09a4196df5ef37015343f60ddc15eb9f658694fe0", func := "almanac/almanaclaw04.LabelsBack", spec := "labelsBack", inPlace := ["internal/bytealg.abigen_runtime_cmpstring", "internal/abi.NoEscape", "internal/bytealg.MakeNoZero", "internal/bytealg.IndexByteString"], unfollowed := true, recurses := true, apart := false, narrowed := true }
def LabelsBackUptoSaid : Prop := labelsBackUptoRow.holds Try.pinned (OpenSpec.upto labelsBackSpec)

end Rows
end Go.Proofs.Ytfidneoakcejgaa
