/-
  No cell of these rows narrows 'for every input' (looked for: loops, veiled, ifaces, maps, wideKeys, modest, calm, conditions, laid).
  DERIVED. THE GIVEN ROWS OF THIS SEAT. 3 by the template 'for every input the law returns true; each argument reads behind the call as it read before'; 0 by the template 'total and deterministic' (their statements: YthncochjhbmceaaGreatTotals.lean).
  GIVEN WITH THE SEED: the statements are not yours to turn. If you find one false, say at which input.
  Laid BY PROGRAM, IN A SANDBOX (cutbox-rows.mjs): the forced cells as the released guide's own fill.sh prints them over the translation 08f7bb9beb11e497… (all of the seat's roots in one cut). By AI agents, Wed Nov 11 2026. No macro, syntax, notation, axiom, sorry.
-/
import Derived.Test.YthncochjhbmceaaGreatChecked
import GoSem.Claim
import GoSem.ClaimJoined
import GoSem.ClaimMapViews
import Derived.JoinedTies
import Derived.KernelRfl
namespace Go.Proofs.YthncochjhbmceaaGreat
/- THE CELL 'sum', in the pinned program and in every row, IS THE sha256 OF THE DUMP (.gsa) THAT YthncochjhbmceaaGreatProg.lean LOADS. Nothing in Lean hashes anything: it is a label: what it is worth is what the hold of that sum in a sandbox is worth. -/
noncomputable def Tryz.pinned : Pinned := { name := "ythncochjhbmceaagreat", sum := "08f7bb9beb11e497579d5daae3c54eabe8c2a33717e489170c38d94b0ad9d301", checked := Tryz.checked }
namespace Rows
def none {H : Type} : Left H := { results := [], args := [] }

/-- 'almanaclaw18.HeadPlans': WHATEVER THE INPUT: true; the input reads as it did. -/
def headPlansSpec : ChangeSpec := { name := "headPlans", fn := fun _ => fun
  | [d1, d2] => { results := [.lit (.bool true)], args := [d1, d2] }
  | _ => none }
def headPlansRow : OpenClaim := { program := "ythncochjhbmceaagreat", sum := "08f7bb9beb11e497579d5daae3c54eabe8c2a33717e489170c38d94b0ad9d301", func := "almanac/almanaclaw18.HeadPlans", spec := "headPlans", inPlace := ["internal/bytealg.abigen_runtime_cmpstring", "internal/abi.NoEscape"], unfollowed := true, recurses := true, plainKeys := false, apart := false }
def HeadPlansSaid : Prop := headPlansRow.holds Tryz.pinned (OpenSpec.ofChange headPlansSpec)

/-- ITS FALSE NEIGHBOUR: 'it returns false'. Refute it at one input. -/
def headPlansWrong : ChangeSpec := { name := "headPlans", fn := fun _ => fun
  | [d1, d2] => { results := [.lit (.bool false)], args := [d1, d2] }
  | _ => none }
def HeadPlansWrongFalsely : Prop := headPlansRow.holds Tryz.pinned (OpenSpec.ofChange headPlansWrong)

/-- 'almanaclaw18.HeadNone': WHATEVER THE INPUT: true; the input reads as it did. -/
def headNoneSpec : ChangeSpec := { name := "headNone", fn := fun _ => fun
  | [d] => { results := [.lit (.bool true)], args := [d] }
  | _ => none }
def headNoneRow : OpenClaim := { program := "ythncochjhbmceaagreat", sum := "08f7bb9beb11e497579d5daae3c54eabe8c2a33717e489170c38d94b0ad9d301", func := "almanac/almanaclaw18.HeadNone", spec := "headNone", inPlace := ["internal/bytealg.abigen_runtime_cmpstring", "internal/abi.NoEscape"], unfollowed := true, recurses := true, plainKeys := false, apart := false }
def HeadNoneSaid : Prop := headNoneRow.holds Tryz.pinned (OpenSpec.ofChange headNoneSpec)

/-- ITS FALSE NEIGHBOUR: 'it returns false'. Refute it at one input. -/
def headNoneWrong : ChangeSpec := { name := "headNone", fn := fun _ => fun
  | [d] => { results := [.lit (.bool false)], args := [d] }
  | _ => none }
def HeadNoneWrongFalsely : Prop := headNoneRow.holds Tryz.pinned (OpenSpec.ofChange headNoneWrong)

/-- 'almanaclaw18.HeadErases': WHATEVER THE INPUT: true; the input reads as it did. -/
def headErasesSpec : ChangeSpec := { name := "headErases", fn := fun _ => fun
  | [d1, d2, d3] => { results := [.lit (.bool true)], args := [d1, d2, d3] }
  | _ => none }
def headErasesRow : OpenClaim := { program := "ythncochjhbmceaagreat", sum := "08f7bb9beb11e497579d5daae3c54eabe8c2a33717e489170c38d94b0ad9d301", func := "almanac/almanaclaw18.HeadErases", spec := "headErases", inPlace := ["internal/bytealg.abigen_runtime_cmpstring", "internal/abi.NoEscape"], unfollowed := true, recurses := true, plainKeys := false, apart := false }
def HeadErasesSaid : Prop := headErasesRow.holds Tryz.pinned (OpenSpec.ofChange headErasesSpec)

/-- ITS FALSE NEIGHBOUR: 'it returns false'. Refute it at one input. -/
def headErasesWrong : ChangeSpec := { name := "headErases", fn := fun _ => fun
  | [d1, d2, d3] => { results := [.lit (.bool false)], args := [d1, d2, d3] }
  | _ => none }
def HeadErasesWrongFalsely : Prop := headErasesRow.holds Tryz.pinned (OpenSpec.ofChange headErasesWrong)

/- THE SECOND FORM. 'bulk': how many values and letters a reading holds, each counted each time it is reached (what is shared counts as often as it is met; a slice's spare places count too). A statement '..UptoSaid' is the law's where the arguments, and the package variables that the reading takes, are together of bulk at most 1048576: NARROWER than '..Said'. Prove '..Said' where nothing that the law and all that it calls make is longer than what came in: it says more and counts as full. Else prove '..UptoSaid'. A law counts once. -/
mutual
def uptoBulk {H : Type} : DataW H → Nat
  | .lit (.string bytes) => bytes.length + 1
  | .lit _ => 1
  | .nil => 1
  | .ptr d => uptoBulk d + 1
  | .slice elems spare => uptoBulkAll elems + uptoBulkAll spare + 1
  | .agg parts => uptoBulkAll parts + 1
  | .iface _ d => uptoBulk d + 1
  | .map entries => uptoBulkEntries entries + 1
  | .held _ => 1
def uptoBulkAll {H : Type} : List (DataW H) → Nat
  | [] => 0
  | d :: r => uptoBulk d + uptoBulkAll r
def uptoBulkEntries {H : Type} : List (Lit × DataW H) → Nat
  | [] => 0
  | x :: r => uptoBulkEntry x + uptoBulkEntries r
def uptoBulkEntry {H : Type} : Lit × DataW H → Nat
  | (.string bytes, d) => bytes.length + uptoBulk d + 1
  | (_, d) => uptoBulk d + 1
 end
def uptoSmall : (H : Type) → List (DataW H) → Bool := fun _ ds => decide (uptoBulkAll ds ≤ 1048576)
def OpenSpec.upto (s : _root_.Go.ChangeSpec) : _root_.Go.OpenSpec := { _root_.Go.OpenSpec.ofChange s with cond := some uptoSmall }

/-- 'almanaclaw18.HeadPlans', WHERE WHAT IT READS IS OF BULK AT MOST 1048576: true; the input reads as it did. -/
def headPlansUptoRow : OpenClaim := { program := "ythncochjhbmceaagreat", sum := "08f7bb9beb11e497579d5daae3c54eabe8c2a33717e489170c38d94b0ad9d301", func := "almanac/almanaclaw18.HeadPlans", spec := "headPlans", inPlace := ["internal/bytealg.abigen_runtime_cmpstring", "internal/abi.NoEscape"], unfollowed := true, recurses := true, plainKeys := false, apart := false, narrowed := true }
def HeadPlansUptoSaid : Prop := headPlansUptoRow.holds Tryz.pinned (OpenSpec.upto headPlansSpec)

/-- 'almanaclaw18.HeadNone', WHERE WHAT IT READS IS OF BULK AT MOST 1048576: true; the input reads as it did. -/
def headNoneUptoRow : OpenClaim := { program := "ythncochjhbmceaagreat", sum := "08f7bb9beb11e497579d5daae3c54eabe8c2a33717e489170c38d94b0ad9d301", func := "almanac/almanaclaw18.HeadNone", spec := "headNone", inPlace := ["internal/bytealg.abigen_runtime_cmpstring", "internal/abi.NoEscape"], unfollowed := true, recurses := true, plainKeys := false, apart := false, narrowed := true }
def HeadNoneUptoSaid : Prop := headNoneUptoRow.holds Tryz.pinned (OpenSpec.upto headNoneSpec)

/-- 'almanaclaw18.HeadErases', WHERE WHAT IT READS IS OF BULK AT MOST 1048576: true; the input reads as it did. -/
def headErasesUptoRow : OpenClaim := { program := "ythncochjhbmceaagreat", sum := "08f7bb9beb11e497579d5daae3c54eabe8c2a33717e489170c38d94b0ad9d301", func := "almanac/almanaclaw18.HeadErases", spec := "headErases", inPlace := ["internal/bytealg.abigen_runtime_cmpstring", "internal/abi.NoEscape"], unfollowed := true, recurses := true, plainKeys := false, apart := false, narrowed := true }
def HeadErasesUptoSaid : Prop := headErasesUptoRow.holds Tryz.pinned (OpenSpec.upto headErasesSpec)

end Rows
end Go.Proofs.YthncochjhbmceaaGreat
