/- A matcher as it lies, and what it fits. No program is walked here. -/
import Derived.Test.YtalnndenncnbdaaParQ
import Derived.Test.YtalnndenncnbdaaParZ
import Derived.Test.YtalnndenncnbdaaDerM
import Derived.Test.YtalnndenncnbdaaLabMk
import Derived.Test.YtalnndenncnbdaaLabGet
namespace Go.Proofs.Ytalnndenncnbdaa
set_option maxRecDepth 100000
open Go.RowKit

/-- a text's bytes, as numbers -/
def bytesN (v : ByteArray) : List Nat := v.data.toList.map UInt8.toNat
/-- what a matcher that is made so fits, or the error -/
def newF (kind : Int) (name value : ByteArray) : Except Int (ByteArray → Bool) :=
  if kind < 0 ∨ 3 < kind then .error 80 else
  if makeErr [⟨name, ⟨#[120]⟩⟩] ≠ 0 then .error (makeErr [⟨name, ⟨#[120]⟩⟩] : Nat) else
  if kind ≤ 1 then (if 64 < value.size then .error 41 else .ok fun v => decide (v = value) != decide (kind = 1)) else
  match parseP value.data.toList with
  | .bad c => .error (c : Int)
  | .ok t _ => .ok fun v => matT t (bytesN v) != decide (kind = 3)
/-- a func value that fits so, not turned -/
def FitB (w : World) (fv : Value) (F : ByteArray → Bool) : Prop :=
  (∃ bx value, fv = .func (.func 12) #[] #[.pointer (some ⟨bx, 0, none⟩)] ∧ Whole1 w bx 9 #[.string value] ∧ F = fun v => decide (v = value)) ∨
  ∃ nb p t, fv = .func (.func 14) #[] #[.pointer (some ⟨nb, 0, none⟩)] ∧ Whole1 w nb 46 #[.pointer (some ⟨p, 0, none⟩)] ∧ IsTr w p t ∧ F = fun v => matT t (bytesN v)
def FitA (w : World) (fv : Value) (F : ByteArray → Bool) : Prop :=
  FitB w fv F ∨ ∃ tb fv0 F0, fv = .func (.func 32) #[] #[.pointer (some ⟨tb, 0, none⟩)] ∧ Whole1 w tb 32 #[fv0] ∧ FitB w fv0 F0 ∧ F = fun v => !F0 v
/-- THE BLOCK IS A MATCHER of this name that fits so -/
def MatAt (w : World) (M : Nat) (kind : Int) (name value : ByteArray) (F : ByteArray → Bool) : Prop :=
  ∃ fv, Whole1 w M 43 #[.int .i64 kind, .string name, .string value, fv] ∧ FitA w fv F
section
variable {w w' : World}
theorem fitB_on (hb : Below w.heap.size w w') {fv : Value} {F : ByteArray → Bool} (h : FitB w fv F) : FitB w' fv F := by
  rcases h with ⟨bx, value, e, h1, h2⟩ | ⟨nb, p, t, e, h1, h2, h3⟩
  · exact .inl ⟨bx, value, e, h1.below hb h1.lt, h2⟩
  · exact .inr ⟨nb, p, t, e, h1.below hb h1.lt, isTr_on (fun _ _ _ h => h.below hb h.lt) t p h2, h3⟩
theorem fitA_on (hb : Below w.heap.size w w') {fv : Value} {F : ByteArray → Bool} (h : FitA w fv F) : FitA w' fv F := by
  rcases h with h | ⟨tb, fv0, F0, e, h1, h2, h3⟩
  · exact .inl (fitB_on hb h)
  · exact .inr ⟨tb, fv0, F0, e, h1.below hb h1.lt, fitB_on hb h2, h3⟩
theorem MatAt.on {M : Nat} {kind : Int} {name value : ByteArray} {F : ByteArray → Bool} (h : MatAt w M kind name value F) (hb : Below w.heap.size w w') : MatAt w' M kind name value F := by
  obtain ⟨fv, h1, h2⟩ := h
  exact ⟨fv, h1.below hb h1.lt, fitA_on hb h2⟩
end
end Go.Proofs.Ytalnndenncnbdaa
