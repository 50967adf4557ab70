/- labels.Read and labels.Decode, as a law uses them. Condition: the text is not too long. -/
import Derived.Test.YtfidneoakcejgaaLRead
import Derived.Test.YtfidneoakcejgaaLDec
import Derived.Test.YtfidneoakcejgaaOneP
import Derived.Test.YtfidneoakcejgaaOpenT
namespace Go.Proofs.Ytfidneoakcejgaa
set_option maxRecDepth 100000
open Go.RowKit

theorem readL_small (s : ByteArray) : (readL s).1.length ≤ 8 ∧ ∀ x ∈ (readL s).1, x.name.size ≤ 32 ∧ x.value.size ≤ 64 := by
  unfold readL
  split
  · split
    · rename_i hv
      exact valid_small hv
    · exact ⟨by simp, fun x hx => by cases hx⟩
  · exact ⟨by simp, fun x hx => by cases hx⟩
theorem readLaw (s : ByteArray) (w : World) (hs : s.size ≤ 16777216) :
    Calls Try.prog 37 #[.string s] w fun e w' => ∃ B c', e = .returned (.tuple #[.slice B (readL s).1.length c', .int .i64 (readL s).2]) ∧ LbF w' B (readL s).1.length (readL s).1 ∧ (readL s).1.length ≤ c' ∧ Below w.heap.size w w' := by
  refine (lread_any s w hs).mono ?_
  rintro e w' ⟨v, rfl, hown, hb⟩
  obtain ⟨B, c', rfl, hc, hr⟩ := own_shape hown
  obtain ⟨h1, h2⟩ := readL_small s
  exact ⟨B, c', rfl, ⟨hr, rfl, by omega, fun x hx => by have := h2 x hx; omega⟩, hc, hb⟩
theorem decLaw (s : List UInt8) (a : Int) (w : World) (hs : s.length ≤ 140737488355328) (ha : -9223372036854775808 ≤ a) (ha2 : a < 9223372036854775808) :
    Calls Try.prog 43 #[.string ⟨s.toArray⟩, .int .i64 a] w fun e w' => ∃ B c', e = .returned (.tuple #[.slice B (decL s a).1.length c', .int .i64 (decL s a).2.1, .int .i64 (decL s a).2.2]) ∧ LbF w' B (decL s a).1.length (decL s a).1 ∧ (decL s a).1.length ≤ c' ∧ Below w.heap.size w w' := by
  refine (ldec_any s a w hs ha ha2).mono ?_
  rintro e w' ⟨v, rfl, hown, hb⟩
  obtain ⟨B, c', rfl, hc, hr⟩ := own_shape hown
  obtain ⟨h1, h2⟩ := decL_small s a
  exact ⟨B, c', rfl, ⟨hr, rfl, by omega, fun x hx => by have := h2 x hx; omega⟩, hc, hb⟩
end Go.Proofs.Ytfidneoakcejgaa
