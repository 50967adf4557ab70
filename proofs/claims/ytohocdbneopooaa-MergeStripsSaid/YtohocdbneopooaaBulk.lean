/- What the bound of an '..UptoSaid' gives: lengths. No condition. -/
import Derived.Test.YtohocdbneopooaaRows
namespace Go.Proofs.Ytohocdbneopooaa
set_option maxRecDepth 100000

section
variable {H : Type}
theorem bulk_pos (d : DataW H) : 1 ≤ Rows.uptoBulk d := by
  cases d with
  | lit l => cases l <;> simp [Rows.uptoBulk]
  | _ => simp [Rows.uptoBulk]

theorem bulk_len (l : List (DataW H)) : l.length ≤ Rows.uptoBulkAll l := by
  induction l with
  | nil => simp
  | cons x l ih => have := bulk_pos x; simp only [Rows.uptoBulkAll, List.length_cons]; omega

theorem bulk_mem {d : DataW H} {l : List (DataW H)} (h : d ∈ l) : Rows.uptoBulk d ≤ Rows.uptoBulkAll l := by
  induction l with
  | nil => cases h
  | cons x l ih =>
    simp only [Rows.uptoBulkAll]
    rcases List.mem_cons.1 h with rfl | h
    · omega
    · have := ih h; omega

theorem bulk_slice (es sp : List (DataW H)) : es.length ≤ Rows.uptoBulk (.slice es sp) := by
  have := bulk_len es
  simp only [Rows.uptoBulk]
  omega

/-- the length of a list among the arguments -/
theorem bulk_of {ds : List (DataW H)} (h : Rows.uptoBulkAll ds ≤ 1048576) {d : DataW H} (hd : d ∈ ds) {n : Nat} (hn : (n = 0 ∧ d = .nil) ∨ ∃ es sp : List (DataW H), d = .slice es sp ∧ es.length = n) : n ≤ 1048576 := by
  rcases hn with ⟨rfl, _⟩ | ⟨es, sp, rfl, rfl⟩
  · omega
  · have h1 := bulk_mem hd
    have h2 := bulk_slice es sp
    omega
end
end Go.Proofs.Ytohocdbneopooaa
