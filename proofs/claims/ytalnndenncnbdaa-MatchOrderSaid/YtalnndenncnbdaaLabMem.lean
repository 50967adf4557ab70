/- Labels as they lie. No condition. -/
import Derived.Test.YtalnndenncnbdaaLabP
namespace Go.Proofs.Ytalnndenncnbdaa
set_option maxRecDepth 100000
open Go.RowKit

/-- labels as they lie -/
structure LbF (w : World) (A : Option Addr) (n : Nat) (l : List Lbl) : Prop where
  row : Row w w.heap.size 2 A n (l.flatMap Lbl.cells)
  len : l.length = n
  fit : n * 32 ≤ 140737488351232
  sz : ∀ x ∈ l, x.name.size ≤ 140737488355328 ∧ x.value.size ≤ 140737488355328
theorem LbF.on {w w' : World} {A : Option Addr} {n : Nat} {l : List Lbl} (h : LbF w A n l) (hb : Below w.heap.size w w') : LbF w' A n l := ⟨(h.row.below hb).more hb.size, h.len, h.fit, h.sz⟩
theorem lb_cells {w : World} {A : Option Addr} {n : Nat} {l : List Lbl} (h : LbF w A n l) {k : Nat} (hk : k < n) : ∃ g o x, A = some ⟨g, o, none⟩ ∧ g < w.heap.size ∧ l[k]? = some x ∧ w.cell? ⟨g, o + k * 2, none⟩ = some (.string x.name) ∧ w.cell? ⟨g, o + k * 2 + 1, none⟩ = some (.string x.value) ∧ x ∈ l := by
  obtain ⟨g, o, x, hA, hg, hx, hc⟩ := row_at (enc := Lbl.cells) (k := 2) (fun _ => rfl) h.row h.len k hk
  exact ⟨g, o, x, hA, hg, hx, hc 0 (by omega), hc 1 (by omega), List.mem_of_getElem? hx⟩
theorem take_lb : ∀ (l : List Lbl) (k : Nat), (l.flatMap Lbl.cells).take (k * 2) = (l.take k).flatMap Lbl.cells
  | [], k => by simp
  | x :: l, 0 => by simp
  | x :: l, k + 1 => by
    rw [show (k + 1) * 2 = k * 2 + 2 by omega, List.flatMap_cons, List.take_succ_cons, List.flatMap_cons, ← take_lb l k]
    rfl
theorem LbF.first {w : World} {A : Option Addr} {n : Nat} {l : List Lbl} (h : LbF w A n l) {k : Nat} (hk : k ≤ n) : Row w w.heap.size 2 A k ((l.take k).flatMap Lbl.cells) := by
  have hl := h.row.len
  rw [← take_lb]
  refine ⟨by rw [List.length_take]; omega, fun hn => ?_⟩
  obtain ⟨g, o, e, hb, hc⟩ := h.row.at_ (by omega)
  exact ⟨g, o, e, hb, fun j hj => by rw [hc j (by omega), List.getElem?_take_of_lt (by omega)]⟩
theorem str_eq (a b : ByteArray) : (a.toList == b.toList) = decide (a = b) := by
  rw [Lib.toList_data, Lib.toList_data]
  by_cases h : a = b
  · subst h; simp
  · rw [decide_eq_false h]
    exact beq_eq_false_iff_ne.2 fun e => h (bytes_eq e)
end Go.Proofs.Ytalnndenncnbdaa
