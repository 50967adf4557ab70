/- 'append(s[:0:0], s...)': a copy. No condition but the reach. slices.Clone at labels: a copy of the call's own. Condition: the row is within the reach. -/
import Derived.Test.YtnedgjdhpdejdaaBase
import Derived.ArgAppend
import Derived.Test.YtnedgjdhpdejdaaSerMem
namespace Go.Proofs.Ytnedgjdhpdejdaa
set_option maxRecDepth 100000
open Go.RowKit

section
variable {P : Program} (w : World)
theorem run_app_zero (t ty e : TypeId) (i : TypeInfo) (ht : P.underlying t = some (.slice e)) (hi : P.info? e = some i) (D A : Option Addr) (c k : Nat) :
    (Builtin.append_ #[t, t] ty #[.slice D 0 k, .slice A 0 c]).run P w = .ok (.slice D 0 k) w := by
  cases D <;> cases A <;> simp [Builtin.append_, run_underlying ht, sizeOf, typeInfo, hi, Builtin.lenOf, Builtin.firstCells, storeCells, loadCells, loadCellsFrom]

theorem run_clone (t ty e : TypeId) (i : TypeInfo) (z : Value) (size bytes : Nat) (ht : P.underlying t = some (.slice e)) (hi : P.info? e = some i) (hz : i.zero = some z)
    (hsize : i.size = size) (hby : i.bytes = bytes) (hzs : z.cells.size = size) (hsz : 0 < size) (D : Option Addr)
    (B : Nat) (A : Option Addr) (m c : Nat) (news : List Value) (hr : Row w B size A m news) (h1 : ∀ u ∈ news, u.oneCell' = true)
    (h63 : m ≤ maxLen) (hbytes : m * bytes ≤ 140737488355328) :
    ∃ v' w', (Builtin.append_ #[t, t] ty #[.slice D 0 0, .slice A m c]).run P w = .ok v' w' ∧ w.grownBy w' none ∧ ((m = 0 ∧ v' = .slice D 0 0) ∨ w'.ownsRow w.heap.size e size v' m news) := by
  rcases Nat.eq_zero_or_pos m with h0 | h0
  · subst h0
    exact ⟨_, w, run_app_zero w t ty e i ht hi D A c 0, gb_refl w _, .inl ⟨rfl, rfl⟩⟩
  · cases D with
    | none =>
      obtain ⟨v', w', hrun, h2, h3, _⟩ := run_app (P := P) w w.heap.size t ty e i z size bytes ht hi hz hsize hby hzs hsz (.slice none 0 0) 0 [] (World.ownsRow_nil _ _ _ _) B A m c news hr h1 (by omega) (by rw [Nat.zero_add]; exact hbytes) (Nat.le_refl _)
      exact ⟨v', w', hrun, h3, .inr (by simpa using h2)⟩
    | some b =>
      obtain ⟨g, o, rfl, _, hc⟩ := hr.at_ h0
      obtain ⟨v', w', hrun, h2, h3⟩ := run_append_arg_grows (P := P) w t ty e i z size bytes ht hi hz hsize hby hzs hsz b 0 0 [] (by simp) (by simp) ⟨g, o, none⟩ m c news hr.len
        (fun j u hu => by
          have hj : j < news.length := by
            rcases Nat.lt_or_ge j news.length with h | h
            · exact h
            · rw [List.getElem?_eq_none h] at hu; cases hu
          rw [Addr.add_lit, hc j (by rw [← hr.len]; exact hj)]; exact hu) (by omega) (by omega) (by rw [Nat.zero_add]; exact hbytes)
      exact ⟨v', w', hrun, h3, .inr (by simpa using h2)⟩
end

theorem wp_clone {P : Program} (w : World) {o : Oper} {a : Act} {K : Act → World → Prop} {Q : Exit → Act → World → Prop} (s x : Operand) (t : TypeId)
    (ho : o.op = .call { callee := .builtin .append, args := #[s, x], argTypes := #[t, t] })
    (e : TypeId) (i : TypeInfo) (z : Value) (size bytes : Nat) (ht : P.underlying t = some (.slice e)) (hi : P.info? e = some i) (hz : i.zero = some z)
    (hsize : i.size = size) (hby : i.bytes = bytes) (hzs : z.cells.size = size) (hsz : 0 < size) (D : Option Addr) (hs : a.eval s = .slice D 0 0)
    (B : Nat) (A : Option Addr) (m c : Nat) (news : List Value) (hx : a.eval x = .slice A m c) (hr : Row w B size A m news) (h1 : ∀ u ∈ news, u.oneCell' = true)
    (h63 : m ≤ maxLen) (hbytes : m * bytes ≤ 140737488355328)
    (h : ∀ v' w', w.grownBy w' none → ((m = 0 ∧ v' = .slice D 0 0) ∨ w'.ownsRow w.heap.size e size v' m news) → K (a.put o.dst v') w') : o.wp P a w K Q := by
  obtain ⟨v', w', hrun, h2, h3⟩ := run_clone (P := P) w t o.type e i z size bytes ht hi hz hsize hby hzs hsz D B A m c news hr h1 h63 hbytes
  unfold Oper.wp execOp
  simp only [ho, resolve, invoke, builtin, Sem.run_bind, Sem.run_pure, Result.andThen_ok, List.map_toArray, List.map_cons, List.map_nil, hs, hx, hrun]
  exact h v' w' h2 h3

theorem wpList_clone {P : Program} (w : World) {ops : Array Oper} {rest : List Oper} {o : Oper} {a : Act} {Q : Exit → Act → World → Prop} (hgd : o.guard = none) (s x : Operand) (t : TypeId)
    (ho : o.op = .call { callee := .builtin .append, args := #[s, x], argTypes := #[t, t] })
    (e : TypeId) (i : TypeInfo) (z : Value) (size bytes : Nat) (ht : P.underlying t = some (.slice e)) (hi : P.info? e = some i) (hz : i.zero = some z)
    (hsize : i.size = size) (hby : i.bytes = bytes) (hzs : z.cells.size = size) (hsz : 0 < size) (D : Option Addr) (hs : a.eval s = .slice D 0 0)
    (B : Nat) (A : Option Addr) (m c : Nat) (news : List Value) (hx : a.eval x = .slice A m c) (hr : Row w B size A m news) (h1 : ∀ u ∈ news, u.oneCell' = true)
    (h63 : m ≤ maxLen) (hbytes : m * bytes ≤ 140737488355328)
    (h : ∀ v' w', w.grownBy w' none → ((m = 0 ∧ v' = .slice D 0 0) ∨ w'.ownsRow w.heap.size e size v' m news) → wpList P ops Q rest (a.put o.dst v') w') : wpList P ops Q (o :: rest) a w :=
  wpList_plain hgd fun _ hK => wp_clone w s x t ho e i z size bytes ht hi hz hsize hby hzs hsz D hs B A m c news hx hr h1 h63 hbytes fun v' w' h2 h3 => hK _ _ (h v' w' h2 h3)
end Go.Proofs.Ytnedgjdhpdejdaa

namespace Go.Proofs.Ytnedgjdhpdejdaa
set_option maxRecDepth 100000
open Go.RowKit

/-! slices.Clone at labels -/
theorem lblCells_one (l : List Lbl) : ∀ u ∈ lblCells l, u.oneCell' = true := by
  intro u hu
  simp only [lblCells, Lbl.cells, List.mem_flatMap, List.mem_cons, List.not_mem_nil, or_false] at hu
  obtain ⟨s, _, rfl | rfl⟩ := hu <;> rfl

end Go.Proofs.Ytnedgjdhpdejdaa
