/- regex.Parse, walked: the tree of a pattern, or the error. Condition: the pattern is no longer than memory. -/
import Derived.Test.YtalnndenncnbdaaParB
import Derived.Defers
import Derived.Recover
namespace Go.Proofs.Ytalnndenncnbdaa
set_option maxRecDepth 100000
open Go.RowKit

theorem zero_of' {P : Program} {t : TypeId} {z : Value} (h : (P.info? t).map (fun i => i.zero) = some (some z)) (w : World) : (zeroValue t).run P w = .ok z w := by
  obtain ⟨i, h1, h2⟩ := Option.map_eq_some_iff.1 h
  simp [zeroValue, typeInfo, h1, h2]
theorem ta_yes (c : Int) (t : TypeId) (w : World) : (Instr.typeAssert (.iface 26 (.int .i64 c)) t 26 true).run Try.prog w = .ok (.tuple #[.int .i64 c, .bool true]) w := by
  simp [Instr.typeAssert, run_underlying Try.underlying26]
theorem zeroE (w : World) : (zeroValue 26).run Try.prog w = .ok (.int .i64 0) w := zero_of' (by kernel_rfl) w
theorem ta_no (t : TypeId) (w : World) : (Instr.typeAssert .nilIface t 26 true).run Try.prog w = .ok (.tuple #[.int .i64 0, .bool false]) w := by
  simp [Instr.typeAssert, run_underlying Try.underlying26]
theorem kinds_apart {w : World} {g k : Nat} {t u : TypeId} {cs ds : Array Value} (h : Whole1 w g t cs) (h' : Whole1 w k u ds) (hne : t ≠ u) : g ≠ k := fun e => by
  subst e
  have := (show w.heap[g]? = some (.cells cs t (0, 0)) from h).symm.trans h'
  simp only [Option.some.injEq, Obj.cells.injEq] at this
  exact hne this.2.1
set_option maxHeartbeats 1600000 in
theorem pcatch_panicking (O E : Nat) (x y : Value) (c : Int) (w : World) (hO : Whole1 w O 46 #[x]) (hE : Whole1 w E 26 #[y]) :
    CallsD Try.prog 28 #[.pointer (some ⟨O, 0, none⟩), .pointer (some ⟨E, 0, none⟩)] (.panicking [{ v := .iface 26 (.int .i64 c), recovered := false }]) w fun e u' w' =>
      e = .returned (.tuple #[]) ∧ u' = .panicking [{ v := .iface 26 (.int .i64 c), recovered := true }] ∧ w' = (w.setCell ⟨O, 0, none⟩ (.pointer none)).setCell ⟨E, 0, none⟩ (.int .i64 c) := by
  have f0 := hO.free 0
  have c0 := hO.cell 0
  have hEO := kinds_apart hE hO (by decide)
  have hE3 := hE.off (p := ⟨O, 0, none⟩) hEO (.pointer none)
  have e0 := hE3.cell 0
  have g0 := hE3.free 0
  clear hE3 hEO
  refine callsD_of_wpS Try.func28 rfl fun c₀ cs hu => ?_
  apply wpS_seq
  apply wpS_region
  simp [wpOpsS, go_sem, recoverD, hu, Try.ntmps28, Exit.thenS, ta_yes]
  apply wpS_seq
  apply wpS_region
  simp [wpOpsS, go_sem, Exit.thenS]
  rw [show (Array.replicate 9 undef : Array Value) = #[undef, undef, undef, undef, undef, undef, undef, undef, undef] from rfl]
  simp only [List.setIfInBounds_toArray, List.set_cons_succ, List.set_cons_zero, List.append_toArray, List.cons_append, List.nil_append]
  refine wpS_cond (t := true) rfl ?_
  simp only [if_true]
  refine wpS_of_wp ?_
  go_wp2_with fail
  simp [bodyPostS, results, Try.results28]
theorem pcatch_idle (O E : Nat) (w : World) :
    CallsD Try.prog 28 #[.pointer (some ⟨O, 0, none⟩), .pointer (some ⟨E, 0, none⟩)] .returning w fun e u' w' => e = .returned (.tuple #[]) ∧ u' = .returning ∧ w' = w := by
  refine callsD_of_wpS Try.func28 rfl fun c₀ cs hu => ?_
  apply wpS_seq
  apply wpS_region
  simp [wpOpsS, go_sem, recoverD, hu, Try.ntmps28, Exit.thenS, ta_no]
  apply wpS_seq
  apply wpS_region
  simp [wpOpsS, go_sem, Exit.thenS]
  rw [show (Array.replicate 9 undef : Array Value) = #[undef, undef, undef, undef, undef, undef, undef, undef, undef] from rfl]
  simp only [List.setIfInBounds_toArray, List.set_cons_succ, List.set_cons_zero, List.append_toArray, List.cons_append, List.nil_append]
  refine wpS_cond (t := false) rfl ?_
  simp only [Bool.false_eq_true, if_false]
  refine wpS_of_wp (wp_skip ?_)
  cases c₀
  simp only at hu
  subst hu
  simp [bodyPostS, results, Try.results28]
end Go.Proofs.Ytalnndenncnbdaa
