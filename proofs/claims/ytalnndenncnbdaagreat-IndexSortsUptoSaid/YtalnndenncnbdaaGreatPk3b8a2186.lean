/- index: the calls of a nil index, walked. No condition. -/
import Derived.Test.YtalnndenncnbdaaGreatPk74340dd1
import Derived.Test.YtalnndenncnbdaaGreatPk81fb0821
namespace Go.Proofs.YtalnndenncnbdaaGreat
set_option maxRecDepth 100000
open Go.RowKit

theorem nil_add (A : Option Addr) (n c : Nat) (w : World) : Calls Tryz.prog 28 #[.pointer none, .slice A n c] w fun e w' => e = .returned (.tuple #[.int .i64 0, .bool false, .int .i64 1]) ∧ w = w' := by
  go_enter Tryz.func28, Tryz.ntmps28
  go_wp2_with fail
  go_ret3
  exact ⟨rfl, rfl⟩
theorem nil_find (A : Option Addr) (n c : Nat) (l : List Lbl) (w : World) (h : LbF w A n l) (hnc : n ≤ c) : Calls Tryz.prog 11 #[.pointer none, .slice A n c] w fun e w' => e = .returned (.tuple #[.int .i64 0, .bool false]) ∧ Below w.heap.size w w' := by
  have S1 := hidden (lenc_any A n c l w h hnc)
  generalize encLb l = r at *
  obtain ⟨r1, r2⟩ := r
  clear h
  go_enter Tryz.func11, Tryz.ntmps11
  go_wp2_with fail
  refine S1.out.mono ?_
  rintro e w1 ⟨rfl, b1⟩
  have B1 := hidden b1
  clear S1 b1
  go_wp2_with fail
  go_ret2
  exact ⟨rfl, B1.out⟩
theorem nil_len (w : World) : Calls Tryz.prog 26 #[.pointer none] w fun e w' => e = .returned (.int .i64 0) ∧ w = w' := by
  go_enter Tryz.func26, Tryz.ntmps26
  go_wp2_with fail
  go_ret
  exact ⟨rfl, rfl⟩
theorem nil_set (w : World) : Calls Tryz.prog 10 #[.pointer none, .int .i64 0] w fun e w' => e = .returned (.tuple #[.slice none 0 0, .bool false]) ∧ w = w' := by
  have S1 := hidden (nil_len w)
  go_enter Tryz.func10, Tryz.ntmps10
  go_wp2_with fail
  refine S1.out.mono ?_
  rintro e w1 ⟨rfl, rfl⟩
  go_wp2_with fail
  go_ret2
  exact ⟨rfl, rfl⟩
theorem nil_select (w : World) (v : Value) : Calls Tryz.prog 25 #[.pointer none, v] w fun e w' => e = .returned (.slice none 0 0) ∧ w = w' := by
  go_enter Tryz.func25, Tryz.ntmps25
  go_wp2_with fail
  go_ret
  exact ⟨rfl, rfl⟩
theorem nil_names (w : World) : Calls Tryz.prog 17 #[.pointer none] w fun e w' => e = .returned (.slice none 0 0) ∧ w = w' := by
  go_enter Tryz.func17, Tryz.ntmps17
  go_wp2_with fail
  go_ret
  exact ⟨rfl, rfl⟩
theorem nil_values (v : Value) (w : World) : Calls Tryz.prog 22 #[.pointer none, v] w fun e w' => e = .returned (.slice none 0 0) ∧ w = w' := by
  go_enter Tryz.func22, Tryz.ntmps22
  go_wp2_with fail
  go_ret
  exact ⟨rfl, rfl⟩
theorem nil_sorted (w : World) : Calls Tryz.prog 20 #[.pointer none] w fun e w' => e = .returned (.slice none 0 0) ∧ Below w.heap.size w w' := by
  go_enter Tryz.func20, Tryz.ntmps20
  go_wp2_with fail
  go_ret
  exact ⟨rfl, (Below.refl _ _).alloc (Nat.le_refl _) _⟩
end Go.Proofs.YtalnndenncnbdaaGreat
