/- match: Value, Name, Matches, walked. Condition: the texts are no longer than memory. -/
import Derived.Test.YtalnndenncnbdaaMatM
namespace Go.Proofs.Ytalnndenncnbdaa
set_option maxRecDepth 100000
open Go.RowKit

theorem fit1_any (bx : Nat) (value v : ByteArray) (w : World) (h1 : Whole1 w bx 9 #[.string value]) :
    Calls Try.prog 12 #[.string v, .pointer (some ⟨bx, 0, none⟩)] w fun e w' => e = .returned (.bool (decide (v = value))) ∧ Below w.heap.size w w' := by
  have c0 := h1.cell 0
  have e0 : (v.toList == value.toList) = decide (v = value) := str_eq v value
  clear h1
  obtain ⟨B, hB⟩ : ∃ B, decide (v = value) = B := ⟨_, rfl⟩
  simp only [hB]
  rw [hB] at e0
  clear hB
  go_enter Try.func12, Try.ntmps12
  go_wp2_with fail
  go_ret
  exact ⟨rfl, Below.refl _ _⟩
theorem fit2_any (nb p : Nat) (t : Tr) (v : ByteArray) (w : World) (h1 : Whole1 w nb 46 #[.pointer (some ⟨p, 0, none⟩)]) (h2 : IsTr w p t) (hv : v.size ≤ 140737488355328) :
    Calls Try.prog 14 #[.string v, .pointer (some ⟨nb, 0, none⟩)] w fun e w' => e = .returned (.bool (matT t (bytesN v))) ∧ Below w.heap.size w w' := by
  have c0 := h1.cell 0
  have S1 := hidden (match_any p t v w h2 hv)
  clear h1 h2
  go_enter Try.func14, Try.ntmps14
  go_wp2_with fail
  refine S1.out.mono ?_
  rintro e w1 ⟨rfl, b1⟩
  go_wp2_with fail
  go_ret
  exact ⟨rfl, b1⟩
set_option maxHeartbeats 1600000 in
theorem turnedv_any (tb : Nat) (fv0 : Value) (F0 : ByteArray → Bool) (v : ByteArray) (w : World) (h1 : Whole1 w tb 32 #[fv0]) (h2 : FitB w fv0 F0) (hv : v.size ≤ 140737488355328) :
    Calls Try.prog 32 #[.string v, .pointer (some ⟨tb, 0, none⟩)] w fun e w' => e = .returned (.bool (!F0 v)) ∧ Below w.heap.size w w' := by
  rcases h2 with ⟨bx, value, rfl, k1, rfl⟩ | ⟨nb, p, t, rfl, k1, k2, rfl⟩
  · have S1 := hidden (fit1_any bx value v w k1)
    have c0 := h1.cell 0
    clear h1 k1
    obtain ⟨B, hB⟩ : ∃ B, decide (v = value) = B := ⟨_, rfl⟩
    rw [hB] at S1
    simp only [hB]
    clear hB
    go_enter Try.func32, Try.ntmps32
    go_wp2_with fail
    refine S1.out.mono ?_
    rintro e w1 ⟨rfl, b1⟩
    go_wp2_with fail
    go_ret
    exact ⟨rfl, b1⟩
  · have S1 := hidden (fit2_any nb p t v w k1 k2 hv)
    have c0 := h1.cell 0
    clear h1 k1 k2
    go_enter Try.func32, Try.ntmps32
    go_wp2_with fail
    refine S1.out.mono ?_
    rintro e w1 ⟨rfl, b1⟩
    go_wp2_with fail
    go_ret
    exact ⟨rfl, b1⟩
set_option maxHeartbeats 1600000 in
theorem mvalue_any (M : Nat) (kind : Int) (name value : ByteArray) (F : ByteArray → Bool) (v : ByteArray) (w : World) (h : MatAt w M kind name value F) (hv : v.size ≤ 140737488355328) :
    Calls Try.prog 7 #[.pointer (some ⟨M, 0, none⟩), .string v] w fun e w' => e = .returned (.bool (F v)) ∧ Below w.heap.size w w' := by
  obtain ⟨fv, h1, h2⟩ := h
  have c3 := h1.cell 3
  clear h1
  rcases h2 with (⟨bx, val, rfl, k1, rfl⟩ | ⟨nb, p, t, rfl, k1, k2, rfl⟩) | ⟨tb, fv0, F0, rfl, k1, k2, rfl⟩
  · have S1 := hidden (fit1_any bx val v w k1)
    clear k1
    obtain ⟨B, hB⟩ : ∃ B, decide (v = val) = B := ⟨_, rfl⟩
    rw [hB] at S1
    simp only [hB]
    clear hB
    go_enter Try.func7, Try.ntmps7
    go_wp2_with fail
    refine S1.out.mono ?_
    rintro e w1 ⟨rfl, b1⟩
    go_wp2_with fail
    go_ret
    exact ⟨rfl, b1⟩
  · have S1 := hidden (fit2_any nb p t v w k1 k2 hv)
    clear k1 k2
    go_enter Try.func7, Try.ntmps7
    go_wp2_with fail
    refine S1.out.mono ?_
    rintro e w1 ⟨rfl, b1⟩
    go_wp2_with fail
    go_ret
    exact ⟨rfl, b1⟩
  · have S1 := hidden (turnedv_any tb fv0 F0 v w k1 k2 hv)
    clear k1 k2
    obtain ⟨B, hB⟩ : ∃ B, (!F0 v) = B := ⟨_, rfl⟩
    rw [hB] at S1
    simp only [hB]
    clear hB
    go_enter Try.func7, Try.ntmps7
    go_wp2_with fail
    refine S1.out.mono ?_
    rintro e w1 ⟨rfl, b1⟩
    go_wp2_with fail
    go_ret
    exact ⟨rfl, b1⟩
theorem mname_any (M : Nat) (kind : Int) (name value : ByteArray) (F : ByteArray → Bool) (w : World) (h : MatAt w M kind name value F) :
    Calls Try.prog 18 #[.pointer (some ⟨M, 0, none⟩)] w fun e w' => e = .returned (.string name) ∧ w' = w := by
  obtain ⟨fv, h1, _⟩ := h
  have c1 := h1.cell 1
  clear h1
  go_enter Try.func18, Try.ntmps18
  go_wp2_with fail
  go_ret
  exact ⟨rfl, rfl⟩
theorem getL_sz {l : List Lbl} {nm : ByteArray} (h : ∀ x ∈ l, x.name.size ≤ 140737488355328 ∧ x.value.size ≤ 140737488355328) : (getL l nm).size ≤ 140737488355328 := by
  induction l with
  | nil => rw [getL]; exact Nat.zero_le _
  | cons x l ih =>
    rw [getL]
    split
    · exact (h x (by simp)).2
    · exact ih fun y hy => h y (by simp [hy])
set_option maxHeartbeats 1600000 in
theorem mmatches_any (M : Nat) (kind : Int) (name value : ByteArray) (F : ByteArray → Bool) (A : Option Addr) (n c : Nat) (l : List Lbl) (w : World) (h : MatAt w M kind name value F) (hl : LbF w A n l) :
    Calls Try.prog 8 #[.pointer (some ⟨M, 0, none⟩), .slice A n c] w fun e w' => e = .returned (.bool (F (getL l name))) ∧ Below w.heap.size w w' := by
  have S1 := hidden (mname_any M kind name value F w h)
  have S2 := hidden (lget_any A n c l name w hl)
  have H := hidden h
  have HV := hidden (getL_sz (nm := name) hl.sz)
  clear h hl
  go_enter Try.func8, Try.ntmps8
  go_wp2_with (first
    | (go_at_call 18; refine S1.out.mono ?_; rintro e w1 ⟨rfl, rfl⟩)
    | (go_at_call 17; refine S2.out.mono ?_; rintro e w2 ⟨rfl, b2⟩; have HB2 := hidden b2; have S3 := hidden (mvalue_any M kind name value F (getL l name) w2 (H.out.on b2) HV.out); clear b2)
    | (go_at_call 7; refine S3.out.mono ?_; rintro e w3 ⟨rfl, b3⟩))
  go_ret
  exact ⟨rfl, HB2.out.trans (b3.mono HB2.out.size)⟩
end Go.Proofs.Ytalnndenncnbdaa
