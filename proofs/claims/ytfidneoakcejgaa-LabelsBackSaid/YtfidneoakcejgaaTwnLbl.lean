/- The law's helpers ref, twin, alike at labels: what they return. Condition: the rows are within the reach. -/
import Derived.Test.YtfidneoakcejgaaSerMem
import Derived.Test.YtfidneoakcejgaaClnLbl

namespace Go.Proofs.Ytfidneoakcejgaa.TwnLbl
set_option maxRecDepth 100000
open Go.RowKit

theorem hk (x : Lbl) : x.cells.length = 2 := rfl
theorem rinfo : (Try.prog.info? 77).map (fun i => (i.zero, i.size, i.bytes)) = some (some (.agg #[.string ByteArray.empty, .string ByteArray.empty]), 2, 32) := by kernel_rfl
theorem snoc_cells (l : List Lbl) (x : Lbl) : (l ++ [x]).flatMap Lbl.cells = l.flatMap Lbl.cells ++ [.string x.name, .string x.value] := by simp [Lbl.cells]

set_option maxHeartbeats 800000 in
theorem twin_any (A : Option Addr) (n cap : Nat) (l : List Lbl) (w : World) (hr : Row w w.heap.size 2 A n (l.flatMap Lbl.cells)) (hn : n * 32 ≤ 140737488351232) :
    Calls Try.prog 14 #[.slice A n cap] w fun e w' => ∃ v, e = .returned v ∧ w'.ownsRow w.heap.size 39 2 v n (l.flatMap Lbl.cells) ∧ Below w.heap.size w w' := by
  obtain ⟨i0, hi, hz0, hz1, hz2⟩ := info_parts ClnLbl.info
  go_enter Try.func14, Try.ntmps14
  go_wp2_with (at_builtin; refine wpList_app _ rfl _ _ 22 rfl w.heap.size 39 i0 _ 2 32 Try.underlying22 hi hz0 hz1 hz2 rfl (by decide) (.slice none 0 0) 0 [] rfl (World.ownsRow_nil _ _ _ _) w.heap.size A n cap _ rfl hr (ClnLbl.cells_one l) (by unfold maxLen; omega) (by omega) (Nat.le_refl _) ?_; intro v1 w1 hown1 hg1 hat1)
  go_ret
  exact ⟨v1, rfl, by simpa using hown1, (Below.refl _ _).grown hg1 (Nat.le_refl _) (by simp [Value.ownBlock])⟩

set_option maxHeartbeats 1600000 in
theorem ref_any (A : Option Addr) (n cap : Nat) (l : List Lbl) (w : World) (hr : Row w w.heap.size 2 A n (l.flatMap Lbl.cells)) (hl : l.length = n) (hn : n * 32 ≤ 140737488351232) :
    Calls Try.prog 17 #[.slice A n cap] w fun e w' => ∃ v, e = .returned v ∧ w'.ownsRow w.heap.size 77 2 v n (l.flatMap Lbl.cells) ∧ Below w.heap.size w w' := by
  obtain ⟨i0, hi, hz0, hz1, hz2⟩ := info_parts rinfo
  have hL := hidden hl
  have HR := hidden hr
  clear hl hr
  go_enter Try.func17, Try.ntmps17
  go_wp2
  go_loopw [3, 8] (fun v i wr => ∃ k : Nat, k ≤ n ∧ i = .int .i64 k ∧ wr.ownsRow w.heap.size 77 2 v k ((l.take k).flatMap Lbl.cells) ∧ Below w.heap.size w wr) (fun _ i _ => n - (intOf i).toNat)
  case atStart => exact ⟨0, Nat.zero_le _, rfl, World.ownsRow_nil _ _ _ _, Below.refl _ _⟩
  case round =>
    obtain ⟨k, hk1, rfl, hown, hb⟩ := hrel
    by_cases hlt : k < n
    · obtain ⟨gs, o, x, rfl, hgs, hx, hcl⟩ := row_at hk (HR.out.below hb) hL.out k hlt
      have c0 : wr.cell? ⟨gs, o + k * 2, none⟩ = some (.string x.name) := hcl 0 (by omega)
      have c1 : wr.cell? ⟨gs, o + k * 2 + 1, none⟩ = some (.string x.value) := hcl 1 (by omega)
      have hT := hidden (take_snoc? hx)
      have hbs := hb.size
      clear hx hcl
      have hfr := Row.fresh (wr.alloc (Obj.cells #[.string x.name, .string x.value] 39)) 77 2 1 [.string x.name, .string x.value] rfl
      rw [World.size_alloc] at hfr
      go_wp2_with (at_builtin; refine wpList_app _ rfl _ _ 27 rfl w.heap.size 77 i0 _ 2 32 Try.underlying27 hi hz0 hz1 hz2 rfl (by decide) _ _ _ rfl ((hown.alloc _).alloc _) _ _ _ _ _ rfl hfr (by simp [Value.oneCell']) (by unfold maxLen; omega) (by omega) (by simp; omega) ?_; intro v1 w1 hown1 hg1 hat1)
      go_roundw
      case rel =>
        refine ⟨k + 1, by omega, by go_num, ?_, ?_⟩
        · rw [hT.out, snoc_cells]; exact hown1
        · exact ((hb.alloc hbs _).alloc (by simp; omega) _).grown hg1 (by simp; omega) (fun j hj => (hown.lt j hj).1)
      case measure => simp [intOf]; omega
    · obtain rfl : n = k := by omega
      go_wp2
      go_ret
      exact ⟨_, rfl, by rw [List.take_of_length_le (by rw [hL.out]; exact Nat.le_refl _)] at hown; exact hown, hb⟩

set_option maxHeartbeats 1600000 in
theorem alike_yes (A B : Option Addr) (n c1 c2 : Nat) (l : List Lbl) (w : World) (hr : Row w w.heap.size 2 A n (l.flatMap Lbl.cells)) (hr2 : Row w w.heap.size 2 B n (l.flatMap Lbl.cells)) (hl : l.length = n) (hn : n ≤ 4611686018427387904) :
    Calls Try.prog 19 #[.slice A n c1, .slice B n c2] w fun e w' => e = .returned (.bool true) ∧ ∃ m, w' = w.drewN m := by
  have hL := hidden hl
  have HR := hidden hr
  have HR2 := hidden hr2
  have hnn : ((n : Int) != (n : Int)) = false := by simp
  clear hl hr hr2
  go_enter Try.func19, Try.ntmps19
  go_wp2
  go_loopw [13] (fun i wr => ∃ q : Nat, q ≤ n ∧ i = .int .i64 q ∧ (∃ m, wr = w.drewN m)) (fun i _ => n - (intOf i).toNat)
  case atStart => exact ⟨0, Nat.zero_le _, rfl, 0, rfl⟩
  case round =>
    obtain ⟨q, hq1, rfl, m, rfl⟩ := hrel
    by_cases hlt : q < n
    · obtain ⟨gs, o, x, rfl, _, hx, hcl⟩ := row_at hk HR.out hL.out q hlt
      obtain ⟨gt, p, y, rfl, _, hy, hdl⟩ := row_at hk HR2.out hL.out q hlt
      obtain rfl : x = y := Option.some.inj (hx.symm.trans hy)
      have c0 : w.cell? ⟨gs, o + q * 2, none⟩ = some (.string x.name) := hcl 0 (by omega)
      have c1 : w.cell? ⟨gs, o + q * 2 + 1, none⟩ = some (.string x.value) := hcl 1 (by omega)
      have d0 : w.cell? ⟨gt, p + q * 2, none⟩ = some (.string x.name) := hdl 0 (by omega)
      have d1 : w.cell? ⟨gt, p + q * 2 + 1, none⟩ = some (.string x.value) := hdl 1 (by omega)
      have hlt' : (q : Int) < (n : Int) := by omega
      have hq0 : (0 : Int) ≤ (q : Int) := by omega
      clear hx hy hcl hdl
      go_wp2
      go_quiet (fail)
      go_wp2
      go_roundw
      case rel => exact ⟨q + 1, by omega, by go_num, m + nq, rfl⟩
      case measure => simp [intOf]; omega
    · have hlt' : ¬ (q : Int) < (n : Int) := by omega
      go_wp2
      go_ret
      exact ⟨rfl, m, rfl⟩
end Go.Proofs.Ytfidneoakcejgaa.TwnLbl
