/- The reference's Compare at labels that are the same, and its Series at lists that are alike. No condition. -/
import Derived.Test.YtfidneoakcejgaaSerMem
namespace Go.Proofs.Ytfidneoakcejgaa
set_option maxRecDepth 100000
open Go.RowKit

theorem lbl_cells_at {w wr : World} {A : Option Addr} {n : Nat} {l : List Lbl} {B : Nat} (hr : Row w B 2 A n (lblCells l)) (hl : l.length = n) (hb : Below B w wr) (k : Nat) (hk : k < n) :
    ∃ gs o, A = some ⟨gs, o, none⟩ ∧ gs < B ∧ ∃ x, l[k]? = some x ∧ wr.cell? ⟨gs, o + k * 2, none⟩ = some (.string x.name) ∧ wr.cell? ⟨gs, o + k * 2 + 1, none⟩ = some (.string x.value) := by
  obtain ⟨gs, o, rfl, hgs, hc⟩ := hr.at_ (by omega)
  have hkl : k < l.length := by omega
  have hs := lblCells_at l k hkl
  exact ⟨gs, o, rfl, hgs, l[k], List.getElem?_eq_getElem hkl, ((hb.cell (p := ⟨gs, o + k * 2, none⟩) hgs).trans (hc (k * 2) (by omega))).trans hs.1, ((hb.cell (p := ⟨gs, o + (k * 2 + 1), none⟩) hgs).trans (hc (k * 2 + 1) (by omega))).trans hs.2⟩

theorem bytes_irrefl : ∀ l : List UInt8, Op.bytesLess l l = false
  | [] => rfl
  | a :: l => by simp [Op.bytesLess, bytes_irrefl l]

set_option maxHeartbeats 1600000 in
theorem rcompare_same (A B : Option Addr) (n c1 c2 : Nat) (l : List Lbl) (w : World) (b1 b2 : Nat) (hr : Row w b1 2 A n (lblCells l)) (hr2 : Row w b2 2 B n (lblCells l)) (hl : l.length = n) (hn : n ≤ 4611686018427387904) :
    Calls Try.prog 24 #[.slice A n c1, .slice B n c2] w fun e w' => e = .returned (.int .i64 0) ∧ ∃ m, w' = w.drewN m := by
  have hL := hidden hl
  clear hl
  go_enter Try.func24, Try.ntmps24
  go_wp2
  go_loopw [5] (fun i wr => ∃ k : Nat, k ≤ n ∧ i = .int .i64 k ∧ ∃ m, wr = w.drewN m) (fun i _ => n - (intOf i).toNat)
  case atStart => exact ⟨0, Nat.zero_le _, rfl, 0, rfl⟩
  case round =>
    obtain ⟨k, hk, rfl, m, rfl⟩ := hrel
    by_cases hlt : k < n
    · obtain ⟨gs, o, rfl, _, x, hx, d0, d1⟩ := lbl_cells_at hr hL.out (Below.refl b1 w) k hlt
      obtain ⟨gt, p, rfl, _, y, hy, e0, e1⟩ := lbl_cells_at hr2 hL.out (Below.refl b2 w) k hlt
      have hxy := hx.symm.trans hy
      injection hxy with hxy
      subst hxy
      obtain ⟨x0, x1⟩ := x
      simp only at d0 d1 e0 e1
      have hlt' : (k : Int) < (n : Int) := by omega
      have hk0 : (0 : Int) ≤ (k : Int) := by omega
      clear hx hy hr hr2
      go_upto_region 4 with (fail)
      have t0 := bytes_irrefl x0.toList
      have t1 := bytes_irrefl x1.toList
      go_quiet (fail)
      go_wp2_with fail
      go_quiet (fail)
      go_wp2_with fail
      go_quiet (fail)
      go_wp2_with fail
      go_quiet (fail)
      go_wp2_with fail
      go_roundw
      case rel => exact ⟨k + 1, by omega, by go_num, _, rfl⟩
      case measure => simp [intOf]; omega
    · obtain rfl : k = n := by omega
      go_wp2
      go_ret
      exact ⟨rfl, m, rfl⟩

end Go.Proofs.Ytfidneoakcejgaa
