/- The reference's Compare at labels that are the same, and its Series at lists that are alike. No condition. -/
import Derived.Test.YtohocdbneopooaaSerMem
namespace Go.Proofs.Ytohocdbneopooaa
set_option maxRecDepth 100000
open Go.RowKit

theorem lbl_cells_at {w wr : World} {A : Option Addr} {n : Nat} {l : List Lbl} {B : Nat} (hr : Row w B 2 A n (lblCells l)) (hl : l.length = n) (hb : Below B w wr) (k : Nat) (hk : k < n) :
    ∃ gs o, A = some ⟨gs, o, none⟩ ∧ gs < B ∧ ∃ x, l[k]? = some x ∧ wr.cell? ⟨gs, o + k * 2, none⟩ = some (.string x.name) ∧ wr.cell? ⟨gs, o + k * 2 + 1, none⟩ = some (.string x.value) := by
  obtain ⟨gs, o, rfl, hgs, hc⟩ := hr.at_ (by omega)
  have hkl : k < l.length := by omega
  have hs := lblCells_at l k hkl
  exact ⟨gs, o, rfl, hgs, l[k], List.getElem?_eq_getElem hkl, ((hb.cell (p := ⟨gs, o + k * 2, none⟩) hgs).trans (hc (k * 2) (by omega))).trans hs.1, ((hb.cell (p := ⟨gs, o + (k * 2 + 1), none⟩) hgs).trans (hc (k * 2 + 1) (by omega))).trans hs.2⟩

theorem bytes_irrefl : ∀ l : List UInt8, Op.bytesLess l l = false
  | [] => rfl
  | a :: l => by simp [Op.bytesLess, bytes_irrefl l]

set_option maxHeartbeats 1600000 in
theorem rcompare_same (A B : Option Addr) (n c1 c2 : Nat) (l : List Lbl) (w : World) (b1 b2 : Nat) (hr : Row w b1 2 A n (lblCells l)) (hr2 : Row w b2 2 B n (lblCells l)) (hl : l.length = n) (hn : n ≤ 4611686018427387904) :
    Calls Try.prog 46 #[.slice A n c1, .slice B n c2] w fun e w' => e = .returned (.int .i64 0) ∧ ∃ m, w' = w.drewN m := by
  have hL := hidden hl
  clear hl
  go_enter Try.func46, Try.ntmps46
  go_wp2
  go_loopw [5] (fun i wr => ∃ k : Nat, k ≤ n ∧ i = .int .i64 k ∧ ∃ m, wr = w.drewN m) (fun i _ => n - (intOf i).toNat)
  case atStart => exact ⟨0, Nat.zero_le _, rfl, 0, rfl⟩
  case round =>
    obtain ⟨k, hk, rfl, m, rfl⟩ := hrel
    by_cases hlt : k < n
    · obtain ⟨gs, o, rfl, _, x, hx, d0, d1⟩ := lbl_cells_at hr hL.out (Below.refl b1 w) k hlt
      obtain ⟨gt, p, rfl, _, y, hy, e0, e1⟩ := lbl_cells_at hr2 hL.out (Below.refl b2 w) k hlt
      have hxy := hx.symm.trans hy
      injection hxy with hxy
      subst hxy
      obtain ⟨x0, x1⟩ := x
      simp only at d0 d1 e0 e1
      have hlt' : (k : Int) < (n : Int) := by omega
      have hk0 : (0 : Int) ≤ (k : Int) := by omega
      clear hx hy hr hr2
      go_upto_region 4 with (fail)
      have t0 := bytes_irrefl x0.toList
      have t1 := bytes_irrefl x1.toList
      go_quiet (fail)
      go_wp2_with fail
      go_quiet (fail)
      go_wp2_with fail
      go_quiet (fail)
      go_wp2_with fail
      go_quiet (fail)
      go_wp2_with fail
      go_roundw
      case rel => exact ⟨k + 1, by omega, by go_num, _, rfl⟩
      case measure => simp [intOf]; omega
    · obtain rfl : k = n := by omega
      go_wp2
      go_ret
      exact ⟨rfl, m, rfl⟩

set_option maxHeartbeats 3200000 in
theorem rseries_yes (A B : Option Addr) (n c1 c2 : Nat) (L M : List Ser) (w : World) (b1 b2 : Nat) (hr : Row w b1 3 A n (serCells L)) (hr2 : Row w b2 3 B n (serCells M)) (hl : L.length = n) (hm : M.length = n) (hn : n ≤ 4611686018427387904)
    (hA : ∀ x ∈ L, x.At w b1) (hB : ∀ x ∈ M, x.At w b2) (hs : ∀ (i : Nat) (x y : Ser), L[i]? = some x → M[i]? = some y → y.Same x) (hz : ∀ x ∈ L, x.lab.n ≤ 4611686018427387904 ∧ x.smp.n ≤ 4611686018427387904 ∧ x.win.n ≤ 4611686018427387904) :
    Calls Try.prog 18 #[.slice A n c1, .slice B n c2] w fun e w' => e = .returned (.bool true) ∧ ∃ m, w' = w.drewN m := by
  have hL := hidden hl
  have hM := hidden hm
  clear hl hm
  go_enter Try.func18, Try.ntmps18
  have hnn : ((n : Int) != (n : Int)) = false := by simp
  go_wp2
  go_loopw [5] (fun i wr => ∃ k : Nat, k ≤ n ∧ i = .int .i64 k ∧ ∃ m, wr = w.drewN m) (fun i _ => n - (intOf i).toNat)
  case atStart => exact ⟨0, Nat.zero_le _, rfl, 0, rfl⟩
  case round =>
    obtain ⟨k, hk, rfl, m, hwm⟩ := hrel
    by_cases hlt : k < n
    · have hrA := hr.drewN m
      have hrB := hr2.drewN m
      rw [← hwm] at hrA hrB
      obtain ⟨gs, o, rfl, _, x, hx, c0, c1, c2⟩ := ser_cells_at hrA hL.out (Below.refl b1 wr) k hlt
      obtain ⟨gt, p, rfl, _, y, hy, d0, d1, d2⟩ := ser_cells_at hrB hM.out (Below.refl b2 wr) k hlt
      obtain ⟨s0, s1, s2⟩ := hs k x y hx hy
      obtain ⟨z0, z1, z2⟩ := hz x (List.mem_of_getElem? hx)
      obtain ⟨⟨_, xl, xr⟩, ⟨_, xsl, xsr⟩, ⟨_, xwl, xwr⟩⟩ := hA x (List.mem_of_getElem? hx)
      obtain ⟨⟨_, yl, yr⟩, ⟨_, ysl, ysr⟩, ⟨_, ywl, ywr⟩⟩ := hB y (List.mem_of_getElem? hy)
      obtain ⟨⟨Al, nl, cl, ll⟩, ⟨As, ns, cs, ls⟩, ⟨Aw, nw, cw, lw⟩⟩ := x
      obtain ⟨⟨Bl, ml, dl, ll'⟩, ⟨Bs, ms, ds, ls'⟩, ⟨Bw, mw, dw, lw'⟩⟩ := y
      simp only at s0 s1 s2 z0 z1 z2 xl xr xsl xsr xwl xwr yl yr ysl ysr ywl ywr
      subst s0 s1 s2
      obtain rfl : nl = ml := by omega
      obtain rfl : ns = ms := by omega
      obtain rfl : nw = mw := by omega
      simp only [Sl.val] at c0 c1 c2 d0 d1 d2
      have hlt' : (k : Int) < (n : Int) := by omega
      have hk0 : (0 : Int) ≤ (k : Int) := by omega
      have n1 : ((ns : Int) != (ns : Int)) = false := by simp
      have n2 : ((nw : Int) != (nw : Int)) = false := by simp
      have HW := hidden hwm
      have S2 : ∀ q, Calls Try.prog 46 #[.slice Al nl cl, .slice Bl nl dl] (wr.drewN q) fun e w' => e = .returned (.int .i64 0) ∧ ∃ r, w' = (wr.drewN q).drewN r :=
        fun q => rcompare_same Al Bl nl cl dl _ (wr.drewN q) b1 b2 (by rw [HW.out]; exact (xr.drewN m).drewN q) (by rw [HW.out]; exact (yr.drewN m).drewN q) xl z0
      clear hwm hrA hrB
      go_upto_region 6 with (fail)
      go_quiet ((go_at_call 46; refine Calls.quiet_of (S2 _)))
      clear S2 hx hy
      have hB1 : ∀ q, Below b1 w (wr.drewN q) := fun q => by rw [HW.out]; exact below_drewN (below_drewN (Below.refl _ _) m) q
      have hB2 : ∀ q, Below b2 w (wr.drewN q) := fun q => by rw [HW.out]; exact below_drewN (below_drewN (Below.refl _ _) m) q
      go_wp2_with fail
      go_quiet (fail)
      go_wp2_with fail
      go_loopw [7] (fun i wx => ∃ (j q : Nat), j ≤ ns ∧ i = .int .i64 j ∧ wx = wr.drewN q) (fun i _ => ns - (intOf i).toNat)
      case atStart => exact ⟨0, _, Nat.zero_le _, rfl, World.drewN_drewN _ _ _⟩
      case round =>
        obtain ⟨j, q, hj, rfl, rfl⟩ := hrel
        by_cases hjn : j < ns
        · obtain ⟨g7, o7, rfl, y, hys, u0, u1⟩ := smp_cells_at xsr xsl (hB1 0) j hjn
          obtain ⟨g8, o8, rfl, z, hzs, v0, v1⟩ := smp_cells_at ysr xsl (hB2 0) j hjn
          have hyz := hys.symm.trans hzs
          injection hyz with hyz
          subst hyz
          obtain ⟨y0, y1⟩ := y
          have hjz : (j : Int) < (ns : Int) := by omega
          have hj0 : (0 : Int) ≤ (j : Int) := by omega
          simp only at u0 v0 u1 v1
          have a0 : wr.cell? _ = _ := u0
          have e0 : wr.cell? _ = _ := v0
          have a1 : wr.cell? _ = _ := u1
          have e1 : wr.cell? _ = _ := v1
          clear u0 v0 u1 v1 hys hzs
          go_wp2_with fail
          go_quiet (fail)
          go_wp2_with fail
          go_roundw
          case rel => exact ⟨j + 1, _, by omega, by go_num, rfl⟩
          case measure => simp [intOf]; omega
        · obtain rfl : ns = j := by omega
          go_wp2_with fail
          go_loopw [8] (fun i wx => ∃ (j q : Nat), j ≤ nw ∧ i = .int .i64 j ∧ wx = wr.drewN q) (fun i _ => nw - (intOf i).toNat)
          case atStart => exact ⟨0, _, Nat.zero_le _, rfl, rfl⟩
          case round =>
            obtain ⟨j, q, hj, rfl, rfl⟩ := hrel
            by_cases hjn : j < nw
            · obtain ⟨g7, o7, rfl, _, y, hys, u0, u1, u2, u3, u4, u5⟩ := win_cells_at xwr xwl (hB1 0) j hjn
              obtain ⟨g8, o8, rfl, _, z, hzs, v0, v1, v2, v3, v4, v5⟩ := win_cells_at ywr xwl (hB2 0) j hjn
              have hyz := hys.symm.trans hzs
              injection hyz with hyz
              subst hyz
              obtain ⟨y0, y1, y2, y3, y4, y5⟩ := y
              have hjz : (j : Int) < (nw : Int) := by omega
              have hj0 : (0 : Int) ≤ (j : Int) := by omega
              simp only at u0 v0 u1 v1 u2 v2 u3 v3 u4 v4 u5 v5
              have a0 : wr.cell? _ = _ := u0
              have e0 : wr.cell? _ = _ := v0
              have a1 : wr.cell? _ = _ := u1
              have e1 : wr.cell? _ = _ := v1
              have a2 : wr.cell? _ = _ := u2
              have e2 : wr.cell? _ = _ := v2
              have a3 : wr.cell? _ = _ := u3
              have e3 : wr.cell? _ = _ := v3
              have a4 : wr.cell? _ = _ := u4
              have e4 : wr.cell? _ = _ := v4
              have a5 : wr.cell? _ = _ := u5
              have e5 : wr.cell? _ = _ := v5
              clear u0 v0 u1 v1 u2 v2 u3 v3 u4 v4 u5 v5 hys hzs
              go_wp2_with fail
              go_quiet (fail)
              go_wp2_with fail
              go_roundw
              case rel => exact ⟨j + 1, _, by omega, by go_num, rfl⟩
              case measure => simp [intOf]; omega
            · obtain rfl : nw = j := by omega
              go_wp2_with fail
              go_roundw
              case rel => exact ⟨k + 1, by omega, by go_num, _, by rw [HW.out, World.drewN_drewN]⟩
              case measure => simp [intOf]; omega
    · obtain rfl : n = k := by omega
      go_wp2
      go_ret
      exact ⟨rfl, m, rfl⟩
end Go.Proofs.Ytohocdbneopooaa
