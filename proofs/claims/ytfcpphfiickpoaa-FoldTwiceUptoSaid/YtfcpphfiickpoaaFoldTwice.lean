/- FoldTwice: windows that are widened are the windows of the wider width, but for the Sum. Condition: what comes in is of bulk at most 1048576 (the '..Upto' form). -/
import Derived.Test.YtfcpphfiickpoaaFoldTwiceP
namespace Go.Proofs.Ytfcpphfiickpoaa
open Go.RowKit Go.WideShapes Go.ChangeShapes

theorem two_stores {w wr w7 : World} {g1 g2 b1 b2 N c5 c6 : Nat} {e1 e2 : TypeId} {xs ys : List Value} (ox : wr.ownsRow b1 e1 6 (.slice (some ⟨g1, 0, none⟩) N c5) N xs) (oy : wr.ownsRow b2 e2 6 (.slice (some ⟨g2, 0, none⟩) N c6) N ys)
    (hb : Below w.heap.size w wr) (h1 : w.heap.size ≤ g1) (h2 : w.heap.size ≤ g2) (hne : g1 ≠ g2) (j : Nat) (u : Value) (hw : (wr.setCell ⟨g1, j, none⟩ u).setCell ⟨g2, j, none⟩ u = w7) :
    w7.ownsRow b1 e1 6 (.slice (some ⟨g1, 0, none⟩) N c5) N (xs.set j u) ∧ w7.ownsRow b2 e2 6 (.slice (some ⟨g2, 0, none⟩) N c6) N (ys.set j u) ∧ Below w.heap.size w w7 := by
  subst hw
  have o1 := ox.stored j u
  have oy' := oy.kept o1.2 (.inr (by simp [Value.ownBlock]; exact fun e => hne e.symm))
  have o2 := oy'.stored j u
  exact ⟨o1.1.kept o2.2 (.inr (by simp [Value.ownBlock]; exact hne)), o2.1, (hb.setCell (p := ⟨g1, j, none⟩) h1 u).setCell (p := ⟨g2, j, none⟩) h2 u⟩

theorem wrap_wide {d m : Int} (hd : 1 ≤ d ∧ d ≤ 1000) (hm : 1 ≤ m ∧ m ≤ 20) : wrap64 (d * m) = d * m := by
  have h1 := Int.mul_le_mul hd.2 hm.2 (by omega) (by omega)
  have h2 := Int.mul_le_mul hd.1 hm.1 (by omega) (by omega)
  exact wrap64_id (by omega) (by omega)

set_option maxRecDepth 100000 in
set_option maxHeartbeats 3200000 in
theorem foldTwice_any (a t : Int) (A : Option Addr) (n c : Nat) (l : List Smp) (w : World) (hr : Row w w.heap.size 2 A n (smpCells l)) (hl : l.length = n) (hn : n * 48 ≤ 140737488351232) (hok : ∀ s ∈ l, s.ok) :
    Calls Try.prog 10 #[.int .i64 a, .int .i64 t, .slice A n c] w fun e w' => e = .returned (.bool true) ∧ Below w.heap.size w w' := by
  have hL := hidden hl
  clear hl
  go_enter Try.func10, Try.ntmps10
  go_wp2_with fail
  refine (wakes_any _).mono ?_
  rintro e w0 ⟨rfl, hb0⟩
  go_upto_region 3 with (fail)
  go_cut [0] (fun v wx => (∃ d : Int, (1 ≤ d ∧ d ≤ 1000) ∧ v = .int .i64 d) ∧ wx = w0)
  case first =>
    go_wp2_with fail
    all_goals
      go_meet
      refine ⟨⟨_, ?_, rfl⟩, rfl⟩
      omega
  case rest =>
    obtain ⟨⟨d, hd, rfl⟩, rfl⟩ := hcut
    have HD := hidden hd
    clear hd
    go_upto_region 4 with (fail)
    go_cut [7] (fun v wx => (∃ m : Int, (1 ≤ m ∧ m ≤ 20) ∧ v = .int .i64 (d * m)) ∧ wx = wc)
    case first =>
      go_wp2_with fail
      all_goals
        go_meet
        first
          | exact ⟨⟨1 + t % 20, by omega, congrArg _ (wrap_wide HD.out (by omega))⟩, rfl⟩
          | exact ⟨⟨1, by omega, congrArg _ (by rw [wrap64_id (by have := HD.out; omega) (by have := HD.out; omega), Int.mul_one])⟩, rfl⟩
    case rest =>
    obtain ⟨⟨m, hm, rfl⟩, rfl⟩ := hcut
    have hd := HD.out
    have hDb : 1 ≤ d * m ∧ d * m ≤ 20000 := by
      have h1 := Int.mul_le_mul HD.out.2 hm.2 (by omega) (by omega)
      have h2 := Int.mul_le_mul HD.out.1 hm.1 (by omega) (by omega)
      omega
    have htw := hidden (twice_law (m := m) HD.out.1 l (by rw [hL.out]; omega))
    clear hm hd
    have hsame := hidden (err_same (d := d) (D := d * m) l (by have := HD.out; omega) (by omega))
    have hwide := hidden (fun h => err_wide (d := d) (D := d * m) (l := l) (by omega) h)
    have HDB := hidden hDb
    clear hDb
    generalize d * m = D at *
    go_wp2_with fail
    refine (samples_any A n c _ wc ((hr.below hb0).more hb0.size) (smpCells_one _) (by omega)).mono ?_
    rintro e w1 ⟨v, rfl, hown1, hb1⟩
    obtain ⟨A1, c1, rfl, hc1, hr1⟩ := own_shape hown1
    have hb1' := hb0.trans (hb1.mono hb0.size)
    clear hown1
    go_wp2_with fail
    refine (windows_calls d A1 n c1 l w1 hr1 hL.out hc1 hn hok).mono ?_
    rintro e w2 ⟨v1, rfl, hG, hb2⟩
    have hb2' := hb1'.trans (hb2.mono hb1'.size)
    go_wp2_with fail
    refine (samples_any A n c _ w2 ((hr.below hb2').more hb2'.size) (smpCells_one _) (by omega)).mono ?_
    rintro e w3 ⟨v, rfl, hown3, hb3⟩
    obtain ⟨A3, c3, rfl, hc3, hr3⟩ := own_shape hown3
    have hb3' := hb2'.trans (hb3.mono hb2'.size)
    clear hown3
    go_wp2_with fail
    refine (windows_calls D A3 n c3 l w3 hr3 hL.out hc3 hn hok).mono ?_
    rintro e w4 ⟨v2, rfl, hH, hb4⟩
    have hb4' := hb3'.trans (hb4.mono hb3'.size)
    have hb24 := hb3.trans (hb4.mono hb3.size)
    have hBH : w.heap.size ≤ w3.heap.size := hb3'.size
    unfold GrpResS at hG hH
    rw [← hsame.out] at hH ⊢
    clear hb0 hb1 hb2 hb3 hb1' hb2' hb3' hr1 hr3 hsame
    by_cases hee : errOf Smp.t (fun _ => 0) d l = 0
    · rw [if_pos hee] at hG hH
      have hzero := hwide.out hee
      have hWok := hidden (smps_ok (d := d) hok (by rw [hL.out]; omega))
      rw [hee]
      clear hwide hee
      have hcnt := grp_count Smp.t d l
      rw [hL.out] at hcnt
      obtain ⟨B1, k1, rfl, hk1, r1⟩ := own_shape hG
      have r1' := (r1.below hb24).more hb24.size
      have r1len : ((groupsOf Smp.t d l).map smpWin).length = (groupsOf Smp.t d l).length := List.length_map _
      clear hG r1 hb24
      have hzz : ((0 : Int) != 0) = false := rfl
      go_wp2_with fail
      refine (widen_calls D B1 _ k1 _ w4 r1' r1len hk1 (by omega) hWok.out).mono ?_
      rintro e w5 ⟨v3, rfl, hW, hb5⟩
      rw [hzero]
      unfold GrpResW at hW
      rw [if_pos hzero] at hW
      obtain ⟨got, want, e1, e2, e3, e4⟩ := htw.out
      rw [← List.length_map (f := winWin), e1] at hW
      rw [← List.length_map (f := smpWin), e2] at hH
      have hH5 := own_below hH hb5 (Nat.le_refl _)
      have hap : Apart v3 v2 := fun g h1 h2 => by
        have := (hW.lt g h1).1
        have := (hH.lt g h2).2
        omega
      have hgl : want.length ≤ n := by rw [← e2, List.length_map]; have := grp_count Smp.t D l; rw [hL.out] at this; exact this
      rw [← e3] at hH5 hgl
      have hb5' := hidden (hb4'.trans (hb5.mono hb4'.size))
      have hBW : w.heap.size ≤ w4.heap.size := hb4'.size
      obtain ⟨A5, c5, rfl, hc5, _⟩ := own_shape hW
      obtain ⟨A6, c6, rfl, hc6, _⟩ := own_shape hH5
      have E4 := hidden e4
      have HAP := hidden hap
      clear e1 e2 e4 htw hzero hH hb4 hb4' hb5 hap r1' hWok r1len hcnt hr hok
      generalize w4.heap.size = b1 at *
      generalize w3.heap.size = b2 at *
      generalize hN : got.length = N at *
      have HN := hidden hN
      have HE3 := hidden e3
      clear hN e3 w4 w3
      have hnn : ((N : Int) != (N : Int)) = false := by simp
      go_wp2
      go_loopw [67] (fun i wr => ∃ (k : Nat) (xs ys : List Value), k ≤ N ∧ i = .int .i64 k ∧ wr.ownsRow b1 33 6 (.slice A5 N c5) N xs ∧ wr.ownsRow b2 33 6 (.slice A6 N c6) N ys ∧
        (∀ j, k * 6 ≤ j → xs[j]? = (winCells got)[j]?) ∧ (∀ j, k * 6 ≤ j → ys[j]? = (winCells want)[j]?) ∧ Below w.heap.size w wr) (fun i _ => N - (intOf i).toNat)
      case atStart => exact ⟨0, _, _, Nat.zero_le _, rfl, hW, hH5, fun _ _ => rfl, fun _ _ => rfl, hb5'.out⟩
      case round =>
        obtain ⟨k, xs, ys, hk, rfl, ox, oy, hx, hy, hb⟩ := hrel
        by_cases hlt : k < N
        · obtain ⟨g1, c1', hA1, hg1, hl1, _, hx1⟩ := own_at ox (by omega)
          obtain ⟨g2, c2', hA2, hg2, hl2, _, hy1⟩ := own_at oy (by omega)
          injection hA1 with hA1 _ _
          injection hA2 with hA2 _ _
          subst hA1 hA2
          have hg12 : g1 ≠ g2 := fun e => HAP.out g1 rfl (by rw [e]; rfl)
          have hkg : k < got.length := by rw [HN.out]; exact hlt
          have hkw : k < want.length := by rw [← HE3.out]; exact hlt
          have sg := winCells_at got k hkg
          have sw := winCells_at want k hkw
          have al := E4.out k _ _ (List.getElem?_eq_getElem hkg) (List.getElem?_eq_getElem hkw)
          generalize got[k] = x at sg al
          generalize want[k] = y at sw al
          obtain ⟨x0, x1, x2, x3, x4, x5⟩ := x
          obtain ⟨y0, y1, y2, y3, y4, y5⟩ := y
          obtain ⟨rfl, rfl, rfl, rfl, rfl⟩ := al
          simp only at sg sw
          have f1 := ox.frozenAt (k * 6 + 2)
          have f2 := oy.frozenAt (k * 6 + 2)
          have f3 : wr.cell? ⟨g1, k * 6 + 2, none⟩ = some (.int .u64 (x2 : Nat)) := by rw [ox.cellAt _ (by omega), hx _ (by omega), sg.2.2.1]
          have f4 : wr.cell? ⟨g2, k * 6 + 2, none⟩ = some (.int .u64 (y2 : Nat)) := by rw [oy.cellAt _ (by omega), hy _ (by omega), sw.2.2.1]
          obtain ⟨w7, hw7⟩ : ∃ w7, (wr.setCell ⟨g1, k * 6 + 2, none⟩ (.int .u64 0)).setCell ⟨g2, k * 6 + 2, none⟩ (.int .u64 0) = w7 := ⟨_, rfl⟩
          obtain ⟨ox7, oy7, hb7⟩ := two_stores ox oy hb (by omega) (by omega) hg12 (k * 6 + 2) (.int .u64 0) hw7
          have cx : ∀ j u, 2 < j → j < 6 → (winCells got)[k * 6 + j]? = some u → w7.cell? ⟨g1, k * 6 + j, none⟩ = some u := fun j u h2 h6 h => by
            rw [ox7.cellAt (k * 6 + j) (by omega), List.getElem?_set_ne (by omega), hx _ (by omega), h]
          have cy : ∀ j u, 2 < j → j < 6 → (winCells want)[k * 6 + j]? = some u → w7.cell? ⟨g2, k * 6 + j, none⟩ = some u := fun j u h2 h6 h => by
            rw [oy7.cellAt (k * 6 + j) (by omega), List.getElem?_set_ne (by omega), hy _ (by omega), h]
          have p0 : w7.cell? ⟨g1, k * 6, none⟩ = some (.int .i64 x0) := by rw [ox7.cellAt _ (by omega), List.getElem?_set_ne (by omega), hx _ (by omega), sg.1]
          have p1 : w7.cell? ⟨g1, k * 6 + 1, none⟩ = some (.int .i64 x1) := by rw [ox7.cellAt _ (by omega), List.getElem?_set_ne (by omega), hx _ (by omega), sg.2.1]
          have p2 : w7.cell? ⟨g1, k * 6 + 2, none⟩ = some (.int .u64 0) := by rw [ox7.cellAt _ (by omega), List.getElem?_set_self (by rw [ox.1]; omega)]
          have p3 := cx 3 _ (by omega) (by omega) sg.2.2.2.1
          have p4 := cx 4 _ (by omega) (by omega) sg.2.2.2.2.1
          have p5 := cx 5 _ (by omega) (by omega) sg.2.2.2.2.2
          have q0 : w7.cell? ⟨g2, k * 6, none⟩ = some (.int .i64 x0) := by rw [oy7.cellAt _ (by omega), List.getElem?_set_ne (by omega), hy _ (by omega), sw.1]
          have q1 : w7.cell? ⟨g2, k * 6 + 1, none⟩ = some (.int .i64 x1) := by rw [oy7.cellAt _ (by omega), List.getElem?_set_ne (by omega), hy _ (by omega), sw.2.1]
          have q2 : w7.cell? ⟨g2, k * 6 + 2, none⟩ = some (.int .u64 0) := by rw [oy7.cellAt _ (by omega), List.getElem?_set_self (by rw [oy.1]; omega)]
          have q3 := cy 3 _ (by omega) (by omega) sw.2.2.2.1
          have q4 := cy 4 _ (by omega) (by omega) sw.2.2.2.2.1
          have q5 := cy 5 _ (by omega) (by omega) sw.2.2.2.2.2
          have hx7 : Hid (∀ j, (k + 1) * 6 ≤ j → (xs.set (k * 6 + 2) (.int .u64 0))[j]? = (winCells got)[j]?) := fun j hj => by rw [List.getElem?_set_ne (by omega), hx _ (by omega)]
          have hy7 : Hid (∀ j, (k + 1) * 6 ≤ j → (ys.set (k * 6 + 2) (.int .u64 0))[j]? = (winCells want)[j]?) := fun j hj => by rw [List.getElem?_set_ne (by omega), hy _ (by omega)]
          have OX := hidden ox7
          have OY := hidden oy7
          have B7 := hidden hb7
          have hlt' : (k : Int) < (N : Int) := by omega
          have hk0 : (0 : Int) ≤ (k : Int) := by omega
          clear sg sw hx1 hy1 hx hy cx cy ox7 oy7 hb7 ox oy hb
          go_upto_region 16 with (fail)

          clear f1 f2 f3 f4 hw7 hl1 hl2 wr
          go_quiet (fail)
          go_wp2
          go_roundw
          case rel => exact ⟨k + 1, _, _, by omega, by go_num, own_drewN OX.out _, own_drewN OY.out _, hx7.out, hy7.out, below_drewN B7.out _⟩
          case measure => simp [intOf]; omega
        · have hlt' : ¬ (k : Int) < (N : Int) := by omega
          go_wp2
          go_ret
          exact ⟨rfl, hb⟩
    · rw [if_neg hee] at hG hH
      subst hG hH
      have t1 : (errOf Smp.t (fun _ => 0) d l != 0) = true := by simp [hee]
      have t2 : (errOf Smp.t (fun _ => 0) d l == errOf Smp.t (fun _ => 0) d l) = true := by simp
      clear hee
      go_wp2
      go_ret
      exact ⟨rfl, hb4'⟩
theorem foldTwice_walk {H : Type} (enc : TypeId × Value → H) : LawWalk enc Try.prog 10 Try.f10 (fun ds => Rows.uptoBulkAll ds ≤ 1048576) := by
  intro W base args ds p hval hA hlt hsz hbulk
  rw [Try.params10] at hval hA hsz
  obtain ⟨v0, vs0, d0, ds0, p0, q0, hargs, rfl, rfl, h0, r0⟩ := trodAll_cons hA
  obtain ⟨v1, vs1, d1, ds1, p1, q1, rfl, rfl, rfl, h1, r1⟩ := trodAll_cons r0
  obtain ⟨v2, vs2, d2, ds2, p2, q2, rfl, rfl, rfl, h2, r2⟩ := trodAll_cons r1
  obtain ⟨rfl, rfl, rfl⟩ := trodAll_nil r2
  obtain rfl : args = #[v0, v1, v2] := by cases args; simp_all
  obtain ⟨a0, rfl, rfl, rfl, w0⟩ := open_int Try.underlying2 (hval 0 2 v0 rfl rfl) h0
  obtain ⟨a1, rfl, rfl, rfl, w1⟩ := open_int Try.underlying3 (hval 1 3 v1 rfl rfl) h1
  obtain ⟨A, n, c, l, rfl, hnc, hl, hr, hok, hd⟩ := open_smps (hval 2 29 v2 rfl rfl) h2 (fun x hx => hlt x (by simp [hx]))
  have hn := bulk_of hbulk (by simp) hd
  exact foldTwice_any a0 a1 A n c l W hr hl (by omega) (fun s hs => (hok s hs).1)

namespace foldTwiceUpto
set_option maxRecDepth 100000 in
theorem lifted (os : Os) (started : os.Started) (H : Type) (enc : TypeId × Value → H) (F : Stop.Interp) :
    ReturnsInHanded {} Try.checked os 10 .any ((Rows.OpenSpec.upto Rows.foldTwiceSpec).pre6 enc Try.prog Try.f10 Rows.foldTwiceUptoRow.domain false) (((Rows.OpenSpec.upto Rows.foldTwiceSpec).at F).post enc Try.prog Try.f10 false true false false) :=
  law_upto (C := Try.checked) (s := Rows.foldTwiceSpec) (tb := 4) own_prog started (by kernel_rfl) Try.func10
    (OpenSpec.witness (enc := enc) (C := Try.checked) (s := Rows.OpenSpec.upto Rows.foldTwiceSpec) (k := Rows.uptoSmall) rfl false ⟨#[], #[.int .i64 0, .int .i64 0, .slice none 0 0], []⟩ 8 (by kernel_rfl) (by kernel_rfl) (by kernel_rfl)
      (x := ([.lit (.int .i64 0), .lit (.int .i64 0), .nil], [], [])) (by kernel_rfl) rfl (by kernel_rfl))
    laidOut (by kernel_rfl) rfl Try.underlying4 ⟨rfl, fun H ds h => match ds, h with | [_, _, _], _ => ⟨rfl, rfl, rfl⟩⟩ (foldTwice_walk enc)

theorem proved : Rows.FoldTwiceUptoSaid :=
  OpenClaim.holds_of_cond 10 Try.f10 rfl rfl rfl rfl rfl rfl rfl ⟨rfl, rfl, rfl, rfl, rfl⟩ rfl rfl rfl rfl rfl (by kernel_rfl) Try.func10 (by kernel_rfl)
    (of_decide_eq_true (by kernel_rfl)) (by unfold Func.isWrapper; first | (rw [if_pos (by decide +kernel)]; kernel_rfl) | (rw [if_neg (by decide +kernel)]; exact ⟨rfl, rfl⟩))
    (fun os started H enc _ F => lifted os started H enc F)
#print axioms proved
end foldTwiceUpto
end Go.Proofs.Ytfcpphfiickpoaa
