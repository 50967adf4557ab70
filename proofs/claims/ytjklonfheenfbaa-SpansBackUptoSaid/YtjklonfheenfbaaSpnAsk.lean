/- What is asked of spans: Covers, Clip, and the reference's Has, Covers, Clip. Condition: the row is within the reach. -/
import Derived.Test.YtjklonfheenfbaaSpnRef
import Derived.Test.YtjklonfheenfbaaSpnHas
namespace Go.Proofs.Ytjklonfheenfbaa
set_option maxRecDepth 100000
open Go.RowKit Go.Shelf

/-! the reference's Has -/
theorem hasP_take {l : List Spn} {k : Nat} {x : Spn} (h : l[k]? = some x) (t : Int) : hasP (l.take (k + 1)) t = (hasP (l.take k) t || inSpn x t) := by
  rw [take_snoc? h, hasP_app]
  simp [hasP]
theorem hasP_yes {l : List Spn} {k : Nat} {x : Spn} (h : l[k]? = some x) {t : Int} (ht : inSpn x t = true) : hasP l t = true := by
  rw [hasP_iff]
  exact ⟨x, List.mem_of_getElem? h, inSpn_iff.1 ht⟩
set_option maxHeartbeats 3200000 in
theorem rHas_any (A : Option Addr) (n c : Nat) (l : List Spn) (t : Int) (w : World) (hr : Row w w.heap.size 2 A n (l.flatMap Spn.cells)) (hl : l.length = n) (hn : n ≤ 4611686018427387904) :
    Calls Try.prog 25 #[.slice A n c, .int .i64 t] w fun e w' => e = .returned (.bool (hasP l t)) ∧ ∃ m, w' = w.drewN m := by
  have hL := hidden hl
  have HR := hidden hr
  clear hl hr
  go_enter Try.func25, Try.ntmps25
  go_wp2_with fail
  go_loopw [5] (fun i wr => ∃ k : Nat, k ≤ n ∧ i = .int .i64 k ∧ Hid (hasP (l.take k) t = false) ∧ ∃ m, wr = w.drewN m) (fun i _ => n - (intOf i).toNat)
  case atStart => exact ⟨0, Nat.zero_le _, rfl, hidden rfl, 0, rfl⟩
  case round =>
    obtain ⟨k, hk, rfl, hno, m, rfl⟩ := hrel
    by_cases hlt : k < n
    · obtain ⟨gs, o, x, rfl, _, hx, hcl⟩ := row_at spnK HR.out hL.out k hlt
      have c0 : w.cell? ⟨gs, o + k * 2, none⟩ = some (.int .i64 x.frm) := hcl 0 (by omega)
      have c1 : w.cell? ⟨gs, o + k * 2 + 1, none⟩ = some (.int .i64 x.til) := hcl 1 (by omega)
      have k0 : (0 : Int) ≤ (k : Int) := by omega
      have k1 : (k : Int) < (n : Int) := by omega
      have HX := hidden hx
      clear hx hcl
      by_cases h1 : x.frm ≤ t
      · by_cases h2 : t ≤ x.til
        · go_wp2_with fail
          go_ret
          exact ⟨ret_bool (hasP_yes HX.out (inSpn_iff.2 ⟨h1, h2⟩)).symm, m, rfl⟩
        · have h3 : decide (t ≤ x.til) = false := decide_eq_false h2
          have hno2 := hidden (show hasP (l.take (k + 1)) t = false by rw [hasP_take HX.out, hno.out]; simp [inSpn, h3])
          go_wp2_with fail
          go_roundw
          case rel => exact ⟨k + 1, by omega, by go_num, hno2, m, rfl⟩
          case measure => simp [intOf]; omega
      · have h3 : decide (x.frm ≤ t) = false := decide_eq_false h1
        have hno2 := hidden (show hasP (l.take (k + 1)) t = false by rw [hasP_take HX.out, hno.out]; simp [inSpn, h3])
        go_wp2_with fail
        go_roundw
        case rel => exact ⟨k + 1, by omega, by go_num, hno2, m, rfl⟩
        case measure => simp [intOf]; omega
    · obtain rfl : n = k := by omega
      have hE := hidden (show hasP l t = false by rw [← hno.out, List.take_of_length_le (by rw [hL.out]; exact Nat.le_refl _)])
      go_wp2_with fail
      go_ret
      exact ⟨ret_bool hE.out.symm, m, rfl⟩

/-! Covers -/
def covS (a b : Int) (s : Spn) : Bool := decide (s.frm ≤ a) && decide (b ≤ s.til)
def covP (l : List Spn) (a b : Int) : Bool := l.any (covS a b)
theorem cov1_any (s : Spn) (a b : Int) (g g2 : Nat) (W : World) (ha : W.cell? ⟨g, 0, none⟩ = some (.int .i64 a)) (hb : W.cell? ⟨g2, 0, none⟩ = some (.int .i64 b)) :
    Calls Try.prog 62 #[.agg #[.int .i64 s.frm, .int .i64 s.til], .pointer (some ⟨g, 0, none⟩), .pointer (some ⟨g2, 0, none⟩)] W fun e W' => e = .returned (.bool (covS a b s)) ∧ Below W.heap.size W W' := by
  have lg := World.block_lt_of_cell? W _ ha
  have lg2 := World.block_lt_of_cell? W _ hb
  simp only at lg lg2
  go_enter Try.func62, Try.ntmps62
  go_upto_region 1 with (fail)
  have hY := Whole1.new W 51 #[.int .i64 s.frm, .int .i64 s.til]
  have hB : Below W.heap.size W (W.alloc (.cells #[.int .i64 s.frm, .int .i64 s.til] 51)) := (Below.refl _ _).alloc (Nat.le_refl _) _
  generalize W.alloc (.cells #[.int .i64 s.frm, .int .i64 s.til] 51) = W2 at hY hB ⊢
  have t0 := (hB.cell (p := ⟨g, 0, none⟩) lg).trans ha
  have t1 := (hB.cell (p := ⟨g2, 0, none⟩) lg2).trans hb
  have y0 := hY.cell 0
  have y1 := hY.cell 1
  have HB := hidden hB
  obtain ⟨X, hX⟩ : ∃ X, W.heap.size = X := ⟨_, rfl⟩
  rw [hX] at y0 y1 ⊢
  clear hY hX hB ha hb lg lg2
  by_cases h1 : s.frm ≤ a
  · by_cases h2 : b ≤ s.til
    · have h3 := hidden (by simp [covS, h1, h2] : covS a b s = true)
      go_wp2_with fail
      go_ret
      exact ⟨ret_bool h3.out.symm, HB.out⟩
    · have h3 := hidden (by simp [covS, h2] : covS a b s = false)
      go_wp2_with fail
      go_ret
      exact ⟨ret_bool h3.out.symm, HB.out⟩
  · have h3 := hidden (by simp [covS, h1] : covS a b s = false)
    go_wp2_with fail
    go_ret
    exact ⟨ret_bool h3.out.symm, HB.out⟩
/-- there is the one list -/
theorem exists_of (l : List Spn) : ∃ R, OfRes l R := by
  have hm : ∀ (m : List Spn), ∃ S : List Spn, S.Perm m ∧ S.Pairwise fun a b => a.frm ≤ b.frm := by
    intro m
    refine ⟨m.mergeSort (fun a b => decide (a.frm ≤ b.frm)), List.mergeSort_perm m _, ?_⟩
    have := List.pairwise_mergeSort (le := fun a b : Spn => decide (a.frm ≤ b.frm)) (fun a b c h1 h2 => by simp at *; omega) (fun a b => by simp; omega) m
    exact this.imp fun h => by simpa using h
  obtain ⟨S, h1, h2⟩ := hm (fullS l)
  exact ⟨_, ofRes_join h1 h2⟩
def coversB (R : List Spn) (a b : Int) : Bool := decide (b < a) || covP R a b
set_option maxHeartbeats 3200000 in
theorem covers_any (A : Option Addr) (n c : Nat) (l : List Spn) (a b : Int) (w : World) (hr : Row w w.heap.size 2 A n (l.flatMap Spn.cells)) (hl : l.length = n) (hn : n * 16 ≤ 140737488351232) (hok : ∀ x ∈ l, x.ok) :
    Calls Try.prog 26 #[.slice A n c, .int .i64 a, .int .i64 b] w fun e w' => (∃ R, e = .returned (.bool (coversB R a b)) ∧ OfRes l R) ∧ Below w.heap.size w w' := by
  have HOFR := hidden (exists_of l)
  have eg1 : ∀ args w, (callFunc 62 args).run Try.prog w = .ok (.enter 62 args) w := enters_of Try.func62 (by kernel_rfl) rfl
  have H1 := hidden eg1
  have hOf := hidden fun (w2 : World) (hb : Below w.heap.size w w2) => spnOf_any A n c l w2 ((hr.below hb).more hb.size) hl hn hok
  clear hr hl hok eg1
  go_enter Try.func26, Try.ntmps26
  go_upto_region 1 with (fail)
  have hX := (Whole1.new w 2 #[.int .i64 a]).alloc (.cells #[.int .i64 b] 2)
  have hY := Whole1.new (w.alloc (.cells #[.int .i64 a] 2)) 2 #[.int .i64 b]
  have hB : Below w.heap.size w ((w.alloc (.cells #[.int .i64 a] 2)).alloc (.cells #[.int .i64 b] 2)) := ((Below.refl _ _).alloc (Nat.le_refl _) _).alloc (by simp) _
  rw [World.size_alloc] at hY
  generalize (w.alloc (.cells #[.int .i64 a] 2)).alloc (.cells #[.int .i64 b] 2) = w1 at hX hY hB ⊢
  obtain ⟨X, hXe⟩ : ∃ X, w.heap.size = X := ⟨_, rfl⟩
  have hOf1 := hOf.out w1 hB
  have HB := hidden hB
  rw [hXe] at hX hY ⊢
  have x0 := hX.cell 0
  have y0 := hY.cell 0
  have HX := hidden hX
  have HY := hidden hY
  have HXE := hidden hXe
  have HOF := hidden hOf1
  clear hX hY hXe hOf hOf1 hB
  by_cases hab : b < a
  · go_wp2_with fail
    go_ret
    obtain ⟨R, hR⟩ := HOFR.out
    exact ⟨⟨R, ret_bool (by simp [coversB, hab]), hR⟩, HB.out⟩
  · have hab2 : decide (b < a) = false := decide_eq_false hab
    have hlX : X < w1.heap.size := by have := HY.out.lt; omega
    have hlY := HY.out.lt
    go_wp2_with fail
    refine HOF.out.mono ?_
    rintro e w2 ⟨v, R, rfl, ho, hR, hlen, hb2⟩
    obtain ⟨A2, c2, rfl, _, hr2⟩ := own_shape ho
    have hX2 := HX.out.below hb2 hlX
    have hY2 := HY.out.below hb2 hlY
    have S2 := hidden (IdxSpn.contains_any A2 R.length c2 R 62 #[.pointer (some ⟨X, 0, none⟩), .pointer (some ⟨X + 1, 0, none⟩)] (covS a b) w2 H1.out (fun s _ W hW => cov1_any s a b X (X + 1) W ((hX2.below hW hX2.lt).cell 0) ((hY2.below hW hY2.lt).cell 0)) hr2 rfl (by omega))
    have B2 := hidden (HB.out.trans (hb2.mono HB.out.size))
    have HR := hidden hR
    clear ho hR hb2 hr2 hX2 hY2 HOF x0 y0
    go_wp2_with fail
    refine S2.out.mono ?_
    rintro e w3 ⟨rfl, hb3⟩
    have B3 := hidden (B2.out.trans (hb3.mono B2.out.size))
    clear hb3 S2
    go_wp2_with fail
    go_ret
    exact ⟨⟨R, ret_bool (by simp [coversB, hab2, covP]), HR.out⟩, B3.out⟩
set_option maxHeartbeats 3200000 in
theorem rCovers_any (A : Option Addr) (n c : Nat) (l : List Spn) (a b : Int) (w : World) (hr : Row w w.heap.size 2 A n (l.flatMap Spn.cells)) (hl : l.length = n) (hn : n * 16 ≤ 140737488351232) (hok : ∀ x ∈ l, x.ok) :
    Calls Try.prog 27 #[.slice A n c, .int .i64 a, .int .i64 b] w fun e w' => (∃ R, e = .returned (.bool (coversB R a b)) ∧ OfRes l R) ∧ Below w.heap.size w w' := by
  have HOFR := hidden (exists_of l)
  have HOF := hidden (rOf_any A n c l w hr hl hn hok)
  clear hr hl hok
  by_cases hab : b < a
  · go_enter Try.func27, Try.ntmps27
    go_wp2_with fail
    go_ret
    obtain ⟨R, hR⟩ := HOFR.out
    exact ⟨⟨R, ret_bool (by simp [coversB, hab]), hR⟩, Below.refl _ _⟩
  · have hab2 : decide (b < a) = false := decide_eq_false hab
    go_enter Try.func27, Try.ntmps27
    go_wp2_with fail
    refine HOF.out.mono ?_
    rintro e w2 ⟨v, R, rfl, ho, hR, hlen, hb2⟩
    obtain ⟨A2, c2, rfl, _, hr2⟩ := own_shape ho
    have B2 := hidden hb2
    have HR := hidden hR
    have HR2 := hidden hr2
    obtain ⟨m, hm⟩ : ∃ m, R.length = m := ⟨_, rfl⟩
    rw [hm] at hr2 ⊢
    have HR2 := hidden hr2
    have HM := hidden hm
    rw [hm] at hlen
    clear ho hR hb2 hr2 HOF hm
    go_wp2_with fail
    go_loopw [8] (fun i wr => ∃ k : Nat, k ≤ m ∧ i = .int .i64 k ∧ Hid (covP (R.take k) a b = false) ∧ wr = w2) (fun i _ => m - (intOf i).toNat)
    case atStart => exact ⟨0, Nat.zero_le _, rfl, hidden rfl, rfl⟩
    case round =>
      obtain ⟨k, hk, rfl, hno, rfl⟩ := hrel
      by_cases hlt : k < m
      · obtain ⟨gs, o, x, rfl, _, hx, hcl⟩ := row_at spnK HR2.out HM.out k hlt
        have c0 : wr.cell? ⟨gs, o + k * 2, none⟩ = some (.int .i64 x.frm) := hcl 0 (by omega)
        have c1 : wr.cell? ⟨gs, o + k * 2 + 1, none⟩ = some (.int .i64 x.til) := hcl 1 (by omega)
        have k0 : (0 : Int) ≤ (k : Int) := by omega
        have k1 : (k : Int) < (m : Int) := by omega
        have HX := hidden hx
        have hstep : Hid (covP (R.take (k + 1)) a b = (covP (R.take k) a b || covS a b x)) := by
          rw [Hid, take_snoc? hx]
          simp [covP]
        clear hx hcl
        by_cases h1 : x.frm ≤ a
        · by_cases h2 : b ≤ x.til
          · go_wp2_with fail
            go_ret
            have : covP R a b = true := List.any_eq_true.2 ⟨x, List.mem_of_getElem? HX.out, by simp [covS, h1, h2]⟩
            exact ⟨⟨R, ret_bool (by simp [coversB, hab2, this]), HR.out⟩, B2.out⟩
          · have h3 : decide (b ≤ x.til) = false := decide_eq_false h2
            have hno2 := hidden (show covP (R.take (k + 1)) a b = false by rw [hstep.out, hno.out]; simp [covS, h3])
            go_wp2_with fail
            go_roundw
            case rel => exact ⟨k + 1, by omega, by go_num, hno2, trivial⟩
            case measure => simp [intOf]; omega
        · have h3 : decide (x.frm ≤ a) = false := decide_eq_false h1
          have hno2 := hidden (show covP (R.take (k + 1)) a b = false by rw [hstep.out, hno.out]; simp [covS, h3])
          go_wp2_with fail
          go_roundw
          case rel => exact ⟨k + 1, by omega, by go_num, hno2, trivial⟩
          case measure => simp [intOf]; omega
      · obtain rfl : m = k := by omega
        have hE := hidden (show covP R a b = false by rw [← hno.out, List.take_of_length_le (by rw [HM.out]; exact Nat.le_refl _)])
        go_wp2_with fail
        go_ret
        exact ⟨⟨R, ret_bool (by simp [coversB, hab2, hE.out]), HR.out⟩, B2.out⟩
end Go.Proofs.Ytjklonfheenfbaa
