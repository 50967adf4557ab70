/- spans.Keep and the reference's Keep: the samples that lie in none of the spans. Condition: the rows are within the reach. -/
import Derived.Test.YtjklonfheenfbaaSpnOf
import Derived.Test.YtjklonfheenfbaaSpnAsk
import Derived.Test.YtjklonfheenfbaaClnSmp
import Derived.Test.YtjklonfheenfbaaDelSmp
namespace Go.Proofs.Ytjklonfheenfbaa
set_option maxRecDepth 100000
open Go.RowKit Go.Shelf

theorem smpK (x : Smp) : x.cells.length = 2 := rfl
def keepP (l : List Spn) (s : List Smp) : List Smp := s.filter fun x => !hasP l x.t

theorem keep1_any (A : Option Addr) (m c : Nat) (R : List Spn) (x : Smp) (g : Nat) (W : World) (hg : W.cell? ⟨g, 0, none⟩ = some (.slice A m c)) (hr : Row W W.heap.size 2 A m (R.flatMap Spn.cells)) (hl : R.length = m) (hn : m ≤ 4611686018427387904) :
    Calls Try.prog 65 #[.agg #[.int .i64 x.t, .int .u64 ((x.v : Nat) : Int)], .pointer (some ⟨g, 0, none⟩)] W fun e W' => e = .returned (.bool (hasP R x.t)) ∧ Below W.heap.size W W' := by
  have lg := World.block_lt_of_cell? W _ hg
  simp only at lg
  have HR := hidden hr
  clear hr
  go_enter Try.func65, Try.ntmps65
  go_upto_region 1 with (fail)
  have hY := Whole1.new W 45 #[.int .i64 x.t, .int .u64 ((x.v : Nat) : Int)]
  have hB : Below W.heap.size W (W.alloc (.cells #[.int .i64 x.t, .int .u64 ((x.v : Nat) : Int)] 45)) := (Below.refl _ _).alloc (Nat.le_refl _) _
  generalize W.alloc (.cells #[.int .i64 x.t, .int .u64 ((x.v : Nat) : Int)] 45) = W2 at hY hB ⊢
  have t0 := (hB.cell (p := ⟨g, 0, none⟩) lg).trans hg
  have y0 := hY.cell 0
  have HB := hidden hB
  have S1 := hidden (has_any A m c R x.t W2 ((HR.out.below hB).more hB.size) hl hn)
  obtain ⟨X, hX⟩ : ∃ X, W.heap.size = X := ⟨_, rfl⟩
  rw [hX] at y0 ⊢
  have HX := hidden hX
  clear hY hX hB hg lg
  go_wp2_with fail
  refine S1.out.mono ?_
  rintro e w2 ⟨rfl, hb2⟩
  go_wp2_with fail
  go_ret
  have := HX.out
  subst this
  exact ⟨rfl, HB.out.trans (hb2.mono HB.out.size)⟩

set_option maxHeartbeats 3200000 in
theorem keep_any (A : Option Addr) (n c : Nat) (l : List Spn) (A2 : Option Addr) (m c2 : Nat) (s : List Smp) (w : World) (hr : Row w w.heap.size 2 A n (l.flatMap Spn.cells)) (hl : l.length = n) (hn : n * 16 ≤ 140737488351232) (hok : ∀ x ∈ l, x.ok) (hr2 : Row w w.heap.size 2 A2 m (s.flatMap Smp.cells)) (hl2 : s.length = m) (hn2 : m * 16 ≤ 140737488351232) :
    Calls Try.prog 28 #[.slice A n c, .slice A2 m c2] w fun e w' => ∃ A' c' R, e = .returned (.slice A' (keepP R s).length c') ∧ OfRes l R ∧ Row w' w'.heap.size 2 A' (keepP R s).length ((keepP R s).flatMap Smp.cells) ∧ Below w.heap.size w w' := by
  have eg1 : ∀ args w, (callFunc 65 args).run Try.prog w = .ok (.enter 65 args) w := enters_of Try.func65 (by kernel_rfl) rfl
  have HE1 := hidden eg1
  have S1 := hidden (spnOf_any A n c l w hr hl hn hok)
  have HR2 := hidden hr2
  have HL2 := hidden hl2
  clear hr hl hok hr2 hl2 eg1
  go_enter Try.func28, Try.ntmps28
  go_wp2_with fail
  refine S1.out.mono ?_
  rintro e w1 ⟨v, R, rfl, ho, hR, hlen, hb1⟩
  obtain ⟨A1, c1, rfl, _, hr1⟩ := own_shape ho
  obtain ⟨k, hk⟩ : ∃ k, R.length = k := ⟨_, rfl⟩
  rw [hk] at hr1 hlen ⊢
  have HB1 := hidden hb1
  have HRo := hidden hR
  have HK := hidden hk
  have HR1 := hidden hr1
  clear ho hR hb1 hk hr1 S1
  go_wp2_with fail
  have hX := Whole1.new w1 30 #[.slice A1 k c1]
  have hB : Below w1.heap.size w1 (w1.alloc (.cells #[.slice A1 k c1] 30)) := (Below.refl _ _).alloc (Nat.le_refl _) _
  generalize w1.alloc (.cells #[.slice A1 k c1] 30) = w2 at hX hB ⊢
  have hR2 := (HR1.out.below hB).more hB.size
  have HB2 := hidden (HB1.out.trans (hB.mono HB1.out.size))
  have S2 := hidden (ClnSmp.cloneO_any A2 m c2 s w2 ((HR2.out.below HB2.out).more HB2.out.size) HL2.out hn2)
  obtain ⟨X, hXe⟩ : ∃ X, w1.heap.size = X := ⟨_, rfl⟩
  rw [hXe] at hX ⊢
  have HX := hidden hX
  have HRw := hidden hR2
  clear hX hB hXe hR2 HB1 HR1
  refine S2.out.mono ?_
  rintro e w3 ⟨⟨sA, sn, sc, sl⟩, rfl, _, hsn, _, _, hb3, hown⟩
  obtain rfl : sn = m := hsn
  have HB3 := hidden hb3
  simp only [Sl.val] at hown ⊢
  clear S2 hb3
  rcases Nat.eq_zero_or_pos sn with h0 | h0
  · subst h0
    have hle : Hid (s = []) := List.eq_nil_of_length_eq_zero HL2.out
    clear hown
    go_wp2_with fail
    refine (DelSmp.delete0_any sA sc _ _).mono ?_
    rintro e w' ⟨rfl, rfl⟩
    go_wp2_with fail
    go_ret
    have e0 : keepP R s = [] := by rw [hle.out]; rfl
    refine ⟨sA, sc, R, by rw [e0]; rfl, HRo.out, ?_, HB2.out.trans (HB3.out.mono HB2.out.size)⟩
    rw [e0]
    exact Row.nil
  · have S3 := hidden (DelSmp.deleteAll_any _ sn w2.heap.size s 65 #[.pointer (some ⟨X, 0, none⟩)] (fun x => hasP R x.t) w3 HE1.out (fun g hg x _ W hW => by
      have hb := below_gb HB3.out hW HB3.out.size hg
      exact keep1_any A1 k c1 R x X W ((HX.out.below hb HX.out.lt).cell 0) ((HRw.out.below hb).more hb.size) HK.out (by omega)) (hown h0) HL2.out (by omega))
    clear hown
    go_wp2_with fail
    refine S3.out.mono ?_
    rintro e w4 ⟨v', rfl, ho4, hg4, hv4⟩
    have e0 : DelSmp.left (fun x => hasP R x.t) s = keepP R s := rfl
    rw [e0] at ho4
    obtain ⟨A4, c4, rfl, _, hr4⟩ := own_shape ho4
    have hB4 : Below w2.heap.size w2 w4 := HB3.out.grown hg4 HB3.out.size (fun q hq => (ho4.lt q (hv4.trans hq)).1)
    have HR4 := hidden hr4
    have HB4 := hidden (HB2.out.trans (hB4.mono HB2.out.size))
    clear e0 ho4 hg4 hv4 hB4 hr4 S3
    go_wp2_with fail
    go_ret
    exact ⟨A4, c4, R, rfl, HRo.out, HR4.out, HB4.out⟩

/-! the reference's Keep -/
theorem rsinfo : (Try.prog.info? 46).map (fun i => (i.zero, i.size, i.bytes)) = some (some (.agg #[.int .i64 0, .int .u64 0]), 2, 16) := by kernel_rfl
theorem keepP_snoc {l : List Spn} {s : List Smp} {k : Nat} {x : Smp} (h : s[k]? = some x) : keepP l (s.take (k + 1)) = if hasP l x.t = true then keepP l (s.take k) else keepP l (s.take k) ++ [x] := by
  rw [take_snoc? h]
  unfold keepP
  rw [List.filter_append]
  cases h : hasP l x.t <;> simp [h]
set_option maxHeartbeats 3200000 in
theorem rKeep_any (A : Option Addr) (n c : Nat) (l : List Spn) (A2 : Option Addr) (m c2 : Nat) (s : List Smp) (w : World) (hr : Row w w.heap.size 2 A n (l.flatMap Spn.cells)) (hl : l.length = n) (hn : n * 16 ≤ 140737488351232) (hr2 : Row w w.heap.size 2 A2 m (s.flatMap Smp.cells)) (hl2 : s.length = m) (hn2 : m * 16 ≤ 140737488351232) :
    Calls Try.prog 29 #[.slice A n c, .slice A2 m c2] w fun e w' => ∃ v, e = .returned v ∧ w'.ownsRow w.heap.size 46 2 v (keepP l s).length ((keepP l s).flatMap Smp.cells) ∧ Below w.heap.size w w' := by
  obtain ⟨i0, hi, hz0, hz1, hz2⟩ := info_parts rsinfo
  have HL := hidden hl
  have HR := hidden hr
  have HL2 := hidden hl2
  have HR2 := hidden hr2
  clear hl hr hl2 hr2
  go_enter Try.func29, Try.ntmps29
  go_wp2_with fail
  go_loopw [5, 6] (fun v i wr => ∃ k : Nat, k ≤ m ∧ i = .int .i64 k ∧ wr.ownsRow w.heap.size 46 2 v (keepP l (s.take k)).length ((keepP l (s.take k)).flatMap Smp.cells) ∧ Below w.heap.size w wr) (fun _ i _ => m - (intOf i).toNat)
  case atStart => exact ⟨0, Nat.zero_le _, rfl, World.ownsRow_nil _ _ _ _, Below.refl _ _⟩
  case round =>
    obtain ⟨k, hk, rfl, hown, hb⟩ := hrel
    by_cases hlt : k < m
    · obtain ⟨gs, o, x, rfl, hgs, hx, hcl⟩ := row_at smpK (HR2.out.below hb) HL2.out k hlt
      have c0 : wr.cell? ⟨gs, o + k * 2, none⟩ = some (.int .i64 x.t) := hcl 0 (by omega)
      have c1 : wr.cell? ⟨gs, o + k * 2 + 1, none⟩ = some (.int .u64 ((x.v : Nat) : Int)) := hcl 1 (by omega)
      have k0 : (0 : Int) ≤ (k : Int) := by omega
      have k1 : (k : Int) < (m : Int) := by omega
      have hT := hidden (keepP_snoc (l := l) hx)
      have hbs := hb.size
      have hle : Hid ((keepP l (s.take k)).length ≤ k) := Nat.le_trans (List.length_filter_le _ _) (by rw [List.length_take]; omega)
      have S1 := hidden (rHas_any A n c l x.t wr ((HR.out.below hb).more hbs) HL.out (by omega))
      clear hx hcl
      go_wp2_with fail
      refine S1.out.mono ?_
      rintro e w2 ⟨rfl, q, rfl⟩
      clear S1
      have hown2 := own_drewN hown q
      have hb2 := below_drewN hb q
      have c0' : (wr.drewN q).cell? ⟨gs, o + k * 2, none⟩ = some (.int .i64 x.t) := c0
      have c1' : (wr.drewN q).cell? ⟨gs, o + k * 2 + 1, none⟩ = some (.int .u64 ((x.v : Nat) : Int)) := c1
      clear hown hb hbs c0 c1
      generalize wr.drewN q = w2 at *
      have hbs := hb2.size
      by_cases hp : hasP l x.t = true
      · have hT2 := hidden (hT.out.trans (if_pos hp))
        clear hT
        go_wp2_with fail
        go_roundw
        case rel => exact ⟨k + 1, by omega, by go_num, by rw [hT2.out]; exact hown2, hb2⟩
        case measure => simp [intOf]; omega
      · have hT2 := hidden (hT.out.trans (if_neg hp))
        have hp' : hasP l x.t = false := by simpa using hp
        clear hT hp
        have hfr := Row.fresh w2 46 2 1 [.int .i64 x.t, .int .u64 ((x.v : Nat) : Int)] rfl
        go_wp2_with (at_builtin; refine wpList_app _ rfl _ _ 42 rfl w.heap.size 46 i0 _ 2 16 Try.underlying42 hi hz0 hz1 hz2 rfl (by decide) _ _ _ rfl (hown2.alloc _) _ _ _ _ _ rfl hfr (by simp [Value.oneCell']) (by have := hle.out; unfold maxLen; omega) (by have := hle.out; omega) (by simp; omega) ?_; intro v1 w3 hown3 hg3 hat3)
        have hcs : (keepP l (s.take k)).flatMap Smp.cells ++ [.int .i64 x.t, .int .u64 ((x.v : Nat) : Int)] = (keepP l (s.take k) ++ [x]).flatMap Smp.cells := by simp [Smp.cells]
        rw [hcs] at hown3
        have hb3 : Below w.heap.size w w3 := (hb2.alloc hbs _).grown hg3 (by simp; omega) (fun j hj => (hown2.lt j hj).1)
        clear hown2 hb2 hg3 hat3 hcs hfr
        go_wp2_with fail
        go_roundw
        case rel => exact ⟨k + 1, by omega, by go_num, by rw [hT2.out, List.length_append]; exact hown3, hb3⟩
        case measure => simp [intOf]; omega
    · obtain rfl : m = k := by omega
      go_wp2_with fail
      go_ret
      exact ⟨_, rfl, by rw [List.take_of_length_le (by rw [HL2.out]; exact Nat.le_refl _)] at hown; exact hown, hb⟩
end Go.Proofs.Ytjklonfheenfbaa
