/- FoldBounds: the least and the greatest of what samples fold into are values of samples, unless all are NaNs. No condition. -/
import Derived.Test.YtfcpphfiickpoaaFoldFolds
namespace Go.Proofs.Ytfcpphfiickpoaa
open Go.RowKit Go.WideShapes Go.ChangeShapes

/-! ### plain -/
theorem leastOf_mem (l : List Nat) : ((leastOf l).1 = true → (leastOf l).2 ∈ l ∧ nanN (leastOf l).2 = false) ∧ ((leastOf l).1 = l.any (fun v => !nanN v)) ∧ ((leastOf l).1 = false → (leastOf l).2 = 9221120237041090560) := by
  suffices H : ∀ (m : List Nat), ((leastOf m.reverse).1 = true → (leastOf m.reverse).2 ∈ m.reverse ∧ nanN (leastOf m.reverse).2 = false) ∧ ((leastOf m.reverse).1 = m.reverse.any (fun v => !nanN v)) ∧ ((leastOf m.reverse).1 = false → (leastOf m.reverse).2 = 9221120237041090560) by
    have := H l.reverse
    rwa [List.reverse_reverse] at this
  intro m
  induction m with
  | nil => exact ⟨fun h => (by cases h), rfl, fun _ => rfl⟩
  | cons v m ih =>
    rw [List.reverse_cons, leastOf_snoc, List.any_append]
    obtain ⟨h1, h2, h3⟩ := ih
    generalize leastOf m.reverse = s at *
    obtain ⟨any, out⟩ := s
    simp only at h1 h2 h3
    unfold leastStep
    cases hN : nanN v
    · simp only [Bool.false_eq_true, if_false]
      refine ⟨fun _ => ?_, by simp [hN], fun h => (by cases h)⟩
      split
      · exact ⟨by simp, hN⟩
      · rename_i hc
        have ha : any = true := by cases any <;> simp_all
        obtain ⟨i1, i2⟩ := h1 ha
        exact ⟨List.mem_append_left _ i1, i2⟩
    · simp only [if_true]
      refine ⟨fun h => ⟨List.mem_append_left _ (h1 h).1, (h1 h).2⟩, by simp [hN, h2], h3⟩

theorem greatOf_mem (l : List Nat) : ((greatOf l).1 = true → (greatOf l).2 ∈ l ∧ nanN (greatOf l).2 = false) ∧ ((greatOf l).1 = l.any (fun v => !nanN v)) ∧ ((greatOf l).1 = false → (greatOf l).2 = 9221120237041090560) := by
  suffices H : ∀ (m : List Nat), ((greatOf m.reverse).1 = true → (greatOf m.reverse).2 ∈ m.reverse ∧ nanN (greatOf m.reverse).2 = false) ∧ ((greatOf m.reverse).1 = m.reverse.any (fun v => !nanN v)) ∧ ((greatOf m.reverse).1 = false → (greatOf m.reverse).2 = 9221120237041090560) by
    have := H l.reverse
    rwa [List.reverse_reverse] at this
  intro m
  induction m with
  | nil => exact ⟨fun h => (by cases h), rfl, fun _ => rfl⟩
  | cons v m ih =>
    rw [List.reverse_cons, greatOf_snoc, List.any_append]
    obtain ⟨h1, h2, h3⟩ := ih
    generalize greatOf m.reverse = s at *
    obtain ⟨any, out⟩ := s
    simp only at h1 h2 h3
    unfold greatStep
    cases hN : nanN v
    · simp only [Bool.false_eq_true, if_false]
      refine ⟨fun _ => ?_, by simp [hN], fun h => (by cases h)⟩
      split
      · exact ⟨by simp, hN⟩
      · rename_i hc
        have ha : any = true := by cases any <;> simp_all
        obtain ⟨i1, i2⟩ := h1 ha
        exact ⟨List.mem_append_left _ i1, i2⟩
    · simp only [if_true]
      refine ⟨fun h => ⟨List.mem_append_left _ (h1 h).1, (h1 h).2⟩, by simp [hN, h2], h3⟩

theorem cadd_nan (x y : Nat) (h : nanN y = true) : cadd x y = 9221120237041090560 := by
  unfold cadd; rw [add_nan' x y h]
theorem csum_nan (l : List Nat) (hl : l ≠ []) (h : l.any (fun v => !nanN v) = false) : csum l = 9221120237041090560 := by
  cases l with
  | nil => exact absurd rfl hl
  | cons x l =>
    simp only [List.any_cons, Bool.or_eq_false_iff, Bool.not_eq_false'] at h
    obtain ⟨h1, h2⟩ := h
    have hx : canonN x = 9221120237041090560 := by unfold canonN; rw [if_pos h1]
    show l.foldl cadd (canonN x) = _
    rw [hx]
    clear hl h1 hx
    induction l with
    | nil => rfl
    | cons y l ih =>
      simp only [List.any_cons, Bool.or_eq_false_iff, Bool.not_eq_false'] at h2
      rw [List.foldl_cons, cadd_nan _ _ h2.1]
      exact ih h2.2

def hitB (m : Nat) (l : List Smp) : Bool := l.any fun s => !nanN s.v && s.v == m
def anyB (l : List Smp) : Bool := l.any fun s => !nanN s.v

theorem hitB_snoc (m : Nat) (l : List Smp) (s : Smp) : hitB m (l ++ [s]) = (hitB m l || (!nanN s.v && s.v == m)) := by simp [hitB]
theorem anyB_snoc (l : List Smp) (s : Smp) : anyB (l ++ [s]) = (anyB l || !nanN s.v) := by simp [anyB]
theorem anyB_vals (l : List Smp) : (vals l).any (fun v => !nanN v) = anyB l := by simp [anyB, vals, List.any_map]; rfl
theorem hitB_of {m : Nat} {l : List Smp} (h : m ∈ vals l) (hn : nanN m = false) : hitB m l = true := by
  obtain ⟨s, hs, rfl⟩ := List.mem_map.1 h
  exact List.any_eq_true.2 ⟨s, hs, by simp [hn]⟩

theorem bounds_hit {l : List Smp} (h : anyB l = true) : hitB (leastOf (vals l)).2 l = true ∧ hitB (greatOf (vals l)).2 l = true := by
  obtain ⟨a1, a2, _⟩ := leastOf_mem (vals l)
  obtain ⟨b1, b2, _⟩ := greatOf_mem (vals l)
  rw [anyB_vals, h] at a2 b2
  exact ⟨hitB_of (a1 a2).1 (a1 a2).2, hitB_of (b1 b2).1 (b1 b2).2⟩
theorem bounds_nan {l : List Smp} (h : anyB l = false) (hl : l ≠ []) : (leastOf (vals l)).2 = 9221120237041090560 ∧ (greatOf (vals l)).2 = 9221120237041090560 ∧ csum (vals l) = 9221120237041090560 := by
  obtain ⟨_, a2, a3⟩ := leastOf_mem (vals l)
  obtain ⟨_, b2, b3⟩ := greatOf_mem (vals l)
  rw [anyB_vals, h] at a2 b2
  exact ⟨a3 a2, b3 b2, csum_nan _ (by simpa [vals] using hl) (by rw [anyB_vals, h])⟩

theorem nat_beq (a b : Nat) : ((a : Int) == (b : Int)) = (a == b) := by
  rw [Bool.eq_iff_iff, beq_iff_eq, beq_iff_eq]; omega

set_option maxHeartbeats 3200000 in
theorem foldBounds_any (A : Option Addr) (n c : Nat) (l : List Smp) (w : World) (hr : Row w w.heap.size 2 A n (smpCells l)) (hl : l.length = n) (hn : n * 16 ≤ 140737488351232) (hok : ∀ s ∈ l, s.ok) :
    Calls Try.prog 5 #[.slice A n c] w fun e w' => e = .returned (.bool true) ∧ Below w.heap.size w w' := by
  have hL := hidden hl
  clear hl
  go_enter Try.func5, Try.ntmps5
  go_wp2_with fail
  refine (wakes_any _).mono ?_
  rintro e w1 ⟨rfl, hb1⟩
  go_wp2_with fail
  refine (samples_any A n c _ w1 ((hr.below hb1).more hb1.size) (smpCells_one _) hn).mono ?_
  rintro e w2 ⟨v, rfl, hown2, hb2⟩
  obtain ⟨A2, c2, rfl, _, hr2⟩ := own_shape hown2
  clear hown2
  have hb2' := hb1.trans (hb2.mono hb1.size)
  go_wp2_with fail
  refine (fold_any 0 A2 n c2 l w2 hr2 hL.out (by omega) hok).mono ?_
  rintro e w3 ⟨f, hF, rfl, hb3⟩
  rw [fold_is hF hok]
  have hb3' := hb2'.trans (hb3.mono hb2'.size)
  clear hF hb1 hb2 hb3 hr2 hb2'
  by_cases hn0 : n = 0
  · subst hn0
    have hl0 : l = [] := List.eq_nil_of_length_eq_zero hL.out
    subst hl0
    rw [show (refWin 0 ((0 : Nat) : Int) (lastV []) (vals []) (vals []) (vals [])).cells.toArray = #[.int .i64 0, .int .i64 0, .int .u64 0, .int .u64 0, .int .u64 0, .int .u64 0] from rfl]
    go_wp2
    go_ret
    exact ⟨rfl, hb3'.alloc hb3'.size _⟩
  · have hvl : vals l ≠ [] := by
      intro h
      have := hL.out
      unfold vals at h
      rw [List.map_eq_nil_iff] at h
      subst h
      exact hn0 this.symm
    rw [show refWin 0 ((n : Nat) : Int) (lastV l) (vals l) (vals l) (vals l) = ⟨0, n, csum (vals l), (leastOf (vals l)).2, (greatOf (vals l)).2, lastV l⟩ from if_neg hvl]
    rw [show (Win.mk 0 (n : Int) (csum (vals l)) (leastOf (vals l)).2 (greatOf (vals l)).2 (lastV l)).cells.toArray = #[.int .i64 0, .int .i64 (n : Int), .int .u64 ((csum (vals l) : Nat) : Int), .int .u64 (((leastOf (vals l)).2 : Nat) : Int), .int .u64 (((greatOf (vals l)).2 : Nat) : Int), .int .u64 ((lastV l : Nat) : Int)] from rfl]
    have hn1 : ((n : Int) == 0) = false := by rw [beq_eq_false_iff_ne]; omega
    have hbits : ∀ (g : Nat), (∀ x ∈ vals l, x < 18446744073709551616) := by
      intro _ x hx
      obtain ⟨s, hs, rfl⟩ := List.mem_map.1 hx
      exact hok s hs
    have hhit := hidden (fun h => @bounds_hit l h)
    have hnan := hidden (fun h => @bounds_nan l h (by rintro rfl; exact hvl rfl))
    have hlast : Hid (∀ m, n = m + 1 → ∃ s, l[m]? = some s ∧ s.v = lastV l) := by
      intro m hm
      have h3 : m < l.length := by rw [hL.out]; omega
      refine ⟨l[m], List.getElem?_eq_getElem h3, ?_⟩
      unfold lastV
      rw [List.getLast?_eq_getElem?, show l.length - 1 = m from by rw [hL.out]; omega, List.getElem?_eq_getElem h3]
    clear hvl hbits
    generalize csum (vals l) = sm at *
    generalize (leastOf (vals l)).2 = mn at *
    generalize (greatOf (vals l)).2 = mx at *
    generalize lastV l = lv at *
    have hWb : Whole1 (w3.alloc (Obj.cells #[.int .i64 0, .int .i64 (n : Int), .int .u64 ((sm : Nat) : Int), .int .u64 ((mn : Nat) : Int), .int .u64 ((mx : Nat) : Int), .int .u64 ((lv : Nat) : Int)] 33)) w3.heap.size 33 #[.int .i64 0, .int .i64 (n : Int), .int .u64 ((sm : Nat) : Int), .int .u64 ((mn : Nat) : Int), .int .u64 ((mx : Nat) : Int), .int .u64 ((lv : Nat) : Int)] := Whole1.new _ _ _
    have hb4 := hb3'.alloc hb3'.size (Obj.cells #[.int .i64 0, .int .i64 (n : Int), .int .u64 ((sm : Nat) : Int), .int .u64 ((mn : Nat) : Int), .int .u64 ((mx : Nat) : Int), .int .u64 ((lv : Nat) : Int)] 33)
    have hW0 := hidden hWb
    have hB0 := hidden hb4
    clear hWb hb4 hb3'
    go_wp2
    go_loopw [4, 5, 6, 22] (fun least most any i wr => ∃ k : Nat, k ≤ n ∧ i = .int .i64 k ∧ least = .bool (hitB mn (l.take k)) ∧ most = .bool (hitB mx (l.take k)) ∧ any = .bool (anyB (l.take k)) ∧
        Whole1 wr w3.heap.size 33 #[.int .i64 0, .int .i64 (n : Int), .int .u64 ((sm : Nat) : Int), .int .u64 ((mn : Nat) : Int), .int .u64 ((mx : Nat) : Int), .int .u64 ((lv : Nat) : Int)] ∧ Below w.heap.size w wr) (fun _ _ _ i _ => n - (intOf i).toNat)
    case atStart => exact ⟨0, Nat.zero_le _, rfl, rfl, rfl, rfl, hW0.out, hB0.out⟩
    case round =>
      obtain ⟨k, hk, rfl, rfl, rfl, rfl, hWr, hb⟩ := hrel
      by_cases hlt : k < n
      · obtain ⟨gs, o, rfl, x, hx, c0, c1⟩ := smp_cells_at hr hL.out hb k hlt
        have hT := hidden (take_snoc? hx)
        have hxo : x.v < 18446744073709551616 := hok x (List.mem_of_getElem? hx)
        clear hx hr hok
        obtain ⟨xt, xv⟩ := x
        simp only at c0 c1 hxo
        have hM := mask63 xv hxo
        have hxb : Whole1 (wr.alloc (Obj.cells #[.int .i64 xt, .int .u64 ((xv : Nat) : Int)] 44)) wr.heap.size 44 #[.int .i64 xt, .int .u64 ((xv : Nat) : Int)] := Whole1.new _ _ _
        have hW1 := hWr.alloc (Obj.cells #[.int .i64 xt, .int .u64 ((xv : Nat) : Int)] 44)
        have hb1 := hb.alloc hb.size (Obj.cells #[.int .i64 xt, .int .u64 ((xv : Nat) : Int)] 44)
        have hW0 := hidden hW1
        have hX0 := hidden hxb
        have hB0 := hidden hb1
        clear hW1 hxb hb1 hWr hb
        cases hN : nanN xv
        · have hle : ((xv % 9223372036854775808 : Nat) : Int) ≤ 9218868437227405312 := by
            unfold nanN at hN
            rw [decide_eq_false_iff_not] at hN
            omega
          have hN0 := hidden hN
          clear hN
          go_upto_region 12 with (fail)
          have hW1 := hW0.out
          have hX1 := hX0.out
          have hB1 := hB0.out
          clear hW0 hX0 hB0 hM c0 c1
          generalize wr.alloc _ = w5 at hW1 hX1 hB1 ⊢
          have d1 : w5.cell? ⟨wr.heap.size, 1, none⟩ = some (.int .u64 ((xv : Nat) : Int)) := hX1.cell 1
          have m3 : w5.cell? ⟨w3.heap.size, 3, none⟩ = some (.int .u64 ((mn : Nat) : Int)) := hW1.cell 3
          have m4 : w5.cell? ⟨w3.heap.size, 4, none⟩ = some (.int .u64 ((mx : Nat) : Int)) := hW1.cell 4
          have hW0 := hidden hW1
          have hB0 := hidden hB1
          clear hW1 hX1 hB1
          have he1 := hidden (nat_beq xv mn)
          have he2 := hidden (nat_beq xv mx)
          generalize hh1 : hitB mn (List.take k l) = b1
          generalize hh2 : hitB mx (List.take k l) = b2
          have HH1 := hidden hh1
          have HH2 := hidden hh2
          clear hh1 hh2
          cases b1 <;> cases b2
          all_goals
            go_quiet (fail)
            go_wp2
            go_roundw
            case rel =>
              refine ⟨k + 1, by omega, by go_num, ?_, ?_, ?_, hW0.out.drewN _, below_drewN hB0.out _⟩
              · rw [hT.out, hitB_snoc, HH1.out]; simp [hN0.out, he1.out]
              · rw [hT.out, hitB_snoc, HH2.out]; simp [hN0.out, he2.out]
              · rw [hT.out, anyB_snoc]; simp [hN0.out]
            case measure => simp [intOf]; omega
        · have hle : ¬ ((xv % 9223372036854775808 : Nat) : Int) ≤ 9218868437227405312 := by
            unfold nanN at hN
            rw [decide_eq_true_eq] at hN
            omega
          have hN0 := hidden hN
          clear hN
          go_wp2
          go_roundw
          case rel =>
            refine ⟨k + 1, by omega, by go_num, ?_, ?_, ?_, hW0.out, hB0.out⟩
            · rw [hT.out, hitB_snoc]; simp [hN0.out]
            · rw [hT.out, hitB_snoc]; simp [hN0.out]
            · rw [hT.out, anyB_snoc]; simp [hN0.out]
          case measure => simp [intOf]; omega
      · obtain rfl : k = n := by omega
        rw [List.take_of_length_le (by rw [hL.out]; exact Nat.le_refl _)]
        have hW0 := hidden hWr
        have hB9 := hidden hb
        have n2 : wr.cell? ⟨w3.heap.size, 2, none⟩ = some (.int .u64 ((sm : Nat) : Int)) := hWr.cell 2
        have n3 : wr.cell? ⟨w3.heap.size, 3, none⟩ = some (.int .u64 ((mn : Nat) : Int)) := hWr.cell 3
        have n4 : wr.cell? ⟨w3.heap.size, 4, none⟩ = some (.int .u64 ((mx : Nat) : Int)) := hWr.cell 4
        cases ha : anyB l
        · obtain ⟨e1, e2, e3⟩ := hnan.out ha
          subst e1 e2 e3
          clear ha hWr hb hr
          go_wp2
          go_ret
          exact ⟨rfl, hB9.out⟩
        · obtain ⟨e1, e2⟩ := hhit.out ha
          rw [e1, e2]
          obtain ⟨m, rfl⟩ : ∃ m, k = m + 1 := ⟨k - 1, by omega⟩
          obtain ⟨s, hs, hsv⟩ := hlast.out m rfl
          obtain ⟨gs, o, rfl, x, hx, c0, c1⟩ := smp_cells_at hr hL.out hb m (by omega)
          rw [hs] at hx
          injection hx with hx
          subst hx
          rw [hsv] at c1
          have n1 : wr.cell? ⟨w3.heap.size, 1, none⟩ = some (.int .i64 ((m : Int) + 1)) := hWr.cell 1
          have n5 : wr.cell? ⟨w3.heap.size, 5, none⟩ = some (.int .u64 ((lv : Nat) : Int)) := hWr.cell 5
          clear ha hWr hb hr e1 e2 hsv hs n2 n3 n4 c0 hlt
          have t1 : (((m : Int) + 1) == ((m : Int) + 1)) = true := by simp
          have t2 : ((lv : Int) == (lv : Int)) = true := by simp
          have t3 : IntKind.i64.wrap ((m : Int) + 1 - 1) = (m : Int) := by rw [IntKind.wrap_i64]; omega
          have t4 : (m : Int) < (m : Int) + 1 := by omega
          have t5 : (0 : Int) ≤ (m : Int) := by omega
          go_wp2
          go_quiet (fail)
          go_wp2
          go_ret
          exact ⟨rfl, below_drewN hB9.out _⟩

theorem foldBounds_walk {H : Type} (enc : TypeId × Value → H) : LawWalk enc Try.prog 5 Try.f5 (fun _ => True) := by
  intro W base args ds p hval hA hlt hsz _
  rw [Try.params5] at hval hA hsz
  obtain ⟨v1, vs1, d1, ds1, p1, q1, hargs, rfl, rfl, h1, r1⟩ := trodAll_cons hA
  obtain ⟨rfl, rfl, rfl⟩ := trodAll_nil r1
  obtain rfl : args = #[v1] := by cases args; simp_all
  obtain ⟨A, n, c, l, rfl, hnc, hl, hr, hok, hd⟩ := open_smps (hval 0 29 v1 rfl rfl) h1 (fun x hx => hlt x (by simp [hx]))
  have hreach := reach_of hsz (j := 0) rfl rfl Try.underlying29 hd
  rw [bytes_smp] at hreach
  exact foldBounds_any A n c l W hr hl hreach (fun s hs => (hok s hs).1)

namespace foldBounds
set_option maxRecDepth 100000 in
theorem lifted (os : Os) (started : os.Started) (H : Type) (enc : TypeId × Value → H) :
    ReturnsInHanded {} Try.checked os 5 .any (Rows.foldBoundsSpec.pre6 enc Try.prog Try.f5 Rows.foldBoundsRow.domain false) (Rows.foldBoundsSpec.post enc Try.prog Try.f5 false true false false) :=
  law_said (C := Try.checked) (s := Rows.foldBoundsSpec) (tb := 4) own_prog started (by kernel_rfl) Try.func5
    (ChangeSpec.witness6 (enc := enc) (C := Try.checked) false ⟨#[], #[.slice none 0 0], []⟩ 8 (by kernel_rfl) (by kernel_rfl) (by kernel_rfl) (by kernel_rfl))
    laidOut (by kernel_rfl) rfl Try.underlying4 ⟨rfl, fun H ds h => match ds, h with | [_], _ => ⟨rfl, rfl, rfl⟩⟩ (foldBounds_walk enc)

theorem proved : Rows.FoldBoundsSaid :=
  OpenClaim.holds_of_wide 5 Try.f5 rfl rfl rfl rfl rfl rfl rfl ⟨rfl, rfl, rfl, rfl, rfl⟩ rfl rfl rfl rfl rfl (by kernel_rfl) Try.func5 (by kernel_rfl)
    (of_decide_eq_true (by kernel_rfl)) (by unfold Func.isWrapper; first | (rw [if_pos (by decide +kernel)]; kernel_rfl) | (rw [if_neg (by decide +kernel)]; exact ⟨rfl, rfl⟩))
    (fun os started H enc _ => lifted os started H enc)
#print axioms proved
end foldBounds
end Go.Proofs.Ytfcpphfiickpoaa
