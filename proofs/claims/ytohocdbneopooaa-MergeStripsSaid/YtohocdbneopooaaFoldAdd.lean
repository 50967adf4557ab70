/- The folder's method add: what it makes of the folder's six fields. Condition: the fields' bits fit 64 bits, the count is far from int's end. -/
import Derived.Test.YtohocdbneopooaaFoldLeaf
import Derived.Deep.DeepCutAuto
namespace Go.Proofs.Ytohocdbneopooaa
set_option maxRecDepth 100000
open Go.RowKit

/-- The fields of a folder. -/
structure Fd where
  s : Nat
  l : Nat
  m : Nat
  lo : Bool
  hi : Bool
  n : Int

def Fd.cells (f : Fd) : Array Value := #[.float .f64 f.s, .float .f64 f.l, .float .f64 f.m, .bool f.lo, .bool f.hi, .int .i64 f.n]

/-- r may be the sum of x and y: of a sum that is no number, whatever NaN. -/
def FAdd (x y r : Nat) : Prop := Ieee.double.add x y = some r ∨ (Ieee.double.add x y = none ∧ nanB r = true ∧ r < 18446744073709551616)

/-- the sum that may stand behind the call -/
def SumTo (f : Fd) (sum r : Nat) : Prop := (f.n = 0 ∧ r = sum) ∨ (f.n ≠ 0 ∧ FAdd f.s sum r)

def takesLow (f : Fd) (x : Nat) : Bool := !nanB x && (!f.lo || belowB x f.l)
def takesHigh (f : Fd) (x : Nat) : Bool := !nanB x && (!f.hi || belowB f.m x)

def Fd.added (f : Fd) (r least most : Nat) : Fd :=
  { s := r, l := if takesLow f least then least else f.l, m := if takesHigh f most then most else f.m, lo := f.lo || takesLow f least, hi := f.hi || takesHigh f most, n := f.n + 1 }

theorem dbl_sign : Ieee.double.signWeight = 9223372036854775808 := by simp [Ieee.Format.signWeight, Ieee.double]
theorem dbl_binade : Ieee.double.binade = 4503599627370496 := by simp [Ieee.Format.binade, Ieee.double]
theorem dbl_inf : Ieee.double.infRung = 9218868437227405312 := by simp [Ieee.Format.infRung, Ieee.Format.binade, Ieee.double]

theorem read_nan (v : Nat) (h : 9218868437227405312 < v % 9223372036854775808) : ∃ s f, Ieee.double.read v = .nan s f := by
  unfold Ieee.Format.read
  rw [dbl_sign, dbl_binade, dbl_inf]
  dsimp only
  generalize v % 9223372036854775808 = r at *
  rw [if_neg (by omega), if_neg (by omega), if_neg (by omega)]
  exact ⟨_, _, rfl⟩

theorem nanB_of (v : Nat) (h : 9218868437227405312 < v % 9223372036854775808) : nanB v = true := by
  obtain ⟨s, f, hr⟩ := read_nan v h
  simp [nanB, Ieee.Format.order, hr, Ieee.Datum.order]

theorem nan_drawn (a b : Nat) (h1 : a < 2) (h2 : b < 4503599627370495) : nanB (a * 9223372036854775808 + 9218868437227405312 + 1 + b) = true ∧ a * 9223372036854775808 + 9218868437227405312 + 1 + b < 18446744073709551616 := by
  refine ⟨nanB_of _ ?_, by omega⟩
  omega

/-- the sum of two floats in the model: some r that may be it -/
theorem run_fadd {P : Program} (t : TypeId) (x y : Nat) (w : World) : ∃ r n, (binOp .add t (.float .f64 x) (.float .f64 y)).run P w = .ok (.float .f64 r) (w.drewN n) ∧ FAdd x y r := by
  cases h : Ieee.double.add x y with
  | some r => exact ⟨r, 0, by rw [run_float_arith w .add t .f64 x y r h]; rfl, .inl h⟩
  | none =>
    have h' : FloatKind.f64.format.add x y = none := h
    have hc : ∀ t, Question.cut (.nanBits .f64 x y) t = t % 2 * 9223372036854775808 + 9218868437227405312 + 1 + t / 2 % 4503599627370495 := fun t => by simp [Question.cut]
    have hn := nan_drawn (w.tape w.drawn (.nanBits .f64 x y) % 2) (w.tape w.drawn (.nanBits .f64 x y) / 2 % 4503599627370495) (Nat.mod_lt _ (by decide)) (Nat.mod_lt _ (by decide))
    rw [← hc] at hn
    refine ⟨_, 1, ?_, .inr ⟨h, hn⟩⟩
    simp [binOp, Op.floatArith, h', choose, Sem.run, Question.forced, World.drewN]


theorem run_store_f64 (P : Program) (w : World) (a : Addr) (m : Mode) (k : FloatKind) (b : Nat) : (store a (.float k b) m).run P w = stored P w a (.float k b) m := run_store P w a _ m rfl
attribute [local go_sem] run_store_f64

set_option maxHeartbeats 1600000 in
theorem add_any (f : Fd) (g sum least most : Nat) (w : World) (hw : Whole1 w g 184 f.cells) (hn : 0 ≤ f.n) (hn2 : f.n ≤ 4611686018427387904)
    (b1 : least < 18446744073709551616) (b2 : most < 18446744073709551616) (b3 : f.l < 18446744073709551616) (b4 : f.m < 18446744073709551616) :
    Calls Try.prog 130 #[.pointer (some ⟨g, 0, none⟩), .float .f64 sum, .float .f64 least, .float .f64 most] w
      fun e w' => e = .returned (.tuple #[]) ∧ ∃ r, SumTo f sum r ∧ Whole1 w' g 184 (f.added r least most).cells ∧ w.grownBy w' (some g) := by
  obtain ⟨s, l, m, lo, hi, n⟩ := f
  simp only at hn hn2 b3 b4
  have c0 : w.cell? ⟨g, 0, none⟩ = some (.float .f64 s) := hw.cell 0
  have c5 : w.cell? ⟨g, 5, none⟩ = some (.int .i64 n) := hw.cell 5
  have f0 := hw.free 0
  obtain ⟨r, k, hr, hF⟩ := run_fadd (P := Try.prog) 182 s sum w
  have hw0 := hidden hw
  have hF0 := hidden hF
  clear hw hF
  go_enter Try.func130, Try.ntmps130
  go_upto_if 12 with (fail)
  go_cut [] (fun wx => ∃ r, SumTo ⟨s, l, m, lo, hi, n⟩ sum r ∧ Whole1 wx g 184 (Fd.mk r l m lo hi n).cells ∧ w.grownBy wx (some g))
  case first =>
    by_cases h0 : n = 0
    · have h0' : (n == 0) = true := by simp [h0]
      have H0 := hidden h0
      clear h0
      go_wp2
      go_meet
      exact ⟨sum, .inl ⟨H0.out, rfl⟩, hw0.out.put 0 _, gb_put (gb_refl _ _) _ _⟩
    · have h0' : (n == 0) = false := by simp [h0]
      have H0 := hidden h0
      clear h0
      go_wp2
      go_meet
      exact ⟨r, .inr ⟨H0.out, hF0.out⟩, (hw0.out.drewN k).put 0 _, gb_put (gb_drewN (gb_refl _ _) _) _ _⟩
  case rest =>
    clear c0 c5 f0 hr hw0 hF0
    obtain ⟨r, hr, hw, hg⟩ := hcut
    have hR := hidden hr
    clear hr
    have c1 : wc.cell? ⟨g, 1, none⟩ = some (.float .f64 l) := hw.cell 1
    have c3 : wc.cell? ⟨g, 3, none⟩ = some (.bool lo) := hw.cell 3
    have c5 : wc.cell? ⟨g, 5, none⟩ = some (.int .i64 n) := hw.cell 5
    have f1 := hw.free 1
    have f3 := hw.free 3
    have f5 := hw.free 5
    have hw1 := hidden (hw.put 5 (.int .i64 (n + 1)))
    have hg1 := hidden (gb_put hg 5 (.int .i64 (n + 1)))
    clear hw hg
    have HL : takesLow ⟨s, l, m, lo, hi, n⟩ least = (!nanB least && (!lo || belowB least l)) := rfl
    have HH : takesHigh ⟨s, l, m, lo, hi, n⟩ most = (!nanB most && (!hi || belowB m most)) := rfl
    have HL0 := hidden HL
    have HH0 := hidden HH
    clear HL HH
    go_upto_region 4 with (fail)
    go_cut [49] (fun v wx => v = .bool (takesLow ⟨s, l, m, lo, hi, n⟩ least) ∧ wx = wc.setCell ⟨g, 5, none⟩ (.int .i64 (n + 1)))
    case first =>
      clear HH0
      cases h1 : nanB least
      · cases lo
        · go_wp2_with (go_at_call 146; refine (isNaN_any _ _).mono ?_; rintro e w' ⟨rfl, rfl⟩)
          go_meet
          exact ⟨by rw [HL0.out]; simp [h1], rfl⟩
        · go_wp2_with (first | (go_at_call 146; refine (isNaN_any _ _).mono ?_; rintro e w' ⟨rfl, rfl⟩) | (go_at_call 147; refine (below_any _ _ _ (by assumption) (by assumption)).mono ?_; rintro e w' ⟨rfl, rfl⟩))
          go_meet
          exact ⟨by rw [HL0.out]; simp [h1], rfl⟩
      · go_wp2_with (go_at_call 146; refine (isNaN_any _ _).mono ?_; rintro e w' ⟨rfl, rfl⟩)
        go_meet
        exact ⟨by rw [HL0.out]; simp [h1], rfl⟩
    case rest =>
      obtain ⟨rfl, rfl⟩ := hcut
      clear c1 c3 c5 f1 f3 f5
      obtain ⟨w2, hw2⟩ : ∃ w2, w2 = wc.setCell ⟨g, 5, none⟩ (.int .i64 (n + 1)) := ⟨_, rfl⟩
      rw [← hw2] at hw1 hg1 ⊢
      clear hw2
      have hw := hw1.out
      have c2 : w2.cell? ⟨g, 2, none⟩ = some (.float .f64 m) := hw.cell 2
      have c4 : w2.cell? ⟨g, 4, none⟩ = some (.bool hi) := hw.cell 4
      have f1 := hw.free 1
      have f3 := hw.free 3
      clear hw
      go_upto_if 49 with (fail)
      go_cut [] (fun wx => Whole1 wx g 184 (Fd.mk r (if takesLow ⟨s, l, m, lo, hi, n⟩ least then least else l) m (lo || takesLow ⟨s, l, m, lo, hi, n⟩ least) hi (n + 1)).cells ∧ w.grownBy wx (some g))
      case first =>
        have c1 : w2.cell? ⟨g, 1, none⟩ = some (.float .f64 l) := hw1.out.cell 1
        have c3 : w2.cell? ⟨g, 3, none⟩ = some (.bool lo) := hw1.out.cell 3
        clear HL0 HH0 c2 c4
        cases ht : takesLow ⟨s, l, m, lo, hi, n⟩ least
        · have ht0 := hidden ht
          clear ht
          go_wp2
          go_meet
          exact ⟨by simpa [Fd.cells, ht0.out] using hw1.out, hg1.out⟩
        · have ht0 := hidden ht
          clear ht
          go_wp2
          go_meet
          exact ⟨by simpa [Fd.cells, ht0.out] using (hw1.out.put 1 (.float .f64 least)).put 3 (.bool true), gb_put (gb_put hg1.out _ _) _ _⟩
      case rest =>
        obtain ⟨hw', hg'⟩ := hcut
        obtain ⟨lo', hlo'⟩ : ∃ x, x = (lo || takesLow ⟨s, l, m, lo, hi, n⟩ least) := ⟨_, rfl⟩
        obtain ⟨l', hl'⟩ : ∃ x, x = (if takesLow ⟨s, l, m, lo, hi, n⟩ least = true then least else l) := ⟨_, rfl⟩
        rw [← hlo', ← hl'] at hw'
        have hlo0 := hidden hlo'
        have hl0 := hidden hl'
        have hw0 := hidden hw'
        have hg0 := hidden hg'
        clear hlo' hl' hw' hg' hw1 hg1 HL0 c2 c4 f1 f3 w2
        have d2 : wc.cell? ⟨g, 2, none⟩ = some (.float .f64 m) := hw0.out.cell 2
        have d4 : wc.cell? ⟨g, 4, none⟩ = some (.bool hi) := hw0.out.cell 4
        have f2 := hw0.out.free 2
        have f4 := hw0.out.free 4
        go_upto_region 6 with (fail)
        go_cut [74] (fun v wx => v = .bool (takesHigh ⟨s, l, m, lo, hi, n⟩ most) ∧ wx = wc)
        case first =>
          cases h1 : nanB most
          · cases hi
            · go_wp2_with (go_at_call 146; refine (isNaN_any _ _).mono ?_; rintro e w' ⟨rfl, rfl⟩)
              go_meet
              exact ⟨by rw [HH0.out]; simp [h1], rfl⟩
            · go_wp2_with (first | (go_at_call 146; refine (isNaN_any _ _).mono ?_; rintro e w' ⟨rfl, rfl⟩) | (go_at_call 147; refine (below_any _ _ _ (by assumption) (by assumption)).mono ?_; rintro e w' ⟨rfl, rfl⟩))
              go_meet
              exact ⟨by rw [HH0.out]; simp [h1], rfl⟩
          · go_wp2_with (go_at_call 146; refine (isNaN_any _ _).mono ?_; rintro e w' ⟨rfl, rfl⟩)
            go_meet
            exact ⟨by rw [HH0.out]; simp [h1], rfl⟩
        case rest =>
          obtain ⟨rfl, rfl⟩ := hcut
          cases ht : takesHigh ⟨s, l, m, lo, hi, n⟩ most
          · have ht0 := hidden ht
            clear ht
            go_wp2
            go_end0
            refine ⟨rfl, r, hR.out, ?_, hg0.out⟩
            have h1 := hw0.out
            rw [hlo0.out, hl0.out] at h1
            simpa [Fd.cells, Fd.added, ht0.out] using h1
          · have ht0 := hidden ht
            clear ht
            go_wp2
            go_end0
            refine ⟨rfl, r, hR.out, ?_, gb_put (gb_put hg0.out _ _) _ _⟩
            have h1 := (hw0.out.put 2 (.float .f64 most)).put 4 (.bool true)
            rw [hlo0.out, hl0.out] at h1
            simpa [Fd.cells, Fd.added, ht0.out] using h1

end Go.Proofs.Ytohocdbneopooaa
