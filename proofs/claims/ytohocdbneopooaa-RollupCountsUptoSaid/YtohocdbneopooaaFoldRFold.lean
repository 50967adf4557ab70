/- The reference's floats: isNaN, order, Sum, Least, Greatest: what each returns. Condition: the bits fit 64 bits. Plain laws of floats: the order of two floats that are no NaNs is that of their numbers; NaNs by their bits; a sum's bits. No program. The reference's Fold: what it returns. Condition: the samples' values fit 64 bits; the row is within the reach. -/
import Derived.Test.YtohocdbneopooaaFoldCells
namespace Go.Proofs.Ytohocdbneopooaa
set_option maxRecDepth 100000
open Go.RowKit

attribute [local go_sem] ext_frombits ext_bits

/-- are these the bits of a NaN? -/
def nanN (v : Nat) : Bool := decide (9218868437227405312 < v % 9223372036854775808)
def ordN (v : Nat) : Nat := if 9223372036854775808 ≤ v then 18446744073709551615 - v else v + 9223372036854775808

theorem mask63 (v : Nat) (h : v < 18446744073709551616) : bits .and .u64 (v : Int) 9223372036854775807 = ((v % 9223372036854775808 : Nat) : Int) := by
  rw [show (9223372036854775807 : Int) = ((9223372036854775807 : Nat) : Int) from rfl, u64_and_nat v _ h (by omega)]
  rw [Nat.and_two_pow_sub_one_eq_mod v 63]

set_option maxHeartbeats 400000 in
theorem risNaN_any (v : Nat) (w : World) (h : v < 18446744073709551616) :
    Calls Try.prog 150 #[.int .u64 v] w fun e w' => e = .returned (.bool (nanN v)) ∧ w = w' := by
  have hM := hidden (mask63 v h)
  clear h
  go_enter Try.func150, Try.ntmps150
  go_wp2
  go_ret
  refine ⟨ret_bool ?_, rfl⟩
  rw [hM.out]
  unfold nanN
  rw [decide_eq_decide]
  omega

set_option maxHeartbeats 400000 in
theorem rorder_any (v : Nat) (w : World) (h : v < 18446744073709551616) :
    Calls Try.prog 151 #[.int .u64 v] w fun e w' => e = .returned (.int .u64 (ordN v : Nat)) ∧ w = w' := by
  by_cases hv : 9223372036854775808 ≤ v
  · have hO : Hid (ordN v = 18446744073709551615 - v) := if_pos hv
    have h1 : ((v : Int) / 9223372036854775808 == 1) = true := by rw [beq_iff_eq]; omega
    go_enter Try.func151, Try.ntmps151
    go_wp2
    go_ret
    exact ⟨ret_int (by rw [hO.out]; omega), rfl⟩
  · have hO : Hid (ordN v = v + 9223372036854775808) := if_neg hv
    have h1 : ((v : Int) / 9223372036854775808 == 1) = false := by rw [beq_eq_false_iff_ne]; omega
    have h2 : v < 9223372036854775808 := by omega
    have h3 : IntKind.u64.wrap ((v : Int) + 9223372036854775808) = (v : Int) + 9223372036854775808 := by
      rw [IntKind.wrap_u64]; omega
    clear hv
    go_enter Try.func151, Try.ntmps151
    go_wp2
    go_ret
    exact ⟨ret_int (by rw [hO.out]; omega), rfl⟩

def u64s (l : List Nat) : List Value := l.map fun (x : Nat) => Value.int .u64 (x : Int)
theorem u64s_at (l : List Nat) (k : Nat) (h : k < l.length) : (u64s l)[k]? = some (.int .u64 (l[k] : Nat)) := by simp [u64s, h]

theorem FAdd.lt {x y r : Nat} (h : FAdd x y r) : r < 18446744073709551616 := by
  rcases h with h | ⟨_, _, h⟩
  · have := Ieee.double.add_lt h
    simpa [Ieee.Format.width, Ieee.double] using this
  · exact h

/-- r may be the sum of these, in order. -/
inductive SumOf : List Nat → Nat → Prop where
  | one {x : Nat} : SumOf [x] x
  | snoc {l : List Nat} {s y r : Nat} : SumOf l s → FAdd s y r → SumOf (l ++ [y]) r

theorem SumOf.lt {l : List Nat} {r : Nat} (h : SumOf l r) (hl : ∀ x ∈ l, x < 18446744073709551616) : r < 18446744073709551616 := by
  cases h with
  | one => exact hl _ (by simp)
  | snoc _ h => exact h.lt

set_option maxHeartbeats 1600000 in
theorem rsum_any (A : Option Addr) (n cap : Nat) (l : List Nat) (w : World) (B : Nat) (hr : Row w B 1 A n (u64s l)) (hl : l.length = n) (hn : n ≤ 4611686018427387904) (hn1 : 1 ≤ n) (hlt : ∀ x ∈ l, x < 18446744073709551616) :
    Calls Try.prog 132 #[.slice A n cap] w fun e w' => ∃ r, SumOf l r ∧ e = .returned (.int .u64 (if nanN r then 9221120237041090560 else r : Nat)) ∧ ∃ m, w' = w.drewN m := by
  have hL := hidden hl
  clear hl
  obtain ⟨gs, o, rfl, hgs, hc⟩ := hr.at_ (by omega)
  have hk0 : 0 < l.length := by rw [hL.out]; exact hn1
  have c0 : w.cell? ⟨gs, o, none⟩ = some (.int .u64 (l[0] : Nat)) := (hc 0 (by omega)).trans (u64s_at l 0 hk0)
  have hn1' : (0 : Int) < (n : Int) := by omega
  go_enter Try.func132, Try.ntmps132
  go_wp2
  go_loopw [3, 4] (fun x i wr => ∃ k : Nat, 1 ≤ k ∧ k ≤ n ∧ i = .int .i64 k ∧ (∃ r, SumOf (l.take k) r ∧ x = .float .f64 r) ∧ ∃ m, wr = w.drewN m) (fun _ i _ => n - (intOf i).toNat)
  case atStart =>
    refine ⟨1, Nat.le_refl _, hn1, rfl, ⟨l[0], ?_, rfl⟩, 0, rfl⟩
    have := take_succ_snoc l 0 hk0
    rw [List.take_zero, List.nil_append, Nat.zero_add] at this
    rw [this]; exact .one
  case round =>
    obtain ⟨k, hk1, hk, rfl, ⟨r, hS, rfl⟩, m, rfl⟩ := hrel
    by_cases hkn : k < n
    · have hkl : k < l.length := by rw [hL.out]; exact hkn
      have ck : w.cell? ⟨gs, o + k, none⟩ = some (.int .u64 (l[k] : Nat)) := (hc k (by omega)).trans (u64s_at l k hkl)
      have hT := hidden (take_succ_snoc l k hkl)
      clear c0
      generalize l[k] = x at ck hT
      obtain ⟨r', m', hrun, hF⟩ := run_fadd (P := Try.prog) 182 r x (w.drewN m)
      have hS' := hidden (hS.snoc hF)
      clear hS hF hc hr hlt
      go_wp2
      go_roundw
      case rel => exact ⟨k + 1, by omega, by omega, by go_num, ⟨r', by rw [hT.out]; exact hS'.out, rfl⟩, _, rfl⟩
      case measure => simp [intOf]; omega
    · obtain rfl : k = n := by omega
      have hlt' := hS.lt (fun x hx => hlt x (List.mem_of_mem_take hx))
      rw [List.take_of_length_le (by rw [hL.out]; exact Nat.le_refl _)] at hS
      have hS' := hidden hS
      clear hS hlt hc c0 hr
      cases hN : nanN r
      all_goals
        have hN0 := hidden hN
        clear hN
        go_wp2_with (go_at_call 150; refine (risNaN_any _ _ hlt').mono ?_; rw [hN0.out]; rintro e w' ⟨rfl, rfl⟩)
        go_ret
        exact ⟨r, hS'.out, by rw [hN0.out]; rfl, m, rfl⟩

def leastStep (s : Bool × Nat) (v : Nat) : Bool × Nat := if nanN v then s else (true, if !s.1 || decide (ordN v < ordN s.2) then v else s.2)
def leastOf (l : List Nat) : Bool × Nat := l.foldl leastStep (false, 9221120237041090560)

theorem leastOf_lt {l : List Nat} (h : ∀ x ∈ l, x < 18446744073709551616) : (leastOf l).2 < 18446744073709551616 := by
  suffices H : ∀ (l : List Nat) (s : Bool × Nat), (∀ x ∈ l, x < 18446744073709551616) → s.2 < 18446744073709551616 → (l.foldl leastStep s).2 < 18446744073709551616 from H l _ h (by decide)
  intro l
  induction l with
  | nil => intro s _ hs; exact hs
  | cons a l ih =>
    intro s hl hs
    refine ih _ (fun x hx => hl x (by simp [hx])) ?_
    have ha := hl a (by simp)
    unfold leastStep
    split
    · exact hs
    · dsimp only; split
      · exact ha
      · exact hs

theorem leastOf_snoc (l : List Nat) (v : Nat) : leastOf (l ++ [v]) = leastStep (leastOf l) v := by simp [leastOf]

set_option maxHeartbeats 1600000 in
theorem rleast_any (A : Option Addr) (n cap : Nat) (l : List Nat) (w : World) (B : Nat) (hr : Row w B 1 A n (u64s l)) (hl : l.length = n) (hn : n ≤ 4611686018427387904) (hlt : ∀ x ∈ l, x < 18446744073709551616) :
    Calls Try.prog 133 #[.slice A n cap] w fun e w' => e = .returned (.int .u64 ((leastOf l).2 : Nat)) ∧ w = w' := by
  have hL := hidden hl
  clear hl
  go_enter Try.func133, Try.ntmps133
  go_wp2
  go_loop [3, 4, 5] (fun out any i => ∃ k : Nat, k ≤ n ∧ i = .int .i64 k ∧ any = .bool (leastOf (l.take k)).1 ∧ out = .int .u64 ((leastOf (l.take k)).2 : Nat)) (fun _ _ i => n - (intOf i).toNat)
  case atStart => exact ⟨0, Nat.zero_le _, rfl, rfl, rfl⟩
  case round =>
    obtain ⟨k, hk, rfl, rfl, rfl⟩ := hrel
    by_cases hkn : k < n
    · have hkl : k < l.length := by rw [hL.out]; exact hkn
      obtain ⟨gs, o, rfl, hgs, hc⟩ := hr.at_ (by omega)
      have c0 : w.cell? ⟨gs, o + k, none⟩ = some (.int .u64 (l[k] : Nat)) := (hc k (by omega)).trans (u64s_at l k hkl)
      have hT := hidden (by rw [take_succ_snoc l k hkl, leastOf_snoc] : leastOf (l.take (k + 1)) = leastStep (leastOf (l.take k)) l[k])
      have hv := hlt l[k] (List.getElem_mem hkl)
      have hs := leastOf_lt (l := l.take k) (fun x hx => hlt x (List.mem_of_mem_take hx))
      clear hc hr hlt
      generalize leastOf (l.take k) = s at hT hs ⊢
      generalize l[k] = x at hT hv c0 ⊢
      obtain ⟨any, out⟩ := s
      simp only at hs
      cases hN : nanN x
      · have hN0 := hidden hN
        have hS : Hid (leastStep (any, out) x = (true, if !any || decide (ordN x < ordN out) then x else out)) := by
          show leastStep (any, out) x = _
          unfold leastStep; rw [hN]; rfl
        cases any
        · go_wp2_with (go_at_call 150; refine (risNaN_any _ _ hv).mono ?_; rw [hN0.out]; rintro e w' ⟨rfl, rfl⟩)
          go_round
          case rel => exact ⟨k + 1, by omega, by go_num, by rw [hT.out, hS.out], by rw [hT.out, hS.out]; rfl⟩
          case measure => simp [intOf]; omega
        · by_cases hlo : ordN x < ordN out
          all_goals
            have hlo' : ((ordN x : Nat) : Int) < ((ordN out : Nat) : Int) ↔ ordN x < ordN out := by omega
            have hlo0 := hidden hlo
            have hlo1 := hlo'.symm
            clear hlo'
          · have hlo2 := hlo1.1 hlo0.out
            clear hlo hlo1
            go_wp2_with (first | (go_at_call 150; refine (risNaN_any _ _ hv).mono ?_; rw [hN0.out]; rintro e w' ⟨rfl, rfl⟩) | (go_at_call 151; refine (rorder_any _ _ (by assumption)).mono ?_; rintro e w' ⟨rfl, rfl⟩))
            go_round
            case rel => exact ⟨k + 1, by omega, by go_num, by rw [hT.out, hS.out], by rw [hT.out, hS.out]; simp [hlo0.out]⟩
            case measure => simp [intOf]; omega
          · have hlo2 := mt hlo1.2 hlo0.out
            clear hlo hlo1
            go_wp2_with (first | (go_at_call 150; refine (risNaN_any _ _ hv).mono ?_; rw [hN0.out]; rintro e w' ⟨rfl, rfl⟩) | (go_at_call 151; refine (rorder_any _ _ (by assumption)).mono ?_; rintro e w' ⟨rfl, rfl⟩))
            go_round
            case rel => exact ⟨k + 1, by omega, by go_num, by rw [hT.out, hS.out], by rw [hT.out, hS.out]; simp [hlo0.out]⟩
            case measure => simp [intOf]; omega
      · have hN0 := hidden hN
        have hS : Hid (leastStep (any, out) x = (any, out)) := by
          show leastStep (any, out) x = _
          unfold leastStep; rw [hN]; rfl
        clear hN
        go_wp2_with (go_at_call 150; refine (risNaN_any _ _ hv).mono ?_; rw [hN0.out]; rintro e w' ⟨rfl, rfl⟩)
        go_round
        case rel => exact ⟨k + 1, by omega, by go_num, by rw [hT.out, hS.out], by rw [hT.out, hS.out]⟩
        case measure => simp [intOf]; omega
    · obtain rfl : k = n := by omega
      go_wp2
      go_ret
      exact ⟨ret_int (by rw [List.take_of_length_le (by rw [hL.out]; exact Nat.le_refl _)]), rfl⟩

def greatStep (s : Bool × Nat) (v : Nat) : Bool × Nat := if nanN v then s else (true, if !s.1 || decide (ordN s.2 < ordN v) then v else s.2)
def greatOf (l : List Nat) : Bool × Nat := l.foldl greatStep (false, 9221120237041090560)

theorem greatOf_lt {l : List Nat} (h : ∀ x ∈ l, x < 18446744073709551616) : (greatOf l).2 < 18446744073709551616 := by
  suffices H : ∀ (l : List Nat) (s : Bool × Nat), (∀ x ∈ l, x < 18446744073709551616) → s.2 < 18446744073709551616 → (l.foldl greatStep s).2 < 18446744073709551616 from H l _ h (by decide)
  intro l
  induction l with
  | nil => intro s _ hs; exact hs
  | cons a l ih =>
    intro s hl hs
    refine ih _ (fun x hx => hl x (by simp [hx])) ?_
    have ha := hl a (by simp)
    unfold greatStep
    split
    · exact hs
    · dsimp only; split
      · exact ha
      · exact hs

theorem greatOf_snoc (l : List Nat) (v : Nat) : greatOf (l ++ [v]) = greatStep (greatOf l) v := by simp [greatOf]

set_option maxHeartbeats 1600000 in
theorem rgreatest_any (A : Option Addr) (n cap : Nat) (l : List Nat) (w : World) (B : Nat) (hr : Row w B 1 A n (u64s l)) (hl : l.length = n) (hn : n ≤ 4611686018427387904) (hlt : ∀ x ∈ l, x < 18446744073709551616) :
    Calls Try.prog 134 #[.slice A n cap] w fun e w' => e = .returned (.int .u64 ((greatOf l).2 : Nat)) ∧ w = w' := by
  have hL := hidden hl
  clear hl
  go_enter Try.func134, Try.ntmps134
  go_wp2
  go_loop [3, 4, 5] (fun out any i => ∃ k : Nat, k ≤ n ∧ i = .int .i64 k ∧ any = .bool (greatOf (l.take k)).1 ∧ out = .int .u64 ((greatOf (l.take k)).2 : Nat)) (fun _ _ i => n - (intOf i).toNat)
  case atStart => exact ⟨0, Nat.zero_le _, rfl, rfl, rfl⟩
  case round =>
    obtain ⟨k, hk, rfl, rfl, rfl⟩ := hrel
    by_cases hkn : k < n
    · have hkl : k < l.length := by rw [hL.out]; exact hkn
      obtain ⟨gs, o, rfl, hgs, hc⟩ := hr.at_ (by omega)
      have c0 : w.cell? ⟨gs, o + k, none⟩ = some (.int .u64 (l[k] : Nat)) := (hc k (by omega)).trans (u64s_at l k hkl)
      have hT := hidden (by rw [take_succ_snoc l k hkl, greatOf_snoc] : greatOf (l.take (k + 1)) = greatStep (greatOf (l.take k)) l[k])
      have hv := hlt l[k] (List.getElem_mem hkl)
      have hs := greatOf_lt (l := l.take k) (fun x hx => hlt x (List.mem_of_mem_take hx))
      clear hc hr hlt
      generalize greatOf (l.take k) = s at hT hs ⊢
      generalize l[k] = x at hT hv c0 ⊢
      obtain ⟨any, out⟩ := s
      simp only at hs
      cases hN : nanN x
      · have hN0 := hidden hN
        have hS : Hid (greatStep (any, out) x = (true, if !any || decide (ordN out < ordN x) then x else out)) := by
          show greatStep (any, out) x = _
          unfold greatStep; rw [hN]; rfl
        cases any
        · go_wp2_with (go_at_call 150; refine (risNaN_any _ _ hv).mono ?_; rw [hN0.out]; rintro e w' ⟨rfl, rfl⟩)
          go_round
          case rel => exact ⟨k + 1, by omega, by go_num, by rw [hT.out, hS.out], by rw [hT.out, hS.out]; rfl⟩
          case measure => simp [intOf]; omega
        · by_cases hlo : ordN out < ordN x
          all_goals
            have hlo' : ((ordN out : Nat) : Int) < ((ordN x : Nat) : Int) ↔ ordN out < ordN x := by omega
            have hlo0 := hidden hlo
            have hlo1 := hlo'.symm
            clear hlo'
          · have hlo2 := hlo1.1 hlo0.out
            clear hlo hlo1
            go_wp2_with (first | (go_at_call 150; refine (risNaN_any _ _ hv).mono ?_; rw [hN0.out]; rintro e w' ⟨rfl, rfl⟩) | (go_at_call 151; refine (rorder_any _ _ (by assumption)).mono ?_; rintro e w' ⟨rfl, rfl⟩))
            go_round
            case rel => exact ⟨k + 1, by omega, by go_num, by rw [hT.out, hS.out], by rw [hT.out, hS.out]; simp [hlo0.out]⟩
            case measure => simp [intOf]; omega
          · have hlo2 := mt hlo1.2 hlo0.out
            clear hlo hlo1
            go_wp2_with (first | (go_at_call 150; refine (risNaN_any _ _ hv).mono ?_; rw [hN0.out]; rintro e w' ⟨rfl, rfl⟩) | (go_at_call 151; refine (rorder_any _ _ (by assumption)).mono ?_; rintro e w' ⟨rfl, rfl⟩))
            go_round
            case rel => exact ⟨k + 1, by omega, by go_num, by rw [hT.out, hS.out], by rw [hT.out, hS.out]; simp [hlo0.out]⟩
            case measure => simp [intOf]; omega
      · have hN0 := hidden hN
        have hS : Hid (greatStep (any, out) x = (any, out)) := by
          show greatStep (any, out) x = _
          unfold greatStep; rw [hN]; rfl
        clear hN
        go_wp2_with (go_at_call 150; refine (risNaN_any _ _ hv).mono ?_; rw [hN0.out]; rintro e w' ⟨rfl, rfl⟩)
        go_round
        case rel => exact ⟨k + 1, by omega, by go_num, by rw [hT.out, hS.out], by rw [hT.out, hS.out]⟩
        case measure => simp [intOf]; omega
    · obtain rfl : k = n := by omega
      go_wp2
      go_ret
      exact ⟨ret_int (by rw [List.take_of_length_le (by rw [hL.out]; exact Nat.le_refl _)]), rfl⟩

end Go.Proofs.Ytohocdbneopooaa

namespace Go.Proofs.Ytohocdbneopooaa
set_option maxRecDepth 100000
open Go.RowKit

/-- magnitudes in units of the least one -/
def mag (r : Nat) : Nat := if r < 4503599627370496 then r else (4503599627370496 + r % 4503599627370496) * 2 ^ (r / 4503599627370496 - 1)

theorem mag_succ (r : Nat) : mag r < mag (r + 1) := by
  unfold mag
  by_cases h : r + 1 < 4503599627370496
  · rw [if_pos (by omega), if_pos h]; omega
  · rw [if_neg h]
    by_cases h2 : r < 4503599627370496
    · have : r + 1 = 4503599627370496 := by omega
      rw [if_pos h2, this]; simp; omega
    · rw [if_neg h2]
      by_cases h3 : r % 4503599627370496 + 1 < 4503599627370496
      · have e1 : (r + 1) / 4503599627370496 = r / 4503599627370496 := by omega
        have e2 : (r + 1) % 4503599627370496 = r % 4503599627370496 + 1 := by omega
        rw [e1, e2]
        exact Nat.mul_lt_mul_of_pos_right (by omega) (Nat.two_pow_pos _)
      · have e1 : (r + 1) / 4503599627370496 = r / 4503599627370496 + 1 := by omega
        have e2 : (r + 1) % 4503599627370496 = 0 := by omega
        have e3 : 1 ≤ r / 4503599627370496 := by omega
        rw [e1, e2]
        obtain ⟨q, hq⟩ : ∃ q, r / 4503599627370496 = q + 1 := ⟨_, (Nat.sub_add_cancel e3).symm⟩
        rw [hq, show q + 1 + 1 - 1 = q + 1 from rfl, show q + 1 - 1 = q from rfl, Nat.pow_succ]
        have hp := Nat.two_pow_pos q
        generalize 2 ^ q = p at *
        have hm : r % 4503599627370496 < 4503599627370496 := Nat.mod_lt _ (by decide)
        generalize r % 4503599627370496 = m at *
        have : (4503599627370496 + m) * p < (4503599627370496 * 2) * p := Nat.mul_lt_mul_of_pos_right (by omega) hp
        rw [Nat.mul_comm p 2, ← Nat.mul_assoc]
        simpa using this

theorem mag_lt {a b : Nat} (h : a < b) : mag a < mag b := by
  induction b with
  | zero => omega
  | succ b ih =>
    rcases Nat.lt_or_ge a b with h1 | h1
    · exact Nat.lt_trans (ih h1) (mag_succ b)
    · have : a = b := by omega
      subst this; exact mag_succ a

theorem mag_lt_iff {a b : Nat} : mag a < mag b ↔ a < b := by
  refine ⟨fun h => ?_, mag_lt⟩
  rcases Nat.lt_or_ge a b with h1 | h1
  · exact h1
  · rcases Nat.lt_or_eq_of_le h1 with h2 | h2
    · have := mag_lt h2; omega
    · subst h2; omega

theorem mag_eq_iff {a b : Nat} : mag a = mag b ↔ a = b := by
  refine ⟨fun h => ?_, fun h => by rw [h]⟩
  rcases Nat.lt_trichotomy a b with h1 | h1 | h1
  · have := mag_lt h1; omega
  · exact h1
  · have := mag_lt h1; omega

def key (v : Nat) : Int := if v / 9223372036854775808 % 2 == 1 then -((mag (v % 9223372036854775808) : Nat) : Int) else ((mag (v % 9223372036854775808) : Nat) : Int)

theorem compare_mul (x y : Int) (c : Int) (hc : 0 < c) : compare (x * c) (y * c) = compare x y := by
  simp only [compare, compareOfLessAndEq]
  have h1 : x * c < y * c ↔ x < y := Int.mul_lt_mul_right hc
  have h2 : x * c = y * c ↔ x = y := Int.mul_eq_mul_right_iff (by omega)
  simp only [h1, h2]

theorem signed_mul (s : Bool) (m up d : Nat) : Ieee.signed s m up * ((2 ^ d : Nat) : Int) = Ieee.signed s m (up + d) := by
  unfold Ieee.signed
  have h : ((m <<< up : Nat) : Int) * ((2 ^ d : Nat) : Int) = ((m <<< (up + d) : Nat) : Int) := by
    rw [← Int.natCast_mul, Nat.shiftLeft_eq, Nat.shiftLeft_eq, Nat.pow_add, Nat.mul_assoc]
  cases s
  · simpa using h
  · simp only [if_true]
    rw [Int.neg_mul, h]

/-- What a word below infinity reads as. -/
theorem read_fin (v : Nat) (h : v % 9223372036854775808 < 9218868437227405312) : ∃ (m e : Nat), Ieee.double.read v = .number (v / 9223372036854775808 % 2 == 1) m (Ieee.double.leastPlace + (e : Int)) ∧ m * 2 ^ e = mag (v % 9223372036854775808) := by
  unfold Ieee.Format.read mag
  rw [dbl_sign, dbl_binade, dbl_inf]
  dsimp only
  generalize v % 9223372036854775808 = r at *
  by_cases h1 : r < 4503599627370496
  · rw [if_pos h1, if_pos h1]
    exact ⟨r, 0, by simp, by simp⟩
  · rw [if_neg h1, if_pos h, if_neg h1]
    exact ⟨_, r / 4503599627370496 - 1, rfl, rfl⟩

theorem read_inf (v : Nat) (h : v % 9223372036854775808 = 9218868437227405312) : Ieee.double.read v = .infinity (v / 9223372036854775808 % 2 == 1) := by
  unfold Ieee.Format.read
  rw [dbl_sign, dbl_binade, dbl_inf]
  dsimp only
  rw [h, if_neg (by omega), if_neg (by omega), if_pos rfl]

theorem order_fin (s t : Bool) (m n e f : Nat) (lp : Int) : Ieee.Datum.order (.number s m (lp + (e : Int))) (.number t n (lp + (f : Int))) =
    some (compare (Ieee.signed s (m * 2 ^ e) 0) (Ieee.signed t (n * 2 ^ f) 0)) := by
  have hmin : min (lp + (e : Int)) (lp + (f : Int)) = lp + ((min e f : Nat) : Int) := by omega
  simp only [Ieee.Datum.order]
  rw [hmin]
  have e1 : (lp + (e : Int) - (lp + ((min e f : Nat) : Int))).toNat = e - min e f := by omega
  have e2 : (lp + (f : Int) - (lp + ((min e f : Nat) : Int))).toNat = f - min e f := by omega
  rw [e1, e2, ← compare_mul _ _ ((2 ^ (min e f) : Nat) : Int) (by have := Nat.two_pow_pos (min e f); omega), signed_mul, signed_mul]
  rw [show e - min e f + min e f = e from by omega, show f - min e f + min e f = f from by omega]
  congr 2
  · unfold Ieee.signed; rw [Nat.shiftLeft_eq, Nat.shiftLeft_zero]
  · unfold Ieee.signed; rw [Nat.shiftLeft_eq, Nat.shiftLeft_zero]

theorem signed_key (v : Nat) : Ieee.signed (v / 9223372036854775808 % 2 == 1) (mag (v % 9223372036854775808)) 0 = key v := by
  unfold Ieee.signed key
  rw [Nat.shiftLeft_zero]

theorem key_bound (v : Nat) (h : v % 9223372036854775808 < 9218868437227405312) : -((mag 9218868437227405312 : Nat) : Int) < key v ∧ key v < ((mag 9218868437227405312 : Nat) : Int) := by
  have := mag_lt h
  unfold key
  split <;> omega

theorem key_inf (v : Nat) (h : v % 9223372036854775808 = 9218868437227405312) : key v = if v / 9223372036854775808 % 2 == 1 then -((mag 9218868437227405312 : Nat) : Int) else ((mag 9218868437227405312 : Nat) : Int) := by
  unfold key; rw [h]

theorem order_key (a b : Nat) (ha : nanN a = false) (hb : nanN b = false) : Ieee.double.order a b = some (compare (key a) (key b)) := by
  have ha' : a % 9223372036854775808 ≤ 9218868437227405312 := by simpa [nanN] using ha
  have hb' : b % 9223372036854775808 ≤ 9218868437227405312 := by simpa [nanN] using hb
  have hpos : 0 < mag 9218868437227405312 := Nat.lt_of_le_of_lt (Nat.zero_le (mag 0)) (mag_lt (by decide))
  unfold Ieee.Format.order
  rcases Nat.lt_or_eq_of_le ha' with h1 | h1 <;> rcases Nat.lt_or_eq_of_le hb' with h2 | h2
  · obtain ⟨m, e, r1, m1⟩ := read_fin a h1
    obtain ⟨n, f, r2, m2⟩ := read_fin b h2
    rw [r1, r2, order_fin, m1, m2, signed_key, signed_key]
  · obtain ⟨m, e, r1, m1⟩ := read_fin a h1
    have kb := key_bound a h1
    rw [r1, read_inf b h2, key_inf b h2]
    generalize (b / 9223372036854775808 % 2 == 1) = t
    cases t
    · simp only [Ieee.Datum.order, compare, compareOfLessAndEq, Bool.false_eq_true, if_false]
      rw [if_pos (by omega)]
    · simp only [Ieee.Datum.order, compare, compareOfLessAndEq, if_true]
      rw [if_neg (by omega), if_neg (by omega)]
  · obtain ⟨m, e, r1, m1⟩ := read_fin b h2
    have kb := key_bound b h2
    rw [r1, read_inf a h1, key_inf a h1]
    generalize (a / 9223372036854775808 % 2 == 1) = t
    cases t
    · simp only [Ieee.Datum.order, compare, compareOfLessAndEq, Bool.false_eq_true, if_false]
      rw [if_neg (by omega), if_neg (by omega)]
    · simp only [Ieee.Datum.order, compare, compareOfLessAndEq, if_true]
      rw [if_pos (by omega)]
  · rw [read_inf a h1, read_inf b h2, key_inf a h1, key_inf b h2]
    generalize (a / 9223372036854775808 % 2 == 1) = s
    generalize (b / 9223372036854775808 % 2 == 1) = t
    cases s <;> cases t
    · simp [Ieee.Datum.order, compare, compareOfLessAndEq]
    · simp only [Ieee.Datum.order, compare, compareOfLessAndEq, Bool.false_eq_true, if_false, if_true, Bool.toNat_true, Bool.toNat_false]
      rw [if_neg (by omega), if_neg (by omega), if_neg (by omega), if_neg (by omega)]
    · simp only [Ieee.Datum.order, compare, compareOfLessAndEq, Bool.false_eq_true, if_false, if_true, Bool.toNat_true, Bool.toNat_false]
      rw [if_pos (by omega), if_pos (by omega)]
    · simp [Ieee.Datum.order, compare, compareOfLessAndEq]

theorem nanB_eq (v : Nat) : nanB v = nanN v := by
  cases h : nanN v
  · have := order_key v v h h
    simp [nanB, this, compare, compareOfLessAndEq]
  · exact nanB_of v (by simpa [nanN] using h)

theorem belowB_key (a b : Nat) (ha : nanN a = false) (hb : nanN b = false) : belowB a b = if key a = key b then decide (9223372036854775808 ≤ a) && !decide (9223372036854775808 ≤ b) else decide (key a < key b) := by
  have ho : FloatKind.f64.format.order a b = some (compare (key a) (key b)) := order_key a b ha hb
  unfold belowB
  rw [ho]
  generalize key a = x
  generalize key b = y
  rcases Int.lt_trichotomy x y with h | h | h
  · have hc : compare x y = .lt := by simp only [compare, compareOfLessAndEq]; rw [if_pos h]
    rw [hc, if_neg (show ¬ x = y by omega)]; simp [h]
  · have hc : compare x y = .eq := by simp only [compare, compareOfLessAndEq]; rw [if_neg (by omega), if_pos h]
    rw [hc, if_pos h]; simp
  · have hc : compare x y = .gt := by simp only [compare, compareOfLessAndEq]; rw [if_neg (by omega), if_neg (by omega)]
    rw [hc, if_neg (show ¬ x = y by omega)]; simp; omega

theorem key_low (v : Nat) (h : v < 9223372036854775808) : key v = (mag v : Nat) := by
  unfold key
  have h1 : v / 9223372036854775808 = 0 := by omega
  have h2 : v % 9223372036854775808 = v := by omega
  rw [h1, h2]; simp
theorem key_high (c : Nat) (h3 : c < 9223372036854775808) : key (c + 9223372036854775808) = -((mag c : Nat) : Int) := by
  unfold key
  have h1 : (c + 9223372036854775808) / 9223372036854775808 = 1 := by omega
  have h2 : (c + 9223372036854775808) % 9223372036854775808 = c := by omega
  rw [h1, h2]; simp

theorem mag_zero {r : Nat} : mag r = 0 ↔ r = 0 := by
  have := @mag_eq_iff r 0
  rwa [show mag 0 = 0 from by simp [mag]] at this

theorem belowB_ord (a b : Nat) (ha : nanN a = false) (hb : nanN b = false) (la : a < 18446744073709551616) (lb : b < 18446744073709551616) : belowB a b = decide (ordN a < ordN b) := by
  rw [belowB_key a b ha hb]
  unfold ordN
  by_cases h1 : 9223372036854775808 ≤ a <;> by_cases h2 : 9223372036854775808 ≤ b
  · obtain ⟨c, rfl⟩ : ∃ c, a = c + 9223372036854775808 := ⟨a - 9223372036854775808, by omega⟩
    obtain ⟨d, rfl⟩ : ∃ d, b = d + 9223372036854775808 := ⟨b - 9223372036854775808, by omega⟩
    rw [key_high c (by omega), key_high d (by omega), if_pos h1, if_pos h2]
    have hlt := @mag_lt_iff d c
    have heq := @mag_eq_iff c d
    generalize mag c = x at *
    generalize mag d = y at *
    by_cases e : x = y
    · rw [if_pos (by omega)]; simp only [h1, h2, decide_true, Bool.not_true, Bool.and_false]; symm; rw [decide_eq_false_iff_not]; omega
    · rw [if_neg (by omega), decide_eq_decide]; omega
  · obtain ⟨c, rfl⟩ : ∃ c, a = c + 9223372036854775808 := ⟨a - 9223372036854775808, by omega⟩
    rw [key_high c (by omega), key_low b (by omega), if_pos h1, if_neg h2]
    have z1 := @mag_zero c
    have z2 := @mag_zero b
    generalize mag c = x at *
    generalize mag b = y at *
    by_cases e : -(x : Int) = (y : Int)
    · rw [if_pos e]; simp only [h1, h2, decide_true, decide_false, Bool.not_false, Bool.and_true]; symm; rw [decide_eq_true_eq]; omega
    · rw [if_neg e, decide_eq_decide]; omega
  · obtain ⟨d, rfl⟩ : ∃ d, b = d + 9223372036854775808 := ⟨b - 9223372036854775808, by omega⟩
    rw [key_low a (by omega), key_high d (by omega), if_neg h1, if_pos h2]
    generalize mag a = x at *
    generalize mag d = y at *
    by_cases e : (x : Int) = -(y : Int)
    · rw [if_pos e]; simp only [h1, decide_false, Bool.false_and]; symm; rw [decide_eq_false_iff_not]; omega
    · rw [if_neg e, decide_eq_decide]; omega
  · rw [key_low a (by omega), key_low b (by omega), if_neg h1, if_neg h2]
    have hlt := @mag_lt_iff a b
    have heq := @mag_eq_iff a b
    generalize mag a = x at *
    generalize mag b = y at *
    by_cases e : x = y
    · rw [if_pos (by omega)]; simp only [h1, decide_false, Bool.false_and]; symm; rw [decide_eq_false_iff_not]; omega
    · rw [if_neg (by omega), decide_eq_decide]; omega

/-- A NaN adds to a NaN. -/
theorem add_nan (x y : Nat) (h : nanN x = true) : Ieee.double.add x y = none := by
  obtain ⟨s, f, hr⟩ := read_nan x (by simpa [nanN] using h)
  simp [Ieee.Format.add, hr, Ieee.Datum.sum]
theorem add_nan' (x y : Nat) (h : nanN y = true) : Ieee.double.add x y = none := by
  obtain ⟨s, f, hr⟩ := read_nan y (by simpa [nanN] using h)
  unfold Ieee.Format.add
  rw [hr]
  cases Ieee.double.read x <;> simp [Ieee.Datum.sum]

theorem nan_mod (v : Nat) (h : v % 9223372036854775808 ≤ 9218868437227405312) : nanN v = false := by simp [nanN]; omega

theorem word_mod (s : Bool) (r : Nat) (h : r ≤ 9218868437227405312) : nanN (Ieee.double.word s r) = false := by
  apply nan_mod
  unfold Ieee.Format.word
  rw [dbl_sign]
  cases s
  · simp only [Bool.false_eq_true, if_false]; omega
  · simp only [if_true]; omega

theorem write_nan (d : Ieee.Datum) (h : d.isNaN = false) : nanN (Ieee.double.write d) = false := by
  cases d with
  | number s m e =>
    simp only [Ieee.Format.write, Ieee.Format.nearest]
    split
    · exact word_mod _ _ (Nat.zero_le _)
    · refine word_mod _ _ ?_
      rw [← dbl_inf]
      exact Nat.min_le_right _ _
  | infinity s =>
    simp only [Ieee.Format.write]
    exact word_mod _ _ (by rw [dbl_inf]; exact Nat.le_refl _)
  | nan s f => simp [Ieee.Datum.isNaN] at h

theorem sum_nan {x y d : Ieee.Datum} (h : x.sum y = some d) : d.isNaN = false := by
  cases x <;> cases y <;> simp only [Ieee.Datum.sum] at h
  all_goals first
    | (cases h; done)
    | (injection h with h; subst h; rfl)
    | (split at h; (injection h with h; subst h; rfl); cases h)

theorem add_some {x y r : Nat} (h : Ieee.double.add x y = some r) : nanN r = false := by
  unfold Ieee.Format.add at h
  cases hs : (Ieee.double.read x).sum (Ieee.double.read y) with
  | none => rw [hs] at h; cases h
  | some d =>
    rw [hs] at h
    injection h with h
    subst h
    exact write_nan d (sum_nan hs)

/-- The canonical sum. -/
def canonN (x : Nat) : Nat := if nanN x then 9221120237041090560 else x
theorem canon_eq (x : Nat) : canon x = canonN x := by unfold canon canonN; rw [nanB_eq]

def cadd (x y : Nat) : Nat := match Ieee.double.add x y with | some r => r | none => 9221120237041090560
def csum : List Nat → Nat
  | [] => 0
  | x :: l => l.foldl cadd (canonN x)

theorem csum_snoc (x : Nat) (l : List Nat) (y : Nat) : csum (x :: l ++ [y]) = cadd (csum (x :: l)) y := by simp [csum]

theorem canon_nan : nanN 9221120237041090560 = true := by decide

theorem add_canon (x y : Nat) : Ieee.double.add (canonN x) y = Ieee.double.add x y := by
  unfold canonN
  cases h : nanN x
  · rfl
  · rw [if_pos rfl, add_nan _ _ canon_nan, add_nan _ _ h]

theorem FAdd.canon {x y r : Nat} (h : FAdd x y r) : canonN r = cadd (canonN x) y := by
  unfold cadd
  rw [add_canon]
  rcases h with h | ⟨h, hn, _⟩
  · rw [h]
    unfold canonN
    rw [add_some h]; rfl
  · rw [h]
    unfold canonN
    rw [nanB_eq] at hn
    rw [hn]; rfl

theorem SumOf.canon {l : List Nat} {r : Nat} (h : SumOf l r) : l ≠ [] ∧ canonN r = csum l := by
  induction h with
  | one => exact ⟨by simp, rfl⟩
  | @snoc l s y r h1 h2 ih =>
    refine ⟨by simp, ?_⟩
    obtain ⟨hl, hs⟩ := ih
    cases l with
    | nil => exact absurd rfl hl
    | cons a l => rw [csum_snoc, ← hs]; exact h2.canon

theorem Folded.sum {l : List (Nat × Nat × Nat)} {f : Fd} (h : Folded l f) : l ≠ [] → canonN f.s = csum (l.map (·.1)) := by
  induction h with
  | nil => intro h; exact absurd rfl h
  | @snoc l f s r a b h1 h2 ih =>
    intro _
    rw [List.map_append, List.map_cons, List.map_nil]
    rcases h2 with ⟨h0, rfl⟩ | ⟨h0, h2⟩
    · have : l = [] := by
        have := h1.n
        rw [h0] at this
        exact List.eq_nil_of_length_eq_zero (by omega)
      subst this
      rfl
    · cases l with
      | nil => exact absurd h1.n h0
      | cons x l =>
        have := ih (by simp)
        rw [List.map_cons, csum_snoc]
        rw [List.map_cons] at this
        rw [← this]
        exact h2.canon

theorem Folded.low {l : List (Nat × Nat × Nat)} {f : Fd} (h : Folded l f) (hb : ∀ x ∈ l, x.2.1 < 18446744073709551616) :
    f.lo = (leastOf (l.map (·.2.1))).1 ∧ (f.lo = true → f.l = (leastOf (l.map (·.2.1))).2 ∧ nanN f.l = false ∧ f.l < 18446744073709551616) ∧ (f.lo = false → (leastOf (l.map (·.2.1))).2 = 9221120237041090560) := by
  induction h with
  | nil => exact ⟨rfl, ⟨fun h => (by cases h), fun _ => rfl⟩⟩
  | @snoc l f s r a b h1 h2 ih =>
    have hb1 := hb (s, a, b) (by simp)
    simp only at hb1
    obtain ⟨i1, i2, i3⟩ := ih (fun x hx => hb x (by simp [hx]))
    rw [List.map_append, List.map_cons, List.map_nil, leastOf_snoc]
    simp only [Fd.added, takesLow, nanB_eq]
    unfold leastStep
    cases hN : nanN a
    · simp only [Bool.not_false, Bool.true_and, Bool.false_eq_true, if_false]
      cases hlo : f.lo
      · rw [hlo] at i1
        simp only [Bool.not_false, Bool.true_or, if_true, Bool.false_or, ← i1]
        simp [hN, hb1]
      · obtain ⟨j1, j2, j3⟩ := i2 hlo
        rw [hlo] at i1
        simp only [Bool.not_true, Bool.false_or, Bool.true_or, ← i1, ← j1]
        rw [belowB_ord a f.l hN j2 hb1 j3]
        refine ⟨trivial, fun _ => ⟨rfl, ?_⟩, fun h => by cases h⟩
        split
        · exact ⟨hN, hb1⟩
        · exact ⟨j2, j3⟩
    · simp only [Bool.not_true, Bool.false_and, Bool.or_false, Bool.false_eq_true, if_false, if_true]
      exact ⟨i1, i2, i3⟩

theorem Folded.high {l : List (Nat × Nat × Nat)} {f : Fd} (h : Folded l f) (hb : ∀ x ∈ l, x.2.2 < 18446744073709551616) :
    f.hi = (greatOf (l.map (·.2.2))).1 ∧ (f.hi = true → f.m = (greatOf (l.map (·.2.2))).2 ∧ nanN f.m = false ∧ f.m < 18446744073709551616) ∧ (f.hi = false → (greatOf (l.map (·.2.2))).2 = 9221120237041090560) := by
  induction h with
  | nil => exact ⟨rfl, ⟨fun h => (by cases h), fun _ => rfl⟩⟩
  | @snoc l f s r a b h1 h2 ih =>
    have hb1 := hb (s, a, b) (by simp)
    simp only at hb1
    obtain ⟨i1, i2, i3⟩ := ih (fun x hx => hb x (by simp [hx]))
    rw [List.map_append, List.map_cons, List.map_nil, greatOf_snoc]
    simp only [Fd.added, takesHigh, nanB_eq]
    unfold greatStep
    cases hN : nanN b
    · simp only [Bool.not_false, Bool.true_and, Bool.false_eq_true, if_false]
      cases hlo : f.hi
      · rw [hlo] at i1
        simp only [Bool.not_false, Bool.true_or, if_true, Bool.false_or, ← i1]
        simp [hN, hb1]
      · obtain ⟨j1, j2, j3⟩ := i2 hlo
        rw [hlo] at i1
        simp only [Bool.not_true, Bool.false_or, Bool.true_or, ← i1, ← j1]
        rw [belowB_ord f.m b j2 hN j3 hb1]
        refine ⟨trivial, fun _ => ⟨rfl, ?_⟩, fun h => by cases h⟩
        split
        · exact ⟨hN, hb1⟩
        · exact ⟨j2, j3⟩
    · simp only [Bool.not_true, Bool.false_and, Bool.or_false, Bool.false_eq_true, if_false, if_true]
      exact ⟨i1, i2, i3⟩

/-- The reference's window of three lists of bits. -/
def refWin (start count : Int) (last : Nat) (sums mins maxs : List Nat) : Win :=
  if sums = [] then ⟨start, 0, 0, 0, 0, 0⟩ else ⟨start, count, csum sums, (leastOf mins).2, (greatOf maxs).2, last⟩

theorem canonN_of {x : Nat} (h : nanN x = false) : canonN x = x := by unfold canonN; rw [h]; rfl

theorem Folded.win {l : List (Nat × Nat × Nat)} {f : Fd} (h : Folded l f) (hb : ∀ x ∈ l, x.2.1 < 18446744073709551616 ∧ x.2.2 < 18446744073709551616) (start count : Int) (last : Nat) :
    f.window start count last = refWin start count last (l.map (·.1)) (l.map (·.2.1)) (l.map (·.2.2)) := by
  unfold Fd.window refWin
  by_cases h0 : f.n = 0
  · have : l = [] := by
      have := h.n
      rw [h0] at this
      exact List.eq_nil_of_length_eq_zero (by omega)
    subst this
    rw [if_pos h0, if_pos (by rfl)]
  · have hl : l ≠ [] := by rintro rfl; exact h0 h.n
    have hl2 : l.map (·.1) ≠ [] := by simpa using hl
    rw [if_neg h0, if_neg hl2]
    obtain ⟨_, a2, a3⟩ := h.low (fun x hx => (hb x hx).1)
    obtain ⟨_, b2, b3⟩ := h.high (fun x hx => (hb x hx).2)
    rw [canon_eq, h.sum hl]
    congr 1
    · cases hlo : f.lo
      · rw [a3 hlo]; rfl
      · obtain ⟨c1, c2, _⟩ := a2 hlo
        rw [if_pos rfl, canon_eq, canonN_of c2, c1]
    · cases hhi : f.hi
      · rw [b3 hhi]; rfl
      · obtain ⟨c1, c2, _⟩ := b2 hhi
        rw [if_pos rfl, canon_eq, canonN_of c2, c1]

end Go.Proofs.Ytohocdbneopooaa

namespace Go.Proofs.Ytohocdbneopooaa
set_option maxRecDepth 100000
open Go.RowKit

def vals (l : List Smp) : List Nat := l.map Smp.v
theorem info_u64 : (Try.prog.info? 53).map (fun i => (i.zero, i.size, i.bytes)) = some (some (.int .u64 0), 1, 8) := by kernel_rfl
theorem u64s_one (l : List Nat) : ∀ u ∈ u64s l, u.oneCell' = true := by
  intro u hu
  obtain ⟨x, _, rfl⟩ := List.mem_map.1 hu
  rfl

def startWin (start n : Int) : Array Value := #[.int .i64 start, .int .i64 n, .int .u64 0, .int .u64 0, .int .u64 0, .int .u64 0]



set_option maxHeartbeats 1600000 in
theorem rfold_any (start : Int) (A : Option Addr) (n cap : Nat) (l : List Smp) (w : World) (hr : Row w w.heap.size 2 A n (smpCells l)) (hl : l.length = n) (hn : n * 16 ≤ 140737488351232) (hok : ∀ s ∈ l, s.ok) :
    Calls Try.prog 96 #[.int .i64 start, .slice A n cap] w
      fun e w' => e = .returned (.agg (refWin start n (lastV l) (vals l) (vals l) (vals l)).cells.toArray) ∧ Below w.heap.size w w' := by
  obtain ⟨i0, hi, hz0, hz1, hz2⟩ := info_parts info_u64
  have hL := hidden hl
  go_enter Try.func96, Try.ntmps96
  go_wp2
  go_loopw [6, 7] (fun v i wr => ∃ k : Nat, k ≤ n ∧ i = .int .i64 k ∧ wr.ownsRow (w.heap.size + 2) 53 1 v k (u64s (vals (l.take k))) ∧ Whole1 wr w.heap.size 89 zeroWin ∧ Whole1 wr (w.heap.size + 1) 89 (startWin start n) ∧ Below w.heap.size w wr ∧ w.heap.size + 2 ≤ wr.heap.size) (fun _ i _ => n - (intOf i).toNat)
  case atStart =>
    refine ⟨0, Nat.zero_le _, rfl, World.ownsRow_nil _ _ _ _, (Whole1.new _ _ _).alloc _, ?_, ((Below.refl _ _).alloc (Nat.le_refl _) _).alloc (by simp) _, by simp⟩
    have h := Whole1.new (w.alloc (Obj.cells zeroWin 89)) 89 (startWin start n)
    simp only [World.size_alloc] at h
    exact h
  case round =>
    obtain ⟨k, hk, rfl, hown, hz, hs, hb, hsz⟩ := hrel
    by_cases hlt : k < n
    · obtain ⟨gs, o, rfl, x, hx, c0, c1⟩ := smp_cells_at hr hl hb k hlt
      have hT := hidden (take_snoc? hx)
      clear hx hr c0 hl
      have hfr := Row.fresh wr 53 1 1 [Value.int IntKind.u64 (x.v : Nat)] rfl
      go_wp2_with (at_builtin; refine wpList_app _ rfl _ _ 188 rfl (w.heap.size + 2) 53 i0 _ 1 8 Try.underlying188 hi hz0 hz1 hz2 rfl (by decide) _ _ _ rfl (hown.alloc _) _ _ _ _ _ rfl hfr (by simp [Value.oneCell']) (by unfold maxLen; omega) (by omega) (by simp; omega) ?_; intro v1 w1 hown1 hg1 hat1)
      go_roundw
      case rel =>
        refine ⟨k + 1, by omega, by go_num, ?_, (hz.alloc _).grown hg1 (own_ne hown (by omega)), (hs.alloc _).grown hg1 (own_ne hown (by omega)), (hb.alloc hb.size _).grown hg1 (by simp; omega) (own_ge hown (by omega)), ?_⟩
        · rw [hT.out, vals, List.map_append, u64s, List.map_append]; exact hown1
        · have := hg1.size
          simp at this
          omega
      case measure => simp [intOf]; omega
    · obtain rfl : k = n := by omega
      rw [List.take_of_length_le (by rw [hl]; exact Nat.le_refl _)] at hown
      obtain ⟨A1, c1, rfl, hc1, hr1⟩ := own_shape hown
      go_upto_if 28 with (fail)
      go_cut [] (fun wx => Whole1 wx w.heap.size 89 zeroWin ∧ Whole1 wx (w.heap.size + 1) 89 (refWin start k (lastV l) (vals l) (vals l) (vals l)).cells.toArray ∧ Below w.heap.size w wx)
      case first =>
        by_cases hk0 : k = 0
        · subst hk0
          have hl0 : l = [] := List.eq_nil_of_length_eq_zero hL.out
          subst hl0
          go_wp2
          go_meet
          exact ⟨hz, hs, hb⟩
        · obtain ⟨m, rfl⟩ : ∃ m, k = m + 1 := ⟨k - 1, by omega⟩
          have hm1 : (0 : Int) < (m : Int) + 1 := by omega
          have hbits : ∀ x ∈ vals l, x < 18446744073709551616 := by
            intro x hx
            obtain ⟨s, h1, rfl⟩ := List.mem_map.1 hx
            exact hok s h1
          have hvl : (vals l).length = m + 1 := by rw [vals, List.length_map]; exact hL.out
          have hlast : (u64s (vals l))[m]? = some (.int .u64 (lastV l : Nat)) := by
            have h2 : m < (vals l).length := by omega
            have h3 : m < l.length := by rw [hL.out]; omega
            rw [u64s_at _ m h2]
            congr 2
            simp only [vals, List.getElem_map, lastV]
            rw [List.getLast?_eq_getElem?, show l.length - 1 = m from by rw [hL.out]; rfl, List.getElem?_eq_getElem h3]
          have hlast0 := hidden hlast
          have hb0 := hidden hb
          clear hlast hb hl
          go_wp2_with fail
          refine (rsum_any A1 (m + 1) c1 (vals l) wr _ hr1 hvl (by omega) (by omega) hbits).mono ?_
          rintro e w1 ⟨r, hS, rfl, q, hq⟩
          have hcs : (if nanN r = true then 9221120237041090560 else r) = csum (vals l) := hS.canon.2
          rw [hcs]
          have hown1 : w1.ownsRow (w.heap.size + 2) 53 1 (.slice A1 (m + 1) c1) (m + 1) (u64s (vals l)) := by rw [hq]; exact own_drewN hown q
          have hz1 : Whole1 w1 w.heap.size 89 zeroWin := by rw [hq]; exact hz
          have hs1 : Whole1 w1 (w.heap.size + 1) 89 (startWin start ((m + 1 : Nat) : Int)) := by rw [hq]; exact hs
          have hb1 : Hid (Below w.heap.size w w1) := by rw [hq]; exact below_drewN hb0.out q
          clear hq hcs hS hown hz hs hb0 hr1
          have d2 : w1.cell? ⟨w.heap.size + 1, 2, none⟩ = some (.int .u64 0) := hs1.cell 2
          have d3 : w1.cell? ⟨w.heap.size + 1, 3, none⟩ = some (.int .u64 0) := hs1.cell 3
          have d4 : w1.cell? ⟨w.heap.size + 1, 4, none⟩ = some (.int .u64 0) := hs1.cell 4
          have d5 : w1.cell? ⟨w.heap.size + 1, 5, none⟩ = some (.int .u64 0) := hs1.cell 5
          have e2 := hs1.free 2
          have e3 := hs1.free 3
          have e4 := hs1.free 4
          have e5 := hs1.free 5
          obtain ⟨g, c, hA, hgb, hglt, _, hcell⟩ := own_at hown1 (by omega)
          injection hA with hA hm hc
          subst hA hc
          have dl : w1.cell? ⟨g, m, none⟩ = some (.int .u64 (lastV l : Nat)) := (hcell m (by omega)).trans hlast0.out
          have hgne : g ≠ w.heap.size + 1 := by omega
          have hown2 := ownsRow_setCell_below hown1 (a := ⟨w.heap.size + 1, 2, none⟩) (by simp) (.int .u64 (csum (vals l) : Nat))
          have hown3 := ownsRow_setCell_below hown2 (a := ⟨w.heap.size + 1, 3, none⟩) (by simp) (.int .u64 ((leastOf (vals l)).2 : Nat))
          clear hcell
          go_wp2_with fail
          refine (rleast_any _ (m + 1) c1 (vals l) _ _ (Row.of_own hown2) hvl (by omega) hbits).mono ?_
          rintro e w2 ⟨rfl, rfl⟩
          go_wp2_with fail
          refine (rgreatest_any _ (m + 1) c1 (vals l) _ _ (Row.of_own hown3) hvl (by omega) hbits).mono ?_
          rintro e w2 ⟨rfl, rfl⟩
          go_wp2
          go_meet
          have hne : vals l ≠ [] := by intro h; rw [h] at hvl; simp at hvl
          have hRW : refWin start ((m + 1 : Nat) : Int) (lastV l) (vals l) (vals l) (vals l) = ⟨start, ((m + 1 : Nat) : Int), csum (vals l), (leastOf (vals l)).2, (greatOf (vals l)).2, lastV l⟩ := if_neg hne
          rw [hRW]
          refine ⟨(((hz1.off (p := ⟨w.heap.size + 1, 2, none⟩) (by simp) _).off (p := ⟨w.heap.size + 1, 3, none⟩) (by simp) _).off (p := ⟨w.heap.size + 1, 4, none⟩) (by simp) _).off (p := ⟨w.heap.size + 1, 5, none⟩) (by simp) _, (((hs1.put 2 _).put 3 _).put 4 _).put 5 _, ?_⟩
          exact (((hb1.out.setCell (p := ⟨w.heap.size + 1, 2, none⟩) (by simp) _).setCell (p := ⟨w.heap.size + 1, 3, none⟩) (by simp) _).setCell (p := ⟨w.heap.size + 1, 4, none⟩) (by simp) _).setCell (p := ⟨w.heap.size + 1, 5, none⟩) (by simp) _
      case rest =>
        obtain ⟨hz2, hs2, hb2⟩ := hcut
        generalize hWW : refWin start k (lastV l) (vals l) (vals l) (vals l) = W at hs2
        obtain ⟨x0, x1, x2, x3, x4, x5⟩ := W
        have hWW := hidden hWW
        have d0 : wc.cell? ⟨w.heap.size, 0, none⟩ = some (.int .i64 0) := hz2.cell 0
        have d1 : wc.cell? ⟨w.heap.size, 1, none⟩ = some (.int .i64 0) := hz2.cell 1
        have d2 : wc.cell? ⟨w.heap.size, 2, none⟩ = some (.int .u64 0) := hz2.cell 2
        have d3 : wc.cell? ⟨w.heap.size, 3, none⟩ = some (.int .u64 0) := hz2.cell 3
        have d4 : wc.cell? ⟨w.heap.size, 4, none⟩ = some (.int .u64 0) := hz2.cell 4
        have d5 : wc.cell? ⟨w.heap.size, 5, none⟩ = some (.int .u64 0) := hz2.cell 5
        have e0 := hz2.free 0
        have e1 := hz2.free 1
        have e2 := hz2.free 2
        have e3 := hz2.free 3
        have e4 := hz2.free 4
        have e5 := hz2.free 5
        have g0 : wc.cell? ⟨w.heap.size + 1, 0, none⟩ = some (.int .i64 x0) := hs2.cell 0
        have g1 : wc.cell? ⟨w.heap.size + 1, 1, none⟩ = some (.int .i64 x1) := hs2.cell 1
        have g2 : wc.cell? ⟨w.heap.size + 1, 2, none⟩ = some (.int .u64 (x2 : Nat)) := hs2.cell 2
        have g3 : wc.cell? ⟨w.heap.size + 1, 3, none⟩ = some (.int .u64 (x3 : Nat)) := hs2.cell 3
        have g4 : wc.cell? ⟨w.heap.size + 1, 4, none⟩ = some (.int .u64 (x4 : Nat)) := hs2.cell 4
        have g5 : wc.cell? ⟨w.heap.size + 1, 5, none⟩ = some (.int .u64 (x5 : Nat)) := hs2.cell 5
        go_wp2
        have hF := put6 hz2 (.int .i64 x0) (.int .i64 x1) (.int .u64 (x2 : Nat)) (.int .u64 (x3 : Nat)) (.int .u64 (x4 : Nat)) (.int .u64 (x5 : Nat))
        have hbF := below6 hb2 (Nat.le_refl _) (.int .i64 x0) (.int .i64 x1) (.int .u64 (x2 : Nat)) (.int .u64 (x3 : Nat)) (.int .u64 (x4 : Nat)) (.int .u64 (x5 : Nat))
        clear d0 d1 d2 d3 d4 d5 e0 e1 e2 e3 e4 e5
        generalize World.setCell _ _ _ = wF at hF hbF ⊢
        have d0 : wF.cell? ⟨w.heap.size, 0, none⟩ = some (.int .i64 x0) := hF.cell 0
        have d1 : wF.cell? ⟨w.heap.size, 1, none⟩ = some (.int .i64 x1) := hF.cell 1
        have d2 : wF.cell? ⟨w.heap.size, 2, none⟩ = some (.int .u64 (x2 : Nat)) := hF.cell 2
        have d3 : wF.cell? ⟨w.heap.size, 3, none⟩ = some (.int .u64 (x3 : Nat)) := hF.cell 3
        have d4 : wF.cell? ⟨w.heap.size, 4, none⟩ = some (.int .u64 (x4 : Nat)) := hF.cell 4
        have d5 : wF.cell? ⟨w.heap.size, 5, none⟩ = some (.int .u64 (x5 : Nat)) := hF.cell 5
        refine bodyPost_ret (v := .agg #[.int .i64 x0, .int .i64 x1, .int .u64 (x2 : Nat), .int .u64 (x3 : Nat), .int .u64 (x4 : Nat), .int .u64 (x5 : Nat)]) (by simp [results, Try.results96, go_sem, d0, d1, d2, d3, d4, d5]) rfl ⟨?_, hbF⟩
        rw [hWW.out]; rfl

theorem fold_is {l : List Smp} {f : Fd} (h : Folded (l.map Smp.three) f) (hok : ∀ s ∈ l, s.ok) (start n : Int) : f.window start n (lastV l) = refWin start n (lastV l) (vals l) (vals l) (vals l) := by
  have := h.win (fun x hx => by
    obtain ⟨s, hs, rfl⟩ := List.mem_map.1 hx
    exact ⟨hok s hs, hok s hs⟩) start n (lastV l)
  rw [this]
  simp only [List.map_map, vals]
  rfl

end Go.Proofs.Ytohocdbneopooaa
