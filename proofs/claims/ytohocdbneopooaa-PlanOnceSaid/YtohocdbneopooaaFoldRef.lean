/- The reference's floats: isNaN, order, Sum, Least, Greatest: what each returns. Condition: the bits fit 64 bits. -/
import Derived.Test.YtohocdbneopooaaFoldCells
namespace Go.Proofs.Ytohocdbneopooaa
set_option maxRecDepth 100000
open Go.RowKit

attribute [local go_sem] ext_frombits ext_bits

/-- are these the bits of a NaN? -/
def nanN (v : Nat) : Bool := decide (9218868437227405312 < v % 9223372036854775808)
def ordN (v : Nat) : Nat := if 9223372036854775808 ≤ v then 18446744073709551615 - v else v + 9223372036854775808

theorem mask63 (v : Nat) (h : v < 18446744073709551616) : bits .and .u64 (v : Int) 9223372036854775807 = ((v % 9223372036854775808 : Nat) : Int) := by
  rw [show (9223372036854775807 : Int) = ((9223372036854775807 : Nat) : Int) from rfl, u64_and_nat v _ h (by omega)]
  rw [Nat.and_two_pow_sub_one_eq_mod v 63]

set_option maxHeartbeats 400000 in
theorem risNaN_any (v : Nat) (w : World) (h : v < 18446744073709551616) :
    Calls Try.prog 150 #[.int .u64 v] w fun e w' => e = .returned (.bool (nanN v)) ∧ w = w' := by
  have hM := hidden (mask63 v h)
  clear h
  go_enter Try.func150, Try.ntmps150
  go_wp2
  go_ret
  refine ⟨ret_bool ?_, rfl⟩
  rw [hM.out]
  unfold nanN
  rw [decide_eq_decide]
  omega

set_option maxHeartbeats 400000 in
theorem rorder_any (v : Nat) (w : World) (h : v < 18446744073709551616) :
    Calls Try.prog 151 #[.int .u64 v] w fun e w' => e = .returned (.int .u64 (ordN v : Nat)) ∧ w = w' := by
  by_cases hv : 9223372036854775808 ≤ v
  · have hO : Hid (ordN v = 18446744073709551615 - v) := if_pos hv
    have h1 : ((v : Int) / 9223372036854775808 == 1) = true := by rw [beq_iff_eq]; omega
    go_enter Try.func151, Try.ntmps151
    go_wp2
    go_ret
    exact ⟨ret_int (by rw [hO.out]; omega), rfl⟩
  · have hO : Hid (ordN v = v + 9223372036854775808) := if_neg hv
    have h1 : ((v : Int) / 9223372036854775808 == 1) = false := by rw [beq_eq_false_iff_ne]; omega
    have h2 : v < 9223372036854775808 := by omega
    have h3 : IntKind.u64.wrap ((v : Int) + 9223372036854775808) = (v : Int) + 9223372036854775808 := by
      rw [IntKind.wrap_u64]; omega
    clear hv
    go_enter Try.func151, Try.ntmps151
    go_wp2
    go_ret
    exact ⟨ret_int (by rw [hO.out]; omega), rfl⟩

def u64s (l : List Nat) : List Value := l.map fun (x : Nat) => Value.int .u64 (x : Int)
theorem u64s_at (l : List Nat) (k : Nat) (h : k < l.length) : (u64s l)[k]? = some (.int .u64 (l[k] : Nat)) := by simp [u64s, h]

theorem FAdd.lt {x y r : Nat} (h : FAdd x y r) : r < 18446744073709551616 := by
  rcases h with h | ⟨_, _, h⟩
  · have := Ieee.double.add_lt h
    simpa [Ieee.Format.width, Ieee.double] using this
  · exact h

/-- r may be the sum of these, in order. -/
inductive SumOf : List Nat → Nat → Prop where
  | one {x : Nat} : SumOf [x] x
  | snoc {l : List Nat} {s y r : Nat} : SumOf l s → FAdd s y r → SumOf (l ++ [y]) r

theorem SumOf.lt {l : List Nat} {r : Nat} (h : SumOf l r) (hl : ∀ x ∈ l, x < 18446744073709551616) : r < 18446744073709551616 := by
  cases h with
  | one => exact hl _ (by simp)
  | snoc _ h => exact h.lt

set_option maxHeartbeats 1600000 in
theorem rsum_any (A : Option Addr) (n cap : Nat) (l : List Nat) (w : World) (B : Nat) (hr : Row w B 1 A n (u64s l)) (hl : l.length = n) (hn : n ≤ 4611686018427387904) (hn1 : 1 ≤ n) (hlt : ∀ x ∈ l, x < 18446744073709551616) :
    Calls Try.prog 132 #[.slice A n cap] w fun e w' => ∃ r, SumOf l r ∧ e = .returned (.int .u64 (if nanN r then 9221120237041090560 else r : Nat)) ∧ ∃ m, w' = w.drewN m := by
  have hL := hidden hl
  clear hl
  obtain ⟨gs, o, rfl, hgs, hc⟩ := hr.at_ (by omega)
  have hk0 : 0 < l.length := by rw [hL.out]; exact hn1
  have c0 : w.cell? ⟨gs, o, none⟩ = some (.int .u64 (l[0] : Nat)) := (hc 0 (by omega)).trans (u64s_at l 0 hk0)
  have hn1' : (0 : Int) < (n : Int) := by omega
  go_enter Try.func132, Try.ntmps132
  go_wp2
  go_loopw [3, 4] (fun x i wr => ∃ k : Nat, 1 ≤ k ∧ k ≤ n ∧ i = .int .i64 k ∧ (∃ r, SumOf (l.take k) r ∧ x = .float .f64 r) ∧ ∃ m, wr = w.drewN m) (fun _ i _ => n - (intOf i).toNat)
  case atStart =>
    refine ⟨1, Nat.le_refl _, hn1, rfl, ⟨l[0], ?_, rfl⟩, 0, rfl⟩
    have := take_succ_snoc l 0 hk0
    rw [List.take_zero, List.nil_append, Nat.zero_add] at this
    rw [this]; exact .one
  case round =>
    obtain ⟨k, hk1, hk, rfl, ⟨r, hS, rfl⟩, m, rfl⟩ := hrel
    by_cases hkn : k < n
    · have hkl : k < l.length := by rw [hL.out]; exact hkn
      have ck : w.cell? ⟨gs, o + k, none⟩ = some (.int .u64 (l[k] : Nat)) := (hc k (by omega)).trans (u64s_at l k hkl)
      have hT := hidden (take_succ_snoc l k hkl)
      clear c0
      generalize l[k] = x at ck hT
      obtain ⟨r', m', hrun, hF⟩ := run_fadd (P := Try.prog) 182 r x (w.drewN m)
      have hS' := hidden (hS.snoc hF)
      clear hS hF hc hr hlt
      go_wp2
      go_roundw
      case rel => exact ⟨k + 1, by omega, by omega, by go_num, ⟨r', by rw [hT.out]; exact hS'.out, rfl⟩, _, rfl⟩
      case measure => simp [intOf]; omega
    · obtain rfl : k = n := by omega
      have hlt' := hS.lt (fun x hx => hlt x (List.mem_of_mem_take hx))
      rw [List.take_of_length_le (by rw [hL.out]; exact Nat.le_refl _)] at hS
      have hS' := hidden hS
      clear hS hlt hc c0 hr
      cases hN : nanN r
      all_goals
        have hN0 := hidden hN
        clear hN
        go_wp2_with (go_at_call 150; refine (risNaN_any _ _ hlt').mono ?_; rw [hN0.out]; rintro e w' ⟨rfl, rfl⟩)
        go_ret
        exact ⟨r, hS'.out, by rw [hN0.out]; rfl, m, rfl⟩

def leastStep (s : Bool × Nat) (v : Nat) : Bool × Nat := if nanN v then s else (true, if !s.1 || decide (ordN v < ordN s.2) then v else s.2)
def leastOf (l : List Nat) : Bool × Nat := l.foldl leastStep (false, 9221120237041090560)

theorem leastOf_lt {l : List Nat} (h : ∀ x ∈ l, x < 18446744073709551616) : (leastOf l).2 < 18446744073709551616 := by
  suffices H : ∀ (l : List Nat) (s : Bool × Nat), (∀ x ∈ l, x < 18446744073709551616) → s.2 < 18446744073709551616 → (l.foldl leastStep s).2 < 18446744073709551616 from H l _ h (by decide)
  intro l
  induction l with
  | nil => intro s _ hs; exact hs
  | cons a l ih =>
    intro s hl hs
    refine ih _ (fun x hx => hl x (by simp [hx])) ?_
    have ha := hl a (by simp)
    unfold leastStep
    split
    · exact hs
    · dsimp only; split
      · exact ha
      · exact hs

theorem leastOf_snoc (l : List Nat) (v : Nat) : leastOf (l ++ [v]) = leastStep (leastOf l) v := by simp [leastOf]

set_option maxHeartbeats 1600000 in
theorem rleast_any (A : Option Addr) (n cap : Nat) (l : List Nat) (w : World) (B : Nat) (hr : Row w B 1 A n (u64s l)) (hl : l.length = n) (hn : n ≤ 4611686018427387904) (hlt : ∀ x ∈ l, x < 18446744073709551616) :
    Calls Try.prog 133 #[.slice A n cap] w fun e w' => e = .returned (.int .u64 ((leastOf l).2 : Nat)) ∧ w = w' := by
  have hL := hidden hl
  clear hl
  go_enter Try.func133, Try.ntmps133
  go_wp2
  go_loop [3, 4, 5] (fun out any i => ∃ k : Nat, k ≤ n ∧ i = .int .i64 k ∧ any = .bool (leastOf (l.take k)).1 ∧ out = .int .u64 ((leastOf (l.take k)).2 : Nat)) (fun _ _ i => n - (intOf i).toNat)
  case atStart => exact ⟨0, Nat.zero_le _, rfl, rfl, rfl⟩
  case round =>
    obtain ⟨k, hk, rfl, rfl, rfl⟩ := hrel
    by_cases hkn : k < n
    · have hkl : k < l.length := by rw [hL.out]; exact hkn
      obtain ⟨gs, o, rfl, hgs, hc⟩ := hr.at_ (by omega)
      have c0 : w.cell? ⟨gs, o + k, none⟩ = some (.int .u64 (l[k] : Nat)) := (hc k (by omega)).trans (u64s_at l k hkl)
      have hT := hidden (by rw [take_succ_snoc l k hkl, leastOf_snoc] : leastOf (l.take (k + 1)) = leastStep (leastOf (l.take k)) l[k])
      have hv := hlt l[k] (List.getElem_mem hkl)
      have hs := leastOf_lt (l := l.take k) (fun x hx => hlt x (List.mem_of_mem_take hx))
      clear hc hr hlt
      generalize leastOf (l.take k) = s at hT hs ⊢
      generalize l[k] = x at hT hv c0 ⊢
      obtain ⟨any, out⟩ := s
      simp only at hs
      cases hN : nanN x
      · have hN0 := hidden hN
        have hS : Hid (leastStep (any, out) x = (true, if !any || decide (ordN x < ordN out) then x else out)) := by
          show leastStep (any, out) x = _
          unfold leastStep; rw [hN]; rfl
        cases any
        · go_wp2_with (go_at_call 150; refine (risNaN_any _ _ hv).mono ?_; rw [hN0.out]; rintro e w' ⟨rfl, rfl⟩)
          go_round
          case rel => exact ⟨k + 1, by omega, by go_num, by rw [hT.out, hS.out], by rw [hT.out, hS.out]; rfl⟩
          case measure => simp [intOf]; omega
        · by_cases hlo : ordN x < ordN out
          all_goals
            have hlo' : ((ordN x : Nat) : Int) < ((ordN out : Nat) : Int) ↔ ordN x < ordN out := by omega
            have hlo0 := hidden hlo
            have hlo1 := hlo'.symm
            clear hlo'
          · have hlo2 := hlo1.1 hlo0.out
            clear hlo hlo1
            go_wp2_with (first | (go_at_call 150; refine (risNaN_any _ _ hv).mono ?_; rw [hN0.out]; rintro e w' ⟨rfl, rfl⟩) | (go_at_call 151; refine (rorder_any _ _ (by assumption)).mono ?_; rintro e w' ⟨rfl, rfl⟩))
            go_round
            case rel => exact ⟨k + 1, by omega, by go_num, by rw [hT.out, hS.out], by rw [hT.out, hS.out]; simp [hlo0.out]⟩
            case measure => simp [intOf]; omega
          · have hlo2 := mt hlo1.2 hlo0.out
            clear hlo hlo1
            go_wp2_with (first | (go_at_call 150; refine (risNaN_any _ _ hv).mono ?_; rw [hN0.out]; rintro e w' ⟨rfl, rfl⟩) | (go_at_call 151; refine (rorder_any _ _ (by assumption)).mono ?_; rintro e w' ⟨rfl, rfl⟩))
            go_round
            case rel => exact ⟨k + 1, by omega, by go_num, by rw [hT.out, hS.out], by rw [hT.out, hS.out]; simp [hlo0.out]⟩
            case measure => simp [intOf]; omega
      · have hN0 := hidden hN
        have hS : Hid (leastStep (any, out) x = (any, out)) := by
          show leastStep (any, out) x = _
          unfold leastStep; rw [hN]; rfl
        clear hN
        go_wp2_with (go_at_call 150; refine (risNaN_any _ _ hv).mono ?_; rw [hN0.out]; rintro e w' ⟨rfl, rfl⟩)
        go_round
        case rel => exact ⟨k + 1, by omega, by go_num, by rw [hT.out, hS.out], by rw [hT.out, hS.out]⟩
        case measure => simp [intOf]; omega
    · obtain rfl : k = n := by omega
      go_wp2
      go_ret
      exact ⟨ret_int (by rw [List.take_of_length_le (by rw [hL.out]; exact Nat.le_refl _)]), rfl⟩

def greatStep (s : Bool × Nat) (v : Nat) : Bool × Nat := if nanN v then s else (true, if !s.1 || decide (ordN s.2 < ordN v) then v else s.2)
def greatOf (l : List Nat) : Bool × Nat := l.foldl greatStep (false, 9221120237041090560)

theorem greatOf_lt {l : List Nat} (h : ∀ x ∈ l, x < 18446744073709551616) : (greatOf l).2 < 18446744073709551616 := by
  suffices H : ∀ (l : List Nat) (s : Bool × Nat), (∀ x ∈ l, x < 18446744073709551616) → s.2 < 18446744073709551616 → (l.foldl greatStep s).2 < 18446744073709551616 from H l _ h (by decide)
  intro l
  induction l with
  | nil => intro s _ hs; exact hs
  | cons a l ih =>
    intro s hl hs
    refine ih _ (fun x hx => hl x (by simp [hx])) ?_
    have ha := hl a (by simp)
    unfold greatStep
    split
    · exact hs
    · dsimp only; split
      · exact ha
      · exact hs

theorem greatOf_snoc (l : List Nat) (v : Nat) : greatOf (l ++ [v]) = greatStep (greatOf l) v := by simp [greatOf]

set_option maxHeartbeats 1600000 in
theorem rgreatest_any (A : Option Addr) (n cap : Nat) (l : List Nat) (w : World) (B : Nat) (hr : Row w B 1 A n (u64s l)) (hl : l.length = n) (hn : n ≤ 4611686018427387904) (hlt : ∀ x ∈ l, x < 18446744073709551616) :
    Calls Try.prog 134 #[.slice A n cap] w fun e w' => e = .returned (.int .u64 ((greatOf l).2 : Nat)) ∧ w = w' := by
  have hL := hidden hl
  clear hl
  go_enter Try.func134, Try.ntmps134
  go_wp2
  go_loop [3, 4, 5] (fun out any i => ∃ k : Nat, k ≤ n ∧ i = .int .i64 k ∧ any = .bool (greatOf (l.take k)).1 ∧ out = .int .u64 ((greatOf (l.take k)).2 : Nat)) (fun _ _ i => n - (intOf i).toNat)
  case atStart => exact ⟨0, Nat.zero_le _, rfl, rfl, rfl⟩
  case round =>
    obtain ⟨k, hk, rfl, rfl, rfl⟩ := hrel
    by_cases hkn : k < n
    · have hkl : k < l.length := by rw [hL.out]; exact hkn
      obtain ⟨gs, o, rfl, hgs, hc⟩ := hr.at_ (by omega)
      have c0 : w.cell? ⟨gs, o + k, none⟩ = some (.int .u64 (l[k] : Nat)) := (hc k (by omega)).trans (u64s_at l k hkl)
      have hT := hidden (by rw [take_succ_snoc l k hkl, greatOf_snoc] : greatOf (l.take (k + 1)) = greatStep (greatOf (l.take k)) l[k])
      have hv := hlt l[k] (List.getElem_mem hkl)
      have hs := greatOf_lt (l := l.take k) (fun x hx => hlt x (List.mem_of_mem_take hx))
      clear hc hr hlt
      generalize greatOf (l.take k) = s at hT hs ⊢
      generalize l[k] = x at hT hv c0 ⊢
      obtain ⟨any, out⟩ := s
      simp only at hs
      cases hN : nanN x
      · have hN0 := hidden hN
        have hS : Hid (greatStep (any, out) x = (true, if !any || decide (ordN out < ordN x) then x else out)) := by
          show greatStep (any, out) x = _
          unfold greatStep; rw [hN]; rfl
        cases any
        · go_wp2_with (go_at_call 150; refine (risNaN_any _ _ hv).mono ?_; rw [hN0.out]; rintro e w' ⟨rfl, rfl⟩)
          go_round
          case rel => exact ⟨k + 1, by omega, by go_num, by rw [hT.out, hS.out], by rw [hT.out, hS.out]; rfl⟩
          case measure => simp [intOf]; omega
        · by_cases hlo : ordN out < ordN x
          all_goals
            have hlo' : ((ordN out : Nat) : Int) < ((ordN x : Nat) : Int) ↔ ordN out < ordN x := by omega
            have hlo0 := hidden hlo
            have hlo1 := hlo'.symm
            clear hlo'
          · have hlo2 := hlo1.1 hlo0.out
            clear hlo hlo1
            go_wp2_with (first | (go_at_call 150; refine (risNaN_any _ _ hv).mono ?_; rw [hN0.out]; rintro e w' ⟨rfl, rfl⟩) | (go_at_call 151; refine (rorder_any _ _ (by assumption)).mono ?_; rintro e w' ⟨rfl, rfl⟩))
            go_round
            case rel => exact ⟨k + 1, by omega, by go_num, by rw [hT.out, hS.out], by rw [hT.out, hS.out]; simp [hlo0.out]⟩
            case measure => simp [intOf]; omega
          · have hlo2 := mt hlo1.2 hlo0.out
            clear hlo hlo1
            go_wp2_with (first | (go_at_call 150; refine (risNaN_any _ _ hv).mono ?_; rw [hN0.out]; rintro e w' ⟨rfl, rfl⟩) | (go_at_call 151; refine (rorder_any _ _ (by assumption)).mono ?_; rintro e w' ⟨rfl, rfl⟩))
            go_round
            case rel => exact ⟨k + 1, by omega, by go_num, by rw [hT.out, hS.out], by rw [hT.out, hS.out]; simp [hlo0.out]⟩
            case measure => simp [intOf]; omega
      · have hN0 := hidden hN
        have hS : Hid (greatStep (any, out) x = (any, out)) := by
          show greatStep (any, out) x = _
          unfold greatStep; rw [hN]; rfl
        clear hN
        go_wp2_with (go_at_call 150; refine (risNaN_any _ _ hv).mono ?_; rw [hN0.out]; rintro e w' ⟨rfl, rfl⟩)
        go_round
        case rel => exact ⟨k + 1, by omega, by go_num, by rw [hT.out, hS.out], by rw [hT.out, hS.out]⟩
        case measure => simp [intOf]; omega
    · obtain rfl : k = n := by omega
      go_wp2
      go_ret
      exact ⟨ret_int (by rw [List.take_of_length_le (by rw [hL.out]; exact Nat.le_refl _)]), rfl⟩

end Go.Proofs.Ytohocdbneopooaa
