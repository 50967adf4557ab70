/- strings.HasPrefix and match.sign, walked. Condition: the text is not too long. -/
import Derived.Test.YtbijjjhfekkfaaaGreatReadMP
import Derived.Test.YtbijjjhfekkfaaaGreatPkc6c90f11
namespace Go.Proofs.YtbijjjhfekkfaaaGreat
set_option maxRecDepth 1000000
open Go.RowKit

/-- does the text begin so? -/
def preP (s p : ByteArray) : Bool := decide (p.size ≤ s.size) && decide (s.extract 0 p.size = p)
theorem hasPreI_any (s p : ByteArray) (w : World) (_hs : s.size ≤ 16777216) (_hp : p.size ≤ 16777216) :
    Calls Tryz.prog 183 #[.string s, .string p] w fun e w' => e = .returned (.bool (preP s p)) ∧ w' = w := by
  have he := str_eq (s.extract 0 p.size) p
  by_cases hle : p.size ≤ s.size
  · have h1 : (p.size : Int) ≤ (s.size : Int) := by omega
    have hr : Hid (preP s p = decide (s.extract 0 p.size = p)) := by simp [Hid, preP, hle]
    go_enter Tryz.func183, Tryz.ntmps183
    go_wp2_with fail
    go_ret
    rw [hr.out]
    exact ⟨rfl, rfl⟩
  · have h1 : ¬ (p.size : Int) ≤ (s.size : Int) := by omega
    have hr : Hid (preP s p = false) := by simp [Hid, preP, hle]
    go_enter Tryz.func183, Tryz.ntmps183
    go_wp2_with fail
    go_ret
    rw [hr.out]
    exact ⟨rfl, rfl⟩
theorem hasPre_any (s p : ByteArray) (w : World) (hs : s.size ≤ 16777216) (hp : p.size ≤ 16777216) :
    Calls Tryz.prog 116 #[.string s, .string p] w fun e w' => e = .returned (.bool (preP s p)) ∧ w' = w := by
  have S1 := hidden (hasPreI_any s p w hs hp)
  go_enter Tryz.func116, Tryz.ntmps116
  go_wp2_with fail
  refine S1.out.mono ?_
  rintro e w2 ⟨rfl, rfl⟩
  go_wp2_with fail
  go_ret
  exact ⟨rfl, rfl⟩
theorem infoKnd : (Tryz.prog.info? 129).map (fun i => i.size) = some 1 := by kernel_rfl
theorem ix_kinds (k : Nat) (v : Int) (hk : k < 4) (hv : #[Value.int .i64 2, Value.int .i64 3, Value.int .i64 1, Value.int .i64 0][k]? = some (.int .i64 v)) (w : World) : (Instr.index 252 (.agg #[.int .i64 2, .int .i64 3, .int .i64 1, .int .i64 0]) (.int .i64 (k : Int))).run Tryz.prog w = .ok (.int .i64 v) w := by
  obtain ⟨f, hf, hs⟩ := Option.map_eq_some_iff.1 infoKnd
  exact ix_arr Tryz.underlying252 Tryz.underlying129 rfl hf hs hk hv w
def signPM (s : ByteArray) : Int := if preP s ⟨#[61, 126]⟩ = true then 2 else if preP s ⟨#[33, 126]⟩ = true then 3 else if preP s ⟨#[33, 61]⟩ = true then 1 else if preP s ⟨#[61]⟩ = true then 0 else -1
/-- the first k signs don't stand there -/
def noP (s : ByteArray) (k : Nat) : Prop := (0 < k → preP s ⟨#[61, 126]⟩ = false) ∧ (1 < k → preP s ⟨#[33, 126]⟩ = false) ∧ (2 < k → preP s ⟨#[33, 61]⟩ = false) ∧ (3 < k → preP s ⟨#[61]⟩ = false)
set_option maxHeartbeats 3200000 in
theorem msign_any (s : ByteArray) (w : World) (hs : s.size ≤ 16777216) :
    Calls Tryz.prog 49 #[.string s] w fun e w' => e = .returned (.int .i64 (signPM s)) ∧ Below w.heap.size w w' := by
  go_enter Tryz.func49, Tryz.ntmps49
  go_wp2_with fail
  go_loopw [6] (fun vi wr => ∃ k : Int, vi = .int .i64 k ∧ 0 ≤ k ∧ k ≤ 4 ∧ Hid (noP s k.toNat) ∧ Hid (Below w.heap.size w wr)) (fun vi _ => 4 - (intOf vi).toNat)
  case atStart => exact ⟨0, rfl, by omega, by omega, hidden (by simp [noP]), hidden (Below.refl _ _)⟩
  case round =>
    obtain ⟨k, rfl, hk0, hk, hno, hb⟩ := hrel
    obtain rfl | rfl | rfl | rfl | rfl : k = 0 ∨ k = 1 ∨ k = 2 ∨ k = 3 ∨ k = 4 := by omega
    · have S1 := hidden (signs_any wr)
      have S2 := hidden (fun W => hasPre_any s ⟨#[61, 126]⟩ W hs (by decide))
      have hx1 : ∀ w, (Instr.index 252 (.agg #[.int .i64 2, .int .i64 3, .int .i64 1, .int .i64 0]) (.int .i64 0)).run Tryz.prog w = .ok (.int .i64 2) w := fun w => ix_kinds 0 2 (by omega) rfl w
      have hx2 : ∀ w, (Instr.index 133 (.agg #[.string ⟨#[61]⟩, .string ⟨#[33, 61]⟩, .string ⟨#[61, 126]⟩, .string ⟨#[33, 126]⟩]) (.int .i64 2)).run Tryz.prog w = .ok (.string ⟨#[61, 126]⟩) w := fun w => ix_signs 2 (by omega) w
      cases hp : preP s ⟨#[61, 126]⟩ with
      | true =>
        rw [hp] at S2
        have HR := hidden (show signPM s = 2 by have h := hno.out; simp only [noP] at h; simp [signPM, hp])
        clear hp
        go_wp2_with fail
        refine S1.out.mono ?_
        rintro e w2 ⟨rfl, b2⟩
        have HB2 := hidden (hb.out.trans (b2.mono hb.out.size))
        clear b2
        go_wp2_with fail
        refine (S2.out _).mono ?_
        rintro e w3 ⟨rfl, rfl⟩
        go_wp2_with fail
        go_ret
        rw [HR.out]
        exact ⟨rfl, HB2.out⟩
      | false =>
        rw [hp] at S2
        have HNO := hidden (show noP s 1 by have h := hno.out; simp only [noP] at h; simp [noP, hp])
        clear hp
        go_wp2_with fail
        refine S1.out.mono ?_
        rintro e w2 ⟨rfl, b2⟩
        have HB2 := hidden (hb.out.trans (b2.mono hb.out.size))
        clear b2
        go_wp2_with fail
        refine (S2.out _).mono ?_
        rintro e w3 ⟨rfl, rfl⟩
        go_wp2_with fail
        go_roundw
        case rel => exact ⟨1, by go_num, by omega, by omega, HNO, HB2⟩
        case measure => simp [intOf]
    · have S1 := hidden (signs_any wr)
      have S2 := hidden (fun W => hasPre_any s ⟨#[33, 126]⟩ W hs (by decide))
      have hx1 : ∀ w, (Instr.index 252 (.agg #[.int .i64 2, .int .i64 3, .int .i64 1, .int .i64 0]) (.int .i64 1)).run Tryz.prog w = .ok (.int .i64 3) w := fun w => ix_kinds 1 3 (by omega) rfl w
      have hx2 : ∀ w, (Instr.index 133 (.agg #[.string ⟨#[61]⟩, .string ⟨#[33, 61]⟩, .string ⟨#[61, 126]⟩, .string ⟨#[33, 126]⟩]) (.int .i64 3)).run Tryz.prog w = .ok (.string ⟨#[33, 126]⟩) w := fun w => ix_signs 3 (by omega) w
      cases hp : preP s ⟨#[33, 126]⟩ with
      | true =>
        rw [hp] at S2
        have HR := hidden (show signPM s = 3 by have h := hno.out; simp only [noP] at h; simp [signPM, hp, h])
        clear hp
        go_wp2_with fail
        refine S1.out.mono ?_
        rintro e w2 ⟨rfl, b2⟩
        have HB2 := hidden (hb.out.trans (b2.mono hb.out.size))
        clear b2
        go_wp2_with fail
        refine (S2.out _).mono ?_
        rintro e w3 ⟨rfl, rfl⟩
        go_wp2_with fail
        go_ret
        rw [HR.out]
        exact ⟨rfl, HB2.out⟩
      | false =>
        rw [hp] at S2
        have HNO := hidden (show noP s 2 by have h := hno.out; simp only [noP] at h; simp [noP, hp, h])
        clear hp
        go_wp2_with fail
        refine S1.out.mono ?_
        rintro e w2 ⟨rfl, b2⟩
        have HB2 := hidden (hb.out.trans (b2.mono hb.out.size))
        clear b2
        go_wp2_with fail
        refine (S2.out _).mono ?_
        rintro e w3 ⟨rfl, rfl⟩
        go_wp2_with fail
        go_roundw
        case rel => exact ⟨2, by go_num, by omega, by omega, HNO, HB2⟩
        case measure => simp [intOf]
    · have S1 := hidden (signs_any wr)
      have S2 := hidden (fun W => hasPre_any s ⟨#[33, 61]⟩ W hs (by decide))
      have hx1 : ∀ w, (Instr.index 252 (.agg #[.int .i64 2, .int .i64 3, .int .i64 1, .int .i64 0]) (.int .i64 2)).run Tryz.prog w = .ok (.int .i64 1) w := fun w => ix_kinds 2 1 (by omega) rfl w
      have hx2 : ∀ w, (Instr.index 133 (.agg #[.string ⟨#[61]⟩, .string ⟨#[33, 61]⟩, .string ⟨#[61, 126]⟩, .string ⟨#[33, 126]⟩]) (.int .i64 1)).run Tryz.prog w = .ok (.string ⟨#[33, 61]⟩) w := fun w => ix_signs 1 (by omega) w
      cases hp : preP s ⟨#[33, 61]⟩ with
      | true =>
        rw [hp] at S2
        have HR := hidden (show signPM s = 1 by have h := hno.out; simp only [noP] at h; simp [signPM, hp, h])
        clear hp
        go_wp2_with fail
        refine S1.out.mono ?_
        rintro e w2 ⟨rfl, b2⟩
        have HB2 := hidden (hb.out.trans (b2.mono hb.out.size))
        clear b2
        go_wp2_with fail
        refine (S2.out _).mono ?_
        rintro e w3 ⟨rfl, rfl⟩
        go_wp2_with fail
        go_ret
        rw [HR.out]
        exact ⟨rfl, HB2.out⟩
      | false =>
        rw [hp] at S2
        have HNO := hidden (show noP s 3 by have h := hno.out; simp only [noP] at h; simp [noP, hp, h])
        clear hp
        go_wp2_with fail
        refine S1.out.mono ?_
        rintro e w2 ⟨rfl, b2⟩
        have HB2 := hidden (hb.out.trans (b2.mono hb.out.size))
        clear b2
        go_wp2_with fail
        refine (S2.out _).mono ?_
        rintro e w3 ⟨rfl, rfl⟩
        go_wp2_with fail
        go_roundw
        case rel => exact ⟨3, by go_num, by omega, by omega, HNO, HB2⟩
        case measure => simp [intOf]
    · have S1 := hidden (signs_any wr)
      have S2 := hidden (fun W => hasPre_any s ⟨#[61]⟩ W hs (by decide))
      have hx1 : ∀ w, (Instr.index 252 (.agg #[.int .i64 2, .int .i64 3, .int .i64 1, .int .i64 0]) (.int .i64 3)).run Tryz.prog w = .ok (.int .i64 0) w := fun w => ix_kinds 3 0 (by omega) rfl w
      have hx2 : ∀ w, (Instr.index 133 (.agg #[.string ⟨#[61]⟩, .string ⟨#[33, 61]⟩, .string ⟨#[61, 126]⟩, .string ⟨#[33, 126]⟩]) (.int .i64 0)).run Tryz.prog w = .ok (.string ⟨#[61]⟩) w := fun w => ix_signs 0 (by omega) w
      cases hp : preP s ⟨#[61]⟩ with
      | true =>
        rw [hp] at S2
        have HR := hidden (show signPM s = 0 by have h := hno.out; simp only [noP] at h; simp [signPM, hp, h])
        clear hp
        go_wp2_with fail
        refine S1.out.mono ?_
        rintro e w2 ⟨rfl, b2⟩
        have HB2 := hidden (hb.out.trans (b2.mono hb.out.size))
        clear b2
        go_wp2_with fail
        refine (S2.out _).mono ?_
        rintro e w3 ⟨rfl, rfl⟩
        go_wp2_with fail
        go_ret
        rw [HR.out]
        exact ⟨rfl, HB2.out⟩
      | false =>
        rw [hp] at S2
        have HNO := hidden (show noP s 4 by have h := hno.out; simp only [noP] at h; simp [noP, hp, h])
        clear hp
        go_wp2_with fail
        refine S1.out.mono ?_
        rintro e w2 ⟨rfl, b2⟩
        have HB2 := hidden (hb.out.trans (b2.mono hb.out.size))
        clear b2
        go_wp2_with fail
        refine (S2.out _).mono ?_
        rintro e w3 ⟨rfl, rfl⟩
        go_wp2_with fail
        go_roundw
        case rel => exact ⟨4, by go_num, by omega, by omega, HNO, HB2⟩
        case measure => simp [intOf]
    · have HR := hidden (show signPM s = -1 by
        have h := hno.out
        simp only [noP] at h
        simp [signPM, h])
      go_wp2_with fail
      go_ret
      rw [HR.out]
      exact ⟨rfl, hb.out⟩
end Go.Proofs.YtbijjjhfekkfaaaGreat
