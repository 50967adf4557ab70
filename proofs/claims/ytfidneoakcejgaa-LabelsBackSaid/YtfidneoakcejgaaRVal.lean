/- The reference's value of a digit. No condition. -/
import Derived.Test.YtfidneoakcejgaaRQuo
import Derived.Test.YtfidneoakcejgaaUnqP
namespace Go.Proofs.Ytfidneoakcejgaa
set_option maxRecDepth 100000
open Go.RowKit

theorem rvalue_any (b : UInt8) (w : World) :
    Calls Try.prog 60 #[.int .u8 (b.toNat : Int)] w fun e w' => e = .returned (.int .i64 (hexV b : Nat)) ∧ w = w' := by
  obtain ⟨v, hv⟩ : ∃ v : Nat, hexV b = v := ⟨_, rfl⟩
  have hb := b.toNat_lt
  obtain ⟨n, hn⟩ : ∃ n, b.toNat = n := ⟨_, rfl⟩
  rw [hv]
  unfold hexV at hv
  rw [hn] at hv hb ⊢
  clear hn
  by_cases h1 : 48 ≤ n ∧ n ≤ 57
  · rw [if_pos h1] at hv
    have a0 : (48 : Int) ≤ (n : Int) := by omega
    have a1 : (n : Int) ≤ 57 := by omega
    have HV := hidden hv
    clear hv
    go_enter Try.func60, Try.ntmps60
    go_wp2_with fail
    go_ret
    exact ⟨by rw [← HV.out]; congr 2; first | go_num | omega, rfl⟩
  · rw [if_neg h1] at hv
    by_cases h2 : 97 ≤ n ∧ n ≤ 102
    · rw [if_pos h2] at hv
      have a0 : (97 : Int) ≤ (n : Int) := by omega
      have a1 : (n : Int) ≤ 102 := by omega
      have a2 : ¬ (n : Int) ≤ 57 := by omega
      have a3 : (48 : Int) ≤ (n : Int) := by omega
      have HV := hidden hv
      clear hv
      go_enter Try.func60, Try.ntmps60
      go_wp2_with fail
      go_ret
      exact ⟨by rw [← HV.out]; congr 2; first | go_num | omega, rfl⟩
    · rw [if_neg h2] at hv
      by_cases a0 : (48 : Int) ≤ (n : Int)
      · have a1 : ¬ (n : Int) ≤ 57 := by omega
        by_cases a2 : (97 : Int) ≤ (n : Int)
        · have a3 : ¬ (n : Int) ≤ 102 := by omega
          have HV := hidden hv
          clear hv
          go_enter Try.func60, Try.ntmps60
          go_wp2_with fail
          go_ret
          exact ⟨by rw [← HV.out]; rfl, rfl⟩
        · have a3 : (n : Int) < 97 := by omega
          have HV := hidden hv
          clear hv
          go_enter Try.func60, Try.ntmps60
          go_wp2_with fail
          go_ret
          exact ⟨by rw [← HV.out]; rfl, rfl⟩
      · have a2 : ¬ (97 : Int) ≤ (n : Int) := by omega
        have a3 : (n : Int) < 48 := by omega
        have HV := hidden hv
        clear hv
        go_enter Try.func60, Try.ntmps60
        go_wp2_with fail
        go_ret
        exact ⟨by rw [← HV.out]; rfl, rfl⟩
end Go.Proofs.Ytfidneoakcejgaa
