/- sort.Search over a predicate that is everywhere alike. Condition: the predicate has a contract, the length is within the reach. -/
import Derived.Test.YthncochjhbmceaaGreatBase
import Derived.IntWalk
namespace Go.Proofs.YthncochjhbmceaaGreat
set_option maxRecDepth 100000
open Go.RowKit

set_option maxHeartbeats 3200000 in
theorem search_any (n : Nat) (f : FuncId) (cb : Array Value) (b : Bool) (w : World) (hn : n ≤ 1099511627776) (eg : ∀ args w, (callFunc f args).run Tryz.prog w = .ok (.enter f args) w)
    (hC : ∀ i : Nat, i < n → ∀ W, Below w.heap.size w W → Calls Tryz.prog f (#[.int .i64 i] ++ cb) W fun e w2 => e = .returned (.bool b) ∧ Below W.heap.size W w2) :
    Calls Tryz.prog 47 #[.int .i64 n, .func (.func f) #[] cb] w fun e w' => e = .returned (.int .i64 (if b then 0 else (n : Int))) ∧ Below w.heap.size w w' := by
  have HC := hidden hC
  clear hC
  go_enter Tryz.func47, Tryz.ntmps47
  go_wp2_with fail
  go_loopw [5, 6] (fun vi vj wr => ∃ i j : Nat, vi = .int .i64 i ∧ vj = .int .i64 j ∧ i ≤ j ∧ j ≤ n ∧ Hid (b = true → i = 0) ∧ Hid (b = false → j = n) ∧ Hid (Below w.heap.size w wr)) (fun vi vj _ => (intOf vj).toNat - (intOf vi).toNat)
  case atStart => exact ⟨0, n, rfl, rfl, Nat.zero_le _, Nat.le_refl _, hidden fun _ => rfl, hidden fun _ => rfl, hidden (Below.refl _ _)⟩
  case round =>
    obtain ⟨i, j, rfl, rfl, hij, hjn, h0, h1, hb⟩ := hrel
    by_cases hlt : i < j
    · have k1 : (i : Int) < (j : Int) := by omega
      have fw1 : IntKind.i64.wrap ((i : Int) + (j : Int)) = ((i + j : Nat) : Int) := by rw [Go.IntWalk.i64_in _ (by omega)]; simp
      have fw2 : IntKind.u64.wrap ((i + j : Nat) : Int) = ((i + j : Nat) : Int) := Go.IntWalk.u64_in _ (by omega)
      obtain ⟨m, hmm⟩ : ∃ m, (i + j) / 2 = m := ⟨_, rfl⟩
      have hm2 : ((i : Int) + (j : Int)) / 2 = (m : Int) := by omega
      have hmi : i ≤ m ∧ m < j := by omega
      have S1 := hidden (HC.out m (by omega) wr hb.out)
      have fw3 : IntKind.i64.wrap ((m : Int) + 1) = (m : Int) + 1 := Go.IntWalk.i64_in _ (by omega)
      have HM2 := hidden hm2
      have HM := hidden hmi
      have hmj : m ≤ n := by omega
      clear hm2 hmm
      go_wp2_with fail
      rw [HM2.out]
      refine S1.out.mono ?_
      rintro e w2 ⟨rfl, b2⟩
      have HB := hidden (hb.out.trans (b2.mono hb.out.size))
      clear S1 b2 hb
      cases b with
      | true =>
        go_wp2_with fail
        go_roundw
        case rel => exact ⟨i, m, rfl, rfl, HM.out.1, hmj, h0, hidden (by simp), HB⟩
        case measure => have := HM.out; simp [intOf]; omega
      | false =>
        go_wp2_with fail
        go_roundw
        case rel => exact ⟨m + 1, j, by go_num, rfl, HM.out.2, hjn, hidden (by simp), h1, HB⟩
        case measure => have := HM.out; simp [intOf]; omega
    · have hij2 : i = j := by omega
      subst hij2
      cases b with
      | true =>
        obtain rfl : i = 0 := h0.out rfl
        go_wp2_with fail
        go_ret
        exact ⟨rfl, hb.out⟩
      | false =>
        obtain rfl : i = n := h1.out rfl
        go_wp2_with fail
        go_ret
        exact ⟨rfl, hb.out⟩
end Go.Proofs.YthncochjhbmceaaGreat
