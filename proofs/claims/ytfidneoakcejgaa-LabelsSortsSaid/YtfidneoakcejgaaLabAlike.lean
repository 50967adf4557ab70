/- almanaclaw04.alike: whether two lists are one. No condition. -/
import Derived.Test.YtfidneoakcejgaaLabLaw
namespace Go.Proofs.Ytfidneoakcejgaa
set_option maxRecDepth 100000
open Go.RowKit

instance : DecidableEq Lbl := fun x y => decidable_of_iff (x.name = y.name ∧ x.value = y.value) (by cases x; cases y; simp)
theorem take_end {l l2 : List Lbl} {n : Nat} (h : l.take n = l2.take n) (h1 : l.length = n) (h2 : l2.length = n) : l = l2 := by
  rwa [List.take_of_length_le (by omega), List.take_of_length_le (by omega)] at h
theorem take_more {l l2 : List Lbl} {q : Nat} {x : Lbl} (h : l.take q = l2.take q) (h1 : l[q]? = some x) (h2 : l2[q]? = some x) : l.take (q + 1) = l2.take (q + 1) := by
  rw [take_snoc? h1, take_snoc? h2, h]
theorem lbl_ne {l l2 : List Lbl} {q : Nat} {x y : Lbl} (h1 : l[q]? = some x) (h2 : l2[q]? = some y) (h : x ≠ y) : l ≠ l2 := fun e => by
  subst e
  exact h (Option.some.inj (h1.symm.trans h2))

set_option maxHeartbeats 3200000 in
theorem alike_gen (A B : Option Addr) (n m c1 c2 : Nat) (l l2 : List Lbl) (w : World) (h : LbF w A n l) (h2 : LbF w B m l2) :
    Calls Try.prog 19 #[.slice A n c1, .slice B m c2] w fun e w' => e = .returned (.bool (decide (l = l2))) ∧ Below w.heap.size w w' := by
  have H := hidden h
  have K := hidden h2
  have hfit := h.fit
  clear h h2
  by_cases hnm : n = m
  · subst hnm
    have hnn : ((n : Int) != (n : Int)) = false := by simp
    go_enter Try.func19, Try.ntmps19
    go_wp2
    go_loopw [13] (fun i wr => ∃ q : Nat, q ≤ n ∧ i = .int .i64 q ∧ Hid (l.take q = l2.take q) ∧ Below w.heap.size w wr) (fun i _ => n - (intOf i).toNat)
    case atStart => exact ⟨0, Nat.zero_le _, rfl, hidden rfl, Below.refl _ _⟩
    case round =>
      obtain ⟨q, hq1, rfl, ht, hb⟩ := hrel
      have hq0 : (0 : Int) ≤ (q : Int) := by omega
      by_cases hlt : q < n
      · obtain ⟨gs, o, x, rfl, _, hx, c0, c1, _⟩ := lb_cells (H.out.on hb) hlt
        obtain ⟨gt, p, y, rfl, _, hy, d0, d1, _⟩ := lb_cells (K.out.on hb) hlt
        have hlt' : (q : Int) < (n : Int) := by omega
        have HX := hidden hx
        have HY := hidden hy
        have HB := hidden hb
        have s0 := str_eq x.name y.name
        have s1 := str_eq x.value y.value
        clear hx hy hb
        by_cases e0 : x.name = y.name
        · rw [decide_eq_true e0] at s0
          by_cases e1 : x.value = y.value
          · have exy : x = y := by cases x; cases y; simp_all
            have HT := hidden (take_more ht.out HX.out (by rw [HY.out, exy]))
            rw [decide_eq_true e1] at s1
            clear e0 e1 exy
            go_wp2
            go_quiet (fail)
            go_wp2
            go_roundw
            case rel => exact ⟨q + 1, by omega, by go_num, HT, below_drewN HB.out _⟩
            case measure => simp [intOf]; omega
          · have HF : Hid (decide (l = l2) = false) := decide_eq_false (lbl_ne HX.out HY.out fun e => e1 (by rw [e]))
            rw [decide_eq_false e1] at s1
            clear e0 e1
            go_wp2
            go_quiet (fail)
            go_wp2
            go_ret
            rw [HF.out]
            exact ⟨rfl, below_drewN HB.out _⟩
        · have HF : Hid (decide (l = l2) = false) := decide_eq_false (lbl_ne HX.out HY.out fun e => e0 (by rw [e]))
          rw [decide_eq_false e0] at s0
          clear e0
          go_wp2
          go_quiet (fail)
          go_wp2
          go_ret
          rw [HF.out]
          exact ⟨rfl, below_drewN HB.out _⟩
      · have hlt' : ¬ (q : Int) < (n : Int) := by omega
        obtain rfl : q = n := by omega
        have HF : Hid (decide (l = l2) = true) := decide_eq_true (take_end ht.out H.out.len K.out.len)
        have HB := hidden hb
        clear hb
        go_wp2
        go_ret
        rw [HF.out]
        exact ⟨rfl, HB.out⟩
  · have HF : Hid (decide (l = l2) = false) := decide_eq_false fun e => hnm (by rw [← H.out.len, ← K.out.len, e])
    have hnn : ((n : Int) != (m : Int)) = true := by simp; omega
    have hm : ¬ (n : Int) = (m : Int) := by omega
    go_enter Try.func19, Try.ntmps19
    go_wp2
    go_ret
    rw [HF.out]
    exact ⟨rfl, Below.refl _ _⟩
end Go.Proofs.Ytfidneoakcejgaa
