/- The reference's Seek at a rising list, walked. Condition: the row is within the reach. -/
import Derived.Test.YtjklonfheenfbaaRef13b
import Derived.Test.YtjklonfheenfbaaListSeek
namespace Go.Proofs.Ytjklonfheenfbaa
set_option maxRecDepth 100000
open Go.RowKit Go.Shelf

theorem geL_drop {l : List Int} (hr : rising l) {k : Nat} {n y : Int} (hlo : ∀ i x, i < k → l[i]? = some x → x < n) (hy : l[k]? = some y) (hge : n ≤ y) : geL n l = y :: l.drop (k + 1) := by
  obtain ⟨hk, he⟩ := List.getElem?_eq_some_iff.1 hy
  have e2 : l.drop k = y :: l.drop (k + 1) := by rw [List.drop_eq_getElem_cons hk, he]
  rw [← e2]
  have hs : l = l.take k ++ l.drop k := (List.take_append_drop k l).symm
  have h1 : geL n (l.take k) = [] := List.filter_eq_nil_iff.2 fun a ha => by
    obtain ⟨i, hi⟩ := List.mem_iff_getElem?.1 ha
    have hil := (List.getElem?_eq_some_iff.1 hi).1
    have hik : i < k := by rw [List.length_take] at hil; omega
    rw [List.getElem?_take_of_lt hik] at hi
    have := hlo i a hik hi
    simp; omega
  have h2 : geL n (l.drop k) = l.drop k := geL_all fun a ha => by
    rw [e2] at ha
    have hp := hr
    unfold rising at hp
    rw [hs, e2] at hp
    rcases List.mem_cons.1 ha with rfl | ha
    · exact hge
    · have := (List.pairwise_cons.1 (List.pairwise_append.1 hp).2.1).1 a ha; omega
  have h3 : geL n l = geL n (l.take k ++ l.drop k) := by rw [List.take_append_drop]
  rw [h3]
  unfold geL at h1 h2 ⊢
  rw [List.filter_append, h1, h2, List.nil_append]
def seekAns (A0 : Option Addr) (L : List Int) (e : Ending) (w' : World) : Prop := match L with
  | [] => e = .returned (.tuple #[.int .i64 0, .bool false, .slice none 0 0])
  | x :: r => ∃ A c, e = .returned (.tuple #[.int .i64 x, .bool true, .slice A r.length c]) ∧ r.length ≤ c ∧ IntF w' A r.length r ∧ ∀ k, blockOf A k → blockOf A0 k

set_option maxHeartbeats 1600000 in
theorem rSeek13_any (A : Option Addr) (n c : Nat) (l : List Int) (x : Int) (w : World) (h : IntF w A n l) (hr : rising l) (hnc : n ≤ c) :
    Calls Try.prog 42 #[.slice A n c, .int .i64 x] w fun e w' => seekAns A (geL x l) e w' ∧ Below w.heap.size w w' := by
  have H := hidden h
  have hfit := h.fit
  have HRr := hidden hr
  clear h hr
  go_enter Try.func42, Try.ntmps42
  go_wp2_with fail
  go_loopw [7] (fun i wr => ∃ k m : Nat, k ≤ n ∧ i = .int .i64 k ∧ Hid (∀ i z, i < k → l[i]? = some z → z < x) ∧ wr = w.drewN m) (fun i _ => n - (intOf i).toNat)
  case atStart => exact ⟨0, 0, Nat.zero_le _, rfl, hidden (fun _ _ h => absurd h (Nat.not_lt_zero _)), rfl⟩
  case round =>
    obtain ⟨k, m, hk, rfl, hno, rfl⟩ := hrel
    by_cases hlt : k < n
    · obtain ⟨g, o, y, rfl, _, hy, hc⟩ := int_cell H.out hlt
      have hc' : (w.drewN m).cell? ⟨g, o + k, none⟩ = some (.int .i64 y) := hc
      have k0 : (0 : Int) ≤ (k : Int) := by omega
      have k1 : (k : Int) < (n : Int) := by omega
      have k2 : (0 : Int) ≤ (k : Int) + 1 := by omega
      have k3 : (k : Int) + 1 ≤ (n : Int) := by omega
      have HY := hidden hy
      have mixed : Try.prog.follows Departure.mixedOrders = true := by kernel_rfl
      clear hy
      by_cases hxy : x ≤ y
      · have hge := hidden (geL_drop HRr.out hno.out HY.out hxy)
        have hcut := hidden (H.out.row.cut (i := k + 1) (k := n) (by omega) (Nat.le_refl _))
        have hlen : Hid ((l.drop (k + 1)).length = n - (k + 1)) := by rw [Hid, List.length_drop, H.out.len]
        by_cases hcc : c = k + 1
        · subst hcc
          have hn0 : n - (k + 1) = 0 := by omega
          go_wp2_with fail
          go_region_o
          all_goals (go_wp2_with fail)
          all_goals go_ret3
          rw [hge.out]
          refine ⟨⟨_, _, by rw [hlen.out]; rw [hn0]; rfl, ?_, ?_, fun k hk => hk⟩, below_drewN (Below.refl _ _) _⟩
          · rw [hlen.out, hn0]; exact Nat.zero_le _
          · have h0 : l.drop (k + 1) = [] := List.eq_nil_of_length_eq_zero (by rw [hlen.out]; omega)
            rw [h0]
            exact ⟨Row.nil, rfl, by decide, by simp⟩
        · have hcz : ¬ c - (k + 1) = 0 := by omega
          have hcl : ((k : Int) + 1) ≤ (c : Int) := by omega
          go_wp2_with fail
          go_region_o
          all_goals (go_wp2_with fail)
          all_goals go_ret3
          rw [hge.out]
          refine ⟨⟨_, _, by rw [hlen.out]; rfl, ?_, ?_, fun k hk => by obtain ⟨p, hk⟩ := hk; simp only [Option.some.injEq, Addr.mk.injEq] at hk; exact ⟨o, by simp [hk.1]⟩⟩, below_drewN (Below.refl _ _) _⟩
          · rw [hlen.out]; omega
          · have hk := hcut.out
            rw [show (some (⟨g, o, none⟩ : Addr)).map (fun a => (⟨a.block, a.off + (k + 1) * 1, a.spot⟩ : Addr)) = some ⟨g, o + (k + 1), none⟩ by simp] at hk
            have e1 : (l.drop (k + 1)).map (Value.int .i64) = ((l.map (Value.int .i64)).drop ((k + 1) * 1)).take ((n - (k + 1)) * 1) := by
              rw [Nat.mul_one, Nat.mul_one, ← List.map_drop, List.take_of_length_le (by rw [List.length_map, hlen.out]; exact Nat.le_refl _)]
            exact ⟨by rw [e1, hlen.out]; exact hk.drewN _, rfl, by rw [hlen.out]; have := H.out.fit; omega, fun z hz => H.out.ints z (List.mem_of_mem_drop hz)⟩
      · have hxd : decide (x ≤ y) = false := decide_eq_false hxy
        have hno2 : Hid (∀ i z, i < k + 1 → l[i]? = some z → z < x) := fun i z hi hz => by
          by_cases e : i = k
          · subst e; have := hz.symm.trans HY.out; cases this; omega
          · exact hno.out i z (by omega) hz
        go_wp2_with fail
        go_roundw
        case rel => exact ⟨k + 1, m, by omega, by go_num, hno2, rfl⟩
        case measure => simp [intOf]; omega
    · obtain rfl : n = k := by omega
      have hE : Hid (geL x l = []) := List.filter_eq_nil_iff.2 fun a ha => by
        obtain ⟨i, hi⟩ := List.mem_iff_getElem?.1 ha
        have hil := (List.getElem?_eq_some_iff.1 hi).1
        have := hno.out i a (by have := H.out.len; omega) hi
        simp; omega
      go_wp2_with fail
      go_ret3
      rw [hE.out]
      exact ⟨rfl, below_drewN (Below.refl _ _) m⟩
end Go.Proofs.Ytjklonfheenfbaa
