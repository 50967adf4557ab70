/- (*post.Cursor).Rest, walked: all numbers that are left, in memory of the call's own. Condition: the list is within the reach. -/
import Derived.Test.YtnedgjdhpdejdaaCurSeek
namespace Go.Proofs.Ytnedgjdhpdejdaa
set_option maxRecDepth 100000
open Go.RowKit Go.Shelf

def lenV : Value → Nat
  | .slice _ n _ => n
  | _ => 0
theorem info_int : (Try.prog.info? 3).map (fun i => (i.zero, i.size, i.bytes)) = some (some (.int .i64 0), 1, 8) := by kernel_rfl
theorem own_kp {w w' : World} {base : Nat} {e : TypeId} {size n : Nat} {v : Value} {xs : List Value} {F : Nat → Prop} (h : w.ownsRow base e size v n xs) (hk : Kp F w w') (hF : ∀ k, F k → k < base) : w'.ownsRow base e size v n xs := by
  refine ⟨h.1, ?_⟩
  rcases h.2 with h0 | ⟨g, cap, cur, h1, h2, h3, h4⟩
  · exact .inl h0
  · refine .inr ⟨g, cap, cur, h1, h2, ?_, h4⟩
    have hlt : g < w.heap.size := (Array.getElem?_eq_some_iff.1 h3).1
    exact (hk.block g hlt fun h => by have := hF g h; omega).trans h3
theorem kp_grown {F : Nat → Prop} {a w w' : World} {row : Option Nat} (h : Kp F a w) (k : w.grownBy w' row) (hr : ∀ g, row = some g → a.heap.size ≤ g) : Kp F a w' :=
  ⟨k.os.trans h.os, k.tape.trans h.tape, k.output.trans h.output, Nat.le_trans h.size k.size, fun i hi hn => (k.block i (Nat.lt_of_lt_of_le hi h.size) fun e => by have := hr i e.symm; omega).trans (h.block i hi hn)⟩

set_option maxHeartbeats 1600000 in
theorem rest_cur (p : Value) (E : List Int) (F : Nat → Prop) (w : World) (h : IsCur w p E F) (hl : E.length * 8 ≤ 140737488355328) :
    Calls Try.prog 9 #[p] w fun e w' => ∃ v, e = .returned v ∧ w'.ownsRow w.heap.size 3 1 v E.length (E.map (Value.int .i64)) ∧ IsCur w' p [] F ∧ Kp F w w' := by
  obtain ⟨i0, hi, hz0, hz1, hz2⟩ := info_parts info_int
  have HO := hidden (isCur_old _ _ _ _ h)
  have HS := hidden (next_cur p E F w h)
  clear h
  go_enter Try.func9, Try.ntmps9
  obtain ⟨a, ok, hans⟩ := ansL_two (L := E)
  have HA := hidden hans
  rw [hans] at HS
  clear hans
  go_wp2_with fail
  refine HS.out.mono ?_
  rintro e w1 ⟨rfl, hc, hk⟩
  have HC := hidden hc
  have HK := hidden hk
  clear hc hk HS
  go_wp2_with fail
  go_loopw [3, 4, 5] (fun vo vx vk wr => ∃ (D R : List Int) (v : Value) (x : Int) (ok : Bool), v = vo ∧ vx = .int .i64 x ∧ vk = .bool ok ∧ Hid (E = D ++ R) ∧ Hid (ansL R = .returned (.tuple #[.int .i64 x, .bool ok])) ∧ wr.ownsRow w.heap.size 3 1 v D.length (D.map (Value.int .i64)) ∧ IsCur wr p R.tail F ∧ Kp F w wr ∧ E.length - D.length = R.length ∧ D.length ≤ E.length) (fun vo _ _ _ => E.length - lenV vo)
  case atStart => exact ⟨[], E, _, a, ok, rfl, rfl, rfl, rfl, HA, World.ownsRow_nil _ _ _ _, HC.out, HK.out, by simp, by simp⟩
  case round =>
    clear HA HC HK
    obtain ⟨D, R, v, x, ok, rfl, rfl, rfl, hE, hA, hown, hc, hk, hlen, hle⟩ := hrel
    cases R with
    | nil =>
      simp only [ansL, Ending.returned.injEq, Value.tuple.injEq, Array.mk.injEq, List.cons.injEq, Value.int.injEq, Value.bool.injEq, true_and, and_true] at hA
      obtain ⟨rfl, rfl⟩ := hA.out
      have HE := hidden (show E = D by rw [hE.out]; simp)
      have HC := hidden hc
      have HK := hidden hk
      have HW := hidden hown
      clear hE hA hc hk hown
      go_wp2_with fail
      go_ret
      rw [HE.out]
      exact ⟨_, rfl, HW.out, HC.out, HK.out⟩
    | cons y r =>
      have hya : Value.int .i64 y = .int .i64 x ∧ Value.bool true = .bool ok := by
        have := hA.out
        simp only [ansL, Ending.returned.injEq, Value.tuple.injEq, Array.mk.injEq, List.cons.injEq, and_true] at this
        exact this
      simp only [Value.int.injEq, Value.bool.injEq, true_and] at hya
      obtain ⟨rfl, rfl⟩ := hya
      have hbs := hk.size
      have HKP := hidden hk
      have HC := hidden hc
      have hlE : D.length + 1 ≤ E.length := by simp at hlen; omega
      have hE2 := hidden (show E = (D ++ [y]) ++ r by rw [hE.out]; simp)
      obtain ⟨A4, c4, rfl, _, _⟩ := own_shape hown
      clear hA hE hk hc
      have hfr := Row.fresh wr 3 1 1 [.int .i64 y] rfl
      go_wp2_with (at_builtin; refine wpList_app _ rfl _ _ 22 rfl w.heap.size 3 i0 _ 1 8 Try.underlying22 hi hz0 hz1 hz2 rfl (by decide) _ _ _ rfl (hown.alloc _) _ _ _ _ _ rfl hfr (by simp [Value.oneCell']) (by unfold maxLen; omega) (by omega) (by simp; omega) ?_; intro v1 w3 hown3 hg3 hat3)
      have hcs : D.map (Value.int .i64) ++ [.int .i64 y] = (D ++ [y]).map (Value.int .i64) := by simp
      rw [hcs] at hown3
      have hk3 : Kp F w w3 := kp_grown (HKP.out.alloc _) hg3 (fun g hg => (hown.lt g hg).1)
      have hc3 : IsCur w3 p r F := isCur_frame _ _ _ _ _ HC.out (by have := hg3.size; simp at this; omega) fun k hk' => by
        have h1 := HO.out k hk'
        exact (hg3.block k (by simp; omega) fun e => by have := (hown.lt k e.symm).1; omega).trans (Below.heap_alloc wr _ k (by omega))
      obtain ⟨A5, c5, rfl, _, _⟩ := own_shape hown3
      have S2 := next_cur p r F w3 hc3
      obtain ⟨a2, ok2, hans2⟩ := ansL_two (L := r)
      have HA2 := hidden hans2
      rw [hans2] at S2
      have HS2 := hidden S2
      have HW3 := hidden hown3
      have HK3 := hidden hk3
      clear S2 hans2 hown hown3 hg3 hat3 hcs hfr hk3 hc3
      go_wp2_with fail
      refine HS2.out.mono ?_
      rintro e w4 ⟨rfl, hc4, hk4⟩
      have hown4 := own_kp HW3.out hk4 HO.out
      have HK4 := hidden (HK3.out.trans hk4)
      have HC4 := hidden hc4
      have HW4 := hidden hown4
      clear hc4 hk4 hown4 HS2
      go_wp2_with fail
      go_roundw
      case rel => exact ⟨D ++ [y], r, _, a2, ok2, rfl, rfl, rfl, hE2, HA2, by rw [List.length_append]; exact HW4.out, HC4.out, HK4.out, by simp at hlen ⊢; omega, by simp; omega⟩
      case measure => simp only [lenV]; omega
end Go.Proofs.Ytnedgjdhpdejdaa
