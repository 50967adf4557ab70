/- (*post.list).seek, walked. -/
import Derived.Test.YtnedgjdhpdejdaaPeek
import Derived.Test.YtnedgjdhpdejdaaIntLib
namespace Go.Proofs.Ytnedgjdhpdejdaa
set_option maxRecDepth 100000
open Go.RowKit Go.Shelf

theorem drop_count : ∀ {E : List Int} (_ : rising E) (n : Int), E.drop (E.countP (fun x => decide (x < n))) = geL n E
  | [], _, _ => rfl
  | e :: E, h, n => by
    obtain ⟨h1, h2⟩ := List.pairwise_cons.1 h
    by_cases he : e < n
    · rw [List.countP_cons_of_pos (by simpa using he), List.drop_succ_cons, drop_count h2 n]
      have hen : ¬ n ≤ e := by omega
      simp [geL, hen]
    · have hz : (e :: E).countP (fun x => decide (x < n)) = 0 := by
        rw [List.countP_eq_zero]
        intro x hx
        rcases List.mem_cons.1 hx with rfl | hx
        · simpa using he
        · have := h1 x hx; simp; omega
      rw [hz, List.drop_zero]
      exact (geL_all fun x hx => by
        rcases List.mem_cons.1 hx with rfl | hx
        · omega
        · have := h1 x hx; omega).symm
theorem ints_at {w : World} {B n : Nat} {A : Option Addr} {E : List Int} (h : Row w B 1 A n (E.map (Value.int .i64))) (hn : 0 < n) : ∃ g o, A = some ⟨g, o, none⟩ ∧ g < B ∧ ∀ j, j < E.length → w.cell? ⟨g, o + j, none⟩ = some (.int .i64 (E.getD j 0)) := by
  obtain ⟨g, o, rfl, hg, hc⟩ := h.at_ hn
  have hl := h.len
  rw [List.length_map] at hl
  refine ⟨g, o, rfl, hg, fun j hj => ?_⟩
  rw [hc j (by omega), List.getElem?_map, List.getElem?_eq_getElem hj]
  simp [List.getD, List.getElem?_eq_getElem hj]

set_option maxHeartbeats 1600000 in
theorem list_seek : SeekOk IsList := by
  rintro w v E F n ⟨lb, A, m, c, rfl, h1, h2, h3, h4, h5, h6, h7, h8, h9⟩ hn
  refine ⟨_, _, 71, .pointer (some ⟨lb, 0, none⟩), rfl, fun w => by kernel_rfl, enters_of Try.func71 (by kernel_rfl) rfl, ?_⟩
  have hl := h2.len
  rw [List.length_map, Nat.mul_one] at hl
  have c0 := h1.cell 0
  rcases Nat.eq_zero_or_pos m with h0 | h0
  · subst h0
    obtain rfl : E = [] := List.eq_nil_of_length_eq_zero hl
    have S1 := slices_BinarySearch_int_empty A c n w
    go_enter Try.func71, Try.ntmps71
    go_wp2_with fail
    refine S1.mono ?_
    rintro e w1 ⟨rfl, rfl⟩
    have f0 := h1.free 0
    go_wp2_with fail
    go_ret2
    exact ⟨rfl, ⟨lb, A, 0, c, rfl, h1.put 0 _, Row.nil, Nat.zero_le _, by omega, fun h => absurd h (by omega), ⟨h6.1, fun k h => absurd h (by omega)⟩, h7, h8, fun k hb => by simpa using h9 k hb⟩, (Kp.refl F w1).put h6.1 0 _⟩
  · obtain ⟨g, o, rfl, hg, hc⟩ := ints_at h2 h0
    have S1 := slices_BinarySearch_int g o m c E n w (by omega) (by omega) hc (by rw [List.take_of_length_le (by omega)]; exact h7.imp fun h => by omega)
    rw [List.take_of_length_le (by omega)] at S1
    have HC := hidden hc
    have HN := hidden (drop_count h7 n)
    have hcl := List.countP_le_length (p := fun x => decide (x < n)) (l := E)
    obtain ⟨i, hi⟩ : ∃ i, E.countP (fun x => decide (x < n)) = i := ⟨_, rfl⟩
    rw [hi] at S1 HN hcl
    clear hc hi
    go_enter Try.func71, Try.ntmps71
    go_wp2_with fail
    refine S1.mono ?_
    rintro e w1 ⟨rfl, q, rfl⟩
    have f0 := h1.free 0
    have HK : ∀ u, Kp F w ((w.drewN q).setCell ⟨lb, 0, none⟩ u) := fun u => ((Kp.refl F w).drewN q).put h6.1 0 u
    have HW : ∀ u, Whole1 ((w.drewN q).setCell ⟨lb, 0, none⟩ u) lb 49 #[u] := fun u => (h1.drewN q).put 0 u
    have HG := hidden (fun (u : Value) (k : Nat) (hb : F k) => show k < ((w.drewN q).setCell ⟨lb, 0, none⟩ u).heap.size from by simpa using h9 k hb)
    have hlg : lb ≠ g := fun e => h5 h0 ⟨o, by rw [e]⟩
    have i0 : (0 : Int) ≤ (i : Int) := by omega
    have i1 : (i : Int) ≤ (m : Int) := by omega
    have hr : rising (geL n E) := rising_geL h7 n
    have hrI : ∀ x ∈ geL n E, inI x := fun x hx => h8 x (mem_geL.1 hx).1
    by_cases him : i = m
    · have hE0 : geL n E = [] := by rw [← HN.out]; exact List.drop_of_length_le (by omega)
      have HE := hidden hE0
      subst him
      have HFL := hidden h6.1
      have HK2 := hidden HK
      have HW2 := hidden HW
      clear HK HW h6 h5 hr hrI hE0
      by_cases hcm : c = i
      · subst hcm
        go_wp2_with fail
        go_ret2
        rw [HE.out]
        exact ⟨rfl, ⟨lb, some ⟨g, o, none⟩, 0, 0, rfl, by simpa using HW2.out _, Row.nil, Nat.zero_le _, by omega, fun h => absurd h (by omega), ⟨HFL.out, fun k h => absurd h (by omega)⟩, List.Pairwise.nil, by simp, HG.out _⟩, HK2.out _⟩
      · have hci : ¬ c - i = 0 := by omega
        go_wp2_with fail
        go_ret2
        rw [HE.out]
        exact ⟨rfl, ⟨lb, some ⟨g, o + i, none⟩, 0, c - i, rfl, by simpa using HW2.out _, Row.nil, Nat.zero_le _, by omega, fun h => absurd h (by omega), ⟨HFL.out, fun k h => absurd h (by omega)⟩, List.Pairwise.nil, by simp, HG.out _⟩, by simpa using HK2.out _⟩
    · have hci : ¬ c - i = 0 := by omega
      have hil : i < E.length := by omega
      have ci : (w.drewN q).cell? ⟨g, o + i, none⟩ = some (.int .i64 (E.getD i 0)) := HC.out i hil
      have hcut := h2.cut (i := i) (k := m) (by omega) (Nat.le_refl _)
      have HCut := hidden hcut
      have HK2 := hidden HK
      have HW2 := hidden HW
      have hF2 : F lb ∧ ∀ k, 0 < m - i → blockOf (some ⟨g, o + i, none⟩) k → F k := ⟨h6.1, fun k _ ⟨o3, e⟩ => by
        simp only [Option.some.injEq, Addr.mk.injEq] at e
        exact h6.2 k h0 ⟨o, by rw [e.1]⟩⟩
      have hb2 : ¬ blockOf (some ⟨g, o + i, none⟩) lb := fun ⟨o3, e⟩ => by
        simp only [Option.some.injEq, Addr.mk.injEq] at e; exact hlg e.1.symm
      have HF2 := hidden hF2
      have HB2 := hidden hb2
      have HRr := hidden hr
      have HRI := hidden hrI
      have hx : Hid (geL n E = E.getD i 0 :: (geL n E).tail) := by
        have : E.drop i = E.getD i 0 :: E.drop (i + 1) := by rw [List.drop_eq_getElem_cons hil]; simp [List.getD, List.getElem?_eq_getElem hil]
        rw [Hid, ← HN.out, this]; rfl
      have hmi : ¬ m - i = 0 := by omega
      have hmi2 : 0 < m - i := by omega
      generalize E.getD i 0 = x at ci hx
      clear HK HW hF2 hb2 h6 h5 hr hrI hcut
      go_wp2_with fail
      go_ret2
      have hk := HK2.out (.slice (some ⟨g, o + i, none⟩) (m - i) (c - i))
      refine ⟨(congrArg ansL hx.out).symm, ⟨lb, some ⟨g, o + i, none⟩, m - i, c - i, rfl, HW2.out _, ?_, by omega, by omega, fun _ => HB2.out, HF2.out, HRr.out, HRI.out, HG.out _⟩, hk⟩
      have e1 : (geL n E).map (Value.int .i64) = ((E.map (Value.int .i64)).drop (i * 1)).take ((m - i) * 1) := by
        rw [← HN.out, Nat.mul_one, Nat.mul_one, ← List.map_drop, List.take_of_length_le (by rw [List.length_map, List.length_drop]; omega)]
      rw [e1]
      have h9 := HCut.out
      rw [show (some (⟨g, o, none⟩ : Addr)).map (fun a => (⟨a.block, a.off + i * 1, a.spot⟩ : Addr)) = some ⟨g, o + i, none⟩ by simp] at h9
      exact h9.keep1 hk.size fun _ g2 o2 e => by
        simp only [Option.some.injEq, Addr.mk.injEq] at e
        obtain ⟨rfl, _⟩ := e
        exact Below.heap_setCell (w.drewN q) ⟨lb, 0, none⟩ _ g (fun e => hlg e.symm)
end Go.Proofs.Ytnedgjdhpdejdaa
