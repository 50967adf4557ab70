/- index: all, and Select of no matchers. Condition: the index is one. -/
import Derived.Test.YtbijjjhfekkfaaaGreatPkcf0ce608
import Derived.Test.YtbijjjhfekkfaaaGreatPk3befbafb
namespace Go.Proofs.YtbijjjhfekkfaaaGreat
set_option maxRecDepth 100000
open Go.RowKit Go.Shelf

/-- the numbers below n -/
def upL (n : Nat) : List Int := (List.range n).map fun (i : Nat) => (i : Int)
theorem upL_len (n : Nat) : (upL n).length = n := by simp [upL]
theorem upL_snoc (n : Nat) : upL (n + 1) = upL n ++ [(n : Int)] := by simp [upL, List.range_succ]
theorem mem_upL {n : Nat} {x : Int} : x ∈ upL n ↔ 0 ≤ x ∧ x < (n : Int) := by
  simp only [upL, List.mem_map, List.mem_range]
  exact ⟨fun ⟨i, h1, h2⟩ => by omega, fun ⟨h1, h2⟩ => ⟨x.toNat, by omega, by omega⟩⟩
theorem upL_rising (n : Nat) : rising (upL n) := by
  induction n with
  | zero => exact List.Pairwise.nil
  | succ n ih =>
    rw [upL_snoc]
    refine List.pairwise_append.2 ⟨ih, by simp, fun a ha b hb => ?_⟩
    simp at hb
    rw [hb]
    exact (mem_upL.1 ha).2
theorem upL_int {n : Nat} (h : n ≤ 1048576) : ∀ x ∈ upL n, inI x := fun x hx => by
  have := mem_upL.1 hx
  unfold inI
  omega
theorem intF_own {w : World} {B n : Nat} {l : List Int} {v : Value} (h : w.ownsRow B 3 1 v n (l.map (Value.int .i64))) (hl : l.length = n) (hf : n * 8 ≤ 140737488351232) (hi : ∀ x ∈ l, inI x) : ∃ A c, v = .slice A n c ∧ IntF w A n l := by
  obtain ⟨A, c, rfl, _, hr⟩ := own_shape h
  exact ⟨A, c, rfl, hr, hl, hf, hi⟩
set_option maxHeartbeats 1600000 in
theorem idx_all (w : World) {base p : Nat} {E : List (List Lbl)} (h : Idx w base p E) (hE : E.length ≤ 1048576) :
    Calls Tryz.prog 85 #[.pointer (some ⟨p, 0, none⟩)] w (FCR w fun S => S = upL E.length) := by
  obtain ⟨i0, hi, hz0, hz1, hz2⟩ := info_parts info_int
  obtain ⟨sv, L, bn, bl, mn, ml, oM, oI, h, rfl⟩ := h
  obtain ⟨A, c, rfl, _, _⟩ := own_shape h.b.sets
  have c0 := h.b.blk.cell 0
  rw [List.length_map] at hE ⊢
  generalize L.length = N at *
  clear h
  go_enter Tryz.func85, Tryz.ntmps85
  go_wp2_with fail
  go_loopw [3, 10] (fun v vi wr => ∃ k : Nat, k ≤ N ∧ vi = .int .i64 (k : Int) ∧ wr.ownsRow w.heap.size 3 1 v k ((upL k).map (Value.int .i64)) ∧ Below w.heap.size w wr) (fun _ vi _ => N - (intOf vi).toNat)
  case atStart => exact ⟨0, Nat.zero_le _, rfl, World.ownsRow_nil _ _ _ _, Below.refl _ _⟩
  case round =>
    obtain ⟨k, hk, rfl, hown, hb⟩ := hrel
    by_cases hlt : k < N
    · have k1 : (k : Int) < (N : Int) := by omega
      have fwk : IntKind.i64.wrap ((k : Int) + 1) = (k : Int) + 1 := Go.IntWalk.i64_in _ (by omega)
      have hfr := Row.fresh wr 3 1 1 [.int .i64 (k : Int)] rfl
      have hbs := hb.size
      have HLT := hidden (show k + 1 ≤ N from hlt)
      go_wp2_with (at_builtin; refine wpList_app _ rfl _ _ 67 rfl w.heap.size 3 i0 _ 1 8 Tryz.underlying67 hi hz0 hz1 hz2 rfl (by decide) _ _ _ rfl (hown.alloc _) _ _ _ _ _ rfl hfr (by simp [Value.oneCell']) (by unfold maxLen; omega) (by omega) (by simp; omega) ?_; intro v1 w1 hown1 hg1 hat1)
      go_roundw
      case rel =>
        refine ⟨k + 1, HLT.out, by go_num, ?_, ?_⟩
        · rw [upL_snoc, List.map_append]; exact hown1
        · exact (hb.alloc hbs _).grown hg1 (by simp; omega) (fun j hj => (hown.lt j hj).1)
      case measure => have := HLT.out; simp [intOf]; omega
    · obtain rfl : N = k := by omega
      obtain ⟨A1, c1, rfl, hf⟩ := intF_own hown (upL_len _) (by omega) (upL_int hE)
      have S1 := hidden (ofF A1 N c1 (upL N) wr hf)
      have HB := hidden hb
      clear hf hb hown
      go_wp2_with fail
      refine S1.out.mono ?_
      rintro e w2 ⟨a, S, F, rfl, ⟨h1, h2, h3⟩, h4, h5⟩
      have HF := hidden (show FCR w (fun S => S = upL N) (.returned (.pointer a)) w2 from ⟨a, S, F, rfl, ⟨h1, fun k hk => by have := h2 k hk; have := HB.out.size; omega, HB.out.trans (h3.mono HB.out.size)⟩, rising_ext ((isCur_rise _ _ _ _ h1).1) (upL_rising N) h4⟩)
      clear h1 h2 h3 h4 h5 S1
      go_wp2_with fail
      go_ret
      exact HF.out
end Go.Proofs.YtbijjjhfekkfaaaGreat
