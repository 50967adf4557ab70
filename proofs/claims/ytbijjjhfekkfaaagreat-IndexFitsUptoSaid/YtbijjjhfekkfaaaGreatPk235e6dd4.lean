/- The law's helper wakes (chapter 14): an index at one input. No condition. -/
import Derived.Test.YtbijjjhfekkfaaaGreatPke62206b2
import Derived.Test.YtbijjjhfekkfaaaGreatPka70a28ec
namespace Go.Proofs.YtbijjjhfekkfaaaGreat
set_option maxRecDepth 100000
open Go.RowKit Go.Shelf

/-- one label a=b -/
def oneL (b : UInt8) : List Lbl := [⟨⟨#[97]⟩, ⟨#[b]⟩⟩]
theorem lbT_alloc (w : World) (b : UInt8) : LbT (w.alloc (.cells #[.string ⟨#[97]⟩, .string ⟨#[b]⟩] 114)) (some ⟨w.heap.size, 0, none⟩) 1 (oneL b) :=
  ⟨⟨(Row.fresh w 114 2 1 [.string ⟨#[97]⟩, .string ⟨#[b]⟩] rfl).more (by simp), rfl, by decide, fun x hx => by simp only [oneL, List.mem_singleton] at hx; subst hx; exact ⟨show 1 ≤ 140737488355328 from by decide, show 1 ≤ 140737488355328 from by decide⟩⟩,
    fun _ g o e => by cases e; exact ⟨_, Whole1.new w _ _⟩⟩
theorem ints_eq (A B : Option Addr) (n c1 c2 : Nat) (l : List Int) (w : World) (h1 : IntF w A n l) (h2 : IntF w B n l) :
    Calls Tryz.prog 83 #[.slice A n c1, .slice B n c2] w fun e w' => e = .returned (.bool true) ∧ Below w.heap.size w w' := by
  have H1 := hidden h1
  have H2 := hidden h2
  have hfit := h1.fit
  have hnn : ((n : Int) != (n : Int)) = false := by simp
  clear h1 h2
  go_enter Tryz.func83, Tryz.ntmps83
  go_wp2_with fail
  go_loopw [13] (fun i wr => ∃ q : Nat, q ≤ n ∧ i = .int .i64 q ∧ (∃ m, wr = w.drewN m)) (fun i _ => n - (intOf i).toNat)
  case atStart => exact ⟨0, Nat.zero_le _, rfl, 0, rfl⟩
  case round =>
    obtain ⟨q, hq1, rfl, m, rfl⟩ := hrel
    by_cases hlt : q < n
    · obtain ⟨gs, o, rfl, _, hc⟩ := ints_at H1.out.row (by omega)
      obtain ⟨gt, p, rfl, _, hd⟩ := ints_at H2.out.row (by omega)
      have c0 : w.cell? ⟨gs, o + q, none⟩ = some (.int .i64 (l.getD q 0)) := hc q (by have := H1.out.len; omega)
      have d0 : w.cell? ⟨gt, p + q, none⟩ = some (.int .i64 (l.getD q 0)) := hd q (by have := H1.out.len; omega)
      have q1 : (q : Int) < (n : Int) := by omega
      have q0 : (0 : Int) ≤ (q : Int) := by omega
      clear hc hd
      generalize l.getD q 0 = x at c0 d0
      have hxx : (x != x) = false := by simp
      go_wp2_with fail
      go_quiet (fail)
      go_wp2_with fail
      go_roundw
      case rel => exact ⟨q + 1, by omega, by go_num, m + nq, rfl⟩
      case measure => simp [intOf]; omega
    · have q1 : ¬ (q : Int) < (n : Int) := by omega
      go_wp2_with fail
      go_ret
      exact ⟨rfl, below_drewN (Below.refl _ _) m⟩
theorem valid_x : validP (oneL 120) := ⟨by decide +kernel, List.pairwise_singleton _ _⟩
theorem valid_y : validP (oneL 121) := ⟨by decide +kernel, List.pairwise_singleton _ _⟩
theorem add_first : addE [] (oneL 120) = ((0, true, 0), [oneL 120]) := by
  unfold addE
  rw [if_neg (by rw [enc_fit.2 valid_x]; simp)]
  rfl
theorem add_next : addE [oneL 120] (oneL 121) = ((1, true, 0), [oneL 120, oneL 121]) := by
  unfold addE
  rw [if_neg (by rw [enc_fit.2 valid_y]; simp)]
  have : atE [oneL 120] (oneL 121) = none := atE_none.2 (by simp [oneL])
  rw [this]
  rfl
set_option maxHeartbeats 1600000 in
theorem wakes14_any (w : World) : Calls Tryz.prog 25 #[] w fun e w' => e = .returned (.bool true) ∧ Below w.heap.size w w' := by
  have S0 := hidden (idx_new w (Nat.le_refl w.heap.size))
  go_enter Tryz.func25, Tryz.ntmps25
  go_wp2_with fail
  refine S0.out.mono ?_
  rintro e w1 ⟨p, rfl, hi1, b1⟩
  have HI := hidden hi1
  have B1 := hidden b1
  clear S0 hi1 b1
  go_wp2_with fail
  have hb1 : Below w1.heap.size w1 (w1.alloc (.cells #[.string ⟨#[97]⟩, .string ⟨#[120]⟩] 114)) := (Below.refl _ _).alloc (Nat.le_refl _) _
  refine (idx_add _ 1 1 (oneL 120) _ (HI.out.below hb1) (lbT_alloc w1 120) (Nat.le_refl _) (by have := B1.out.size; simp; omega) (by simp)).mono ?_
  rintro e w2 ⟨rfl, hi2, t2⟩
  rw [add_first] at hi2 ⊢
  have HI2 := hidden hi2
  have B2 := hidden (B1.out.trans (hb1.mono B1.out.size) |>.trans (t2.below (Nat.le_refl _) (by have := B1.out.size; simp; omega)))
  clear HI B1 hb1 hi2 t2
  go_wp2_with fail
  have hb2 : Below w2.heap.size w2 (w2.alloc (.cells #[.string ⟨#[97]⟩, .string ⟨#[121]⟩] 114)) := (Below.refl _ _).alloc (Nat.le_refl _) _
  refine (idx_add _ 1 1 (oneL 121) _ (HI2.out.below hb2) (lbT_alloc w2 121) (Nat.le_refl _) (by have := B2.out.size; simp; omega) (by simp)).mono ?_
  rintro e w3 ⟨rfl, hi3, t3⟩
  rw [add_next] at hi3 ⊢
  have HI3 := hidden hi3
  have B3 := hidden (B2.out.trans (hb2.mono B2.out.size) |>.trans (t3.below (Nat.le_refl _) (by have := B2.out.size; simp; omega)))
  clear HI2 B2 hb2 hi3 t3
  have SL := hidden (fun w' hw => idx_len w' (HI3.out.below hw))
  have SS := hidden (fun w' hw => idx_sel0 w' (HI3.out.below hw) (by simp))
  go_wp2_with fail
  refine (SL.out w3 (Below.refl _ _)).mono ?_
  rintro e w4 ⟨rfl, rfl⟩
  have S4 := hidden (SS.out w4 (Below.refl _ _))
  clear SL SS
  go_wp2_with fail
  refine S4.out.mono ?_
  rintro e w5 ⟨A5, c5, rfl, hf5, b5⟩
  have hb6 : Below w5.heap.size w5 (w5.alloc (.cells #[.int .i64 0, .int .i64 1] 3)) := (Below.refl _ _).alloc (Nat.le_refl _) _
  have S6 := hidden (ints_eq A5 (some ⟨w5.heap.size, 0, none⟩) 2 c5 2 [0, 1] _ (hf5.on hb6) ⟨(Row.fresh w5 3 1 2 [.int .i64 0, .int .i64 1] rfl).more (by simp), rfl, by decide, by simp [inI]⟩)
  have B6 := hidden (B3.out.trans (b5.mono B3.out.size) |>.trans (hb6.mono (by have := B3.out.size; have := b5.size; omega)))
  clear S4 hf5 b5 hb6 B3
  go_wp2_with fail
  refine S6.out.mono ?_
  rintro e w7 ⟨rfl, b7⟩
  have B7 := hidden (B6.out.trans (b7.mono B6.out.size))
  clear S6 b7
  go_wp2_with fail
  go_ret
  exact ⟨rfl, B7.out⟩
end Go.Proofs.YtbijjjhfekkfaaaGreat
