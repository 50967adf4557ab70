/- The law's own helper wakes returns true in every world. No condition. -/
import Derived.Test.YtfcpphfiickpoaaFoldFold
namespace Go.Proofs.Ytfcpphfiickpoaa
open Go.RowKit

theorem Folded.inv {l : List (Nat × Nat × Nat)} {x : Nat × Nat × Nat} {f' : Fd} (h : Folded (l ++ [x]) f') : ∃ f r, Folded l f ∧ SumTo f x.1 r ∧ f' = f.added r x.2.1 x.2.2 := by
  generalize hL : l ++ [x] = L at h
  cases h with
  | nil => simp at hL
  | @snoc l' f s r a b h1 h2 =>
    obtain ⟨rfl, hx⟩ := List.append_inj' hL rfl
    simp only [List.cons.injEq, and_true] at hx
    subst hx
    exact ⟨f, r, h1, h2, rfl⟩

theorem Folded.inv_nil {f : Fd} (h : Folded [] f) : f = Fd.zero := by
  generalize hL : ([] : List (Nat × Nat × Nat)) = L at h
  cases h with
  | nil => rfl
  | snoc h1 h2 => simp at hL

theorem wake_add1 : Ieee.double.add 4607182418800017408 4612811918334230528 = some 4615063718147915776 := by kernel_rfl
theorem wake_add2 : Ieee.double.add 4615063718147915776 9223372036854775808 = some 4615063718147915776 := by kernel_rfl

theorem FAdd.known {x y r r' : Nat} (h : FAdd x y r) (he : Ieee.double.add x y = some r') : r = r' := by
  rcases h with h | ⟨h, _⟩
  · rw [h] at he; injection he
  · rw [h] at he; cases he

theorem wake_low1 : takesLow Fd.zero 4607182418800017408 = true := by kernel_rfl
theorem wake_high1 : takesHigh Fd.zero 4607182418800017408 = true := by kernel_rfl

theorem wake_win : (((Fd.zero.added 4607182418800017408 4607182418800017408 4607182418800017408).added 4615063718147915776 4612811918334230528 4612811918334230528).added 4615063718147915776 9223372036854775808 9223372036854775808).window 7 3 9223372036854775808 = ⟨7, 3, 4615063718147915776, 9223372036854775808, 4612811918334230528, 9223372036854775808⟩ := by kernel_rfl

theorem wake_fold {f : Fd} (h : Folded [(4607182418800017408, 4607182418800017408, 4607182418800017408), (4612811918334230528, 4612811918334230528, 4612811918334230528), (9223372036854775808, 9223372036854775808, 9223372036854775808)] f) :
    f.window 7 3 9223372036854775808 = ⟨7, 3, 4615063718147915776, 9223372036854775808, 4612811918334230528, 9223372036854775808⟩ := by
  obtain ⟨f2, r2, h2, s2, rfl⟩ := Folded.inv (l := [(4607182418800017408, 4607182418800017408, 4607182418800017408), (4612811918334230528, 4612811918334230528, 4612811918334230528)]) h
  obtain ⟨f1, r1, h1, s1, rfl⟩ := Folded.inv (l := [(4607182418800017408, 4607182418800017408, 4607182418800017408)]) h2
  obtain ⟨f0, r0, h0, s0, rfl⟩ := Folded.inv (l := []) h1
  have := h0.inv_nil
  subst this
  have e0 : r0 = 4607182418800017408 := by
    rcases s0 with ⟨_, h⟩ | ⟨h, _⟩
    · exact h
    · exact absurd rfl h
  subst e0
  have e1 : r1 = 4615063718147915776 := by
    rcases s1 with ⟨h, _⟩ | ⟨_, h⟩
    · exact absurd h (by decide)
    · exact h.known wake_add1
  subst e1
  have e2 : r2 = 4615063718147915776 := by
    rcases s2 with ⟨h, _⟩ | ⟨_, h⟩
    · exact absurd h (by decide)
    · exact h.known wake_add2
  subst e2
  exact wake_win

theorem wake_start : beginOf 701 300 = (600, 0) := by decide

set_option maxHeartbeats 1600000 in
theorem wakes_any (w : World) : Calls Try.prog 13 #[] w fun e w' => e = .returned (.bool true) ∧ Below w.heap.size w w' := by
  go_enter Try.func13, Try.ntmps13
  go_wp2_with (go_at_call 11; refine (start_any _ _ _).mono ?_; rw [wake_start]; rintro e w' ⟨rfl, rfl⟩)
  have hr : Row (w.alloc (.cells (smpCells [⟨0, 4607182418800017408⟩, ⟨0, 4612811918334230528⟩, ⟨0, 9223372036854775808⟩]).toArray 44)) (w.heap.size + 1) 2 (some ⟨w.heap.size, 0, none⟩) 3 (smpCells [⟨0, 4607182418800017408⟩, ⟨0, 4612811918334230528⟩, ⟨0, 9223372036854775808⟩]) :=
    ⟨rfl, fun _ => ⟨w.heap.size, 0, rfl, by omega, fun j _ => by rw [(Whole1.new w _ _).cell, Nat.zero_add]; simp⟩⟩
  refine (fold_any 7 _ 3 3 [⟨0, 4607182418800017408⟩, ⟨0, 4612811918334230528⟩, ⟨0, 9223372036854775808⟩] _ (by rw [World.size_alloc]; exact hr) rfl (by omega) ?_).mono ?_
  · intro s hs
    simp only [List.mem_cons, List.not_mem_nil, or_false] at hs
    rcases hs with rfl | rfl | rfl <;> (show _ < _; decide)
  rintro e w1 ⟨f, hf, rfl, hb⟩
  have hW : (f.window 7 (3 : Nat) (lastV [⟨0, 4607182418800017408⟩, ⟨0, 4612811918334230528⟩, ⟨0, 9223372036854775808⟩])).cells.toArray = #[.int .i64 7, .int .i64 3, .int .u64 4615063718147915776, .int .u64 9223372036854775808, .int .u64 4612811918334230528, .int .u64 9223372036854775808] := by
    rw [show lastV [⟨0, 4607182418800017408⟩, ⟨0, 4612811918334230528⟩, ⟨0, 9223372036854775808⟩] = 9223372036854775808 from rfl]
    rw [show ((3 : Nat) : Int) = 3 from rfl, wake_fold hf]; rfl
  rw [hW]
  clear hW hr
  go_wp2
  go_ret
  have hs := hb.size
  rw [World.size_alloc] at hs
  exact ⟨rfl, (((Below.refl _ _).alloc (Nat.le_refl _) _).trans (hb.mono (by simp))).alloc (by omega) _⟩

end Go.Proofs.Ytfcpphfiickpoaa
