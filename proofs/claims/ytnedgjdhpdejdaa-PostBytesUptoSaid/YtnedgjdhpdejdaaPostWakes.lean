/- almanaclaw13.wakes: it holds. -/
import Derived.Test.YtnedgjdhpdejdaaCurMak2
namespace Go.Proofs.Ytnedgjdhpdejdaa
set_option maxRecDepth 100000
open Go.RowKit Go.Shelf

theorem isCur_ptr {w : World} {p : Value} {E : List Int} {F : Nat → Prop} (h : IsCur w p E F) : ∃ a, p = .pointer a := by
  obtain ⟨d, ⟨rfl, _⟩ | ⟨b, v, fr, dn, E0, F0, rfl, _⟩⟩ := h
  · exact ⟨_, rfl⟩
  · exact ⟨_, rfl⟩
theorem isCur_on {w w' : World} {p : Value} {E : List Int} {F : Nat → Prop} (h : IsCur w p E F) (hb : Below w.heap.size w w') : IsCur w' p E F :=
  isCur_frame _ _ _ _ _ h hb.size fun k hk => hb.block k (isCur_old _ _ _ _ h k hk)
theorem isCur_kp {w w' : World} {p : Value} {E : List Int} {F G : Nat → Prop} (h : IsCur w p E F) (hk : Kp G w w') (hd : ∀ k, ¬ (F k ∧ G k)) : IsCur w' p E F :=
  isCur_frame _ _ _ _ _ h hk.size fun k hF => hk.block k (isCur_old _ _ _ _ h k hF) fun hG => hd k ⟨hF, hG⟩
/-- a call returned a new cursor over this very list -/
theorem of_lit (l : List Int) (c : Nat) (w : World) (hl : l.length * 8 ≤ 140737488351232) (hI : ∀ x ∈ l, inI x) (hr : rising l) :
    Calls Try.prog 7 #[.slice (some ⟨w.heap.size, 0, none⟩) l.length c] (w.alloc (.cells (l.map (Value.int .i64)).toArray 3)) (NewCur w (fun _ => False) (· = l)) := by
  have hb : Below w.heap.size w (w.alloc (.cells (l.map (Value.int .i64)).toArray 3)) := (Below.refl _ _).alloc (Nat.le_refl _) _
  have hf := Row.fresh w 3 1 l.length (l.map (Value.int .i64)) (by simp)
  refine (of_any _ l.length c l _ (hf.more (by simp)) hl hI).mono ?_
  rintro e w' ⟨p, E, F, rfl, h1, ⟨h2, _⟩, h3, h4⟩
  refine ⟨p, E, F, rfl, h1, rising_ext (isCur_rise _ _ _ _ h1).1 hr h2, fun k hk => (h3 k hk).imp (fun h => by simp at h; omega) id, hb.trans (h4.mono (by simp))⟩

set_option maxHeartbeats 1600000 in
theorem postWakes_any (w : World) : Calls Try.prog 5 #[] w fun e w' => e = .returned (.bool true) ∧ Below w.heap.size w w' := by
  have O1 := hidden (of_lit [1, 3, 5, 7] 4 w (by decide) (by unfold inI; decide) (by unfold rising; decide))
  have O2 := hidden (fun w => of_lit [3, 4, 7] 3 w (by decide) (by unfold inI; decide) (by unfold rising; decide))
  go_enter Try.func5, Try.ntmps5
  go_wp2_with fail
  refine O1.out.mono ?_
  rintro e w1 ⟨p1, E1, F1, rfl, h1, rfl, hf1, hb1⟩
  obtain ⟨a1, rfl⟩ := isCur_ptr h1
  have H1 := hidden h1
  have HF1 := hidden hf1
  have HB1 := hidden hb1
  clear h1 hf1 hb1 O1
  go_wp2_with fail
  refine (O2.out w1).mono ?_
  rintro e w2 ⟨p2, E2, F2, rfl, h2, rfl, hf2, hb2⟩
  obtain ⟨a2, rfl⟩ := isCur_ptr h2
  have H1b := isCur_on H1.out hb2
  have hb3 : Below w2.heap.size w2 (w2.alloc (.cells #[.pointer a1, .pointer a2] 24)) := (Below.refl _ _).alloc (Nat.le_refl _) _
  have hap : ∀ k, ¬ (F1 k ∧ F2 k) := fun k ⟨a, b⟩ => by
    have := isCur_old _ _ _ _ H1.out k a
    rcases hf2 k b with h | h
    · omega
    · exact h
  have hK : KidRow (w2.alloc (.cells #[.pointer a1, .pointer a2] 24)) (some ⟨w2.heap.size, 0, none⟩) 2 [⟨.pointer a1, [1, 3, 5, 7], F1⟩, ⟨.pointer a2, [3, 4, 7], F2⟩] :=
    ⟨(Row.fresh w2 24 1 2 [.pointer a1, .pointer a2] rfl).more (by simp), rfl, by decide, by simp only [List.mem_cons, List.not_mem_nil, or_false, forall_eq_or_imp, forall_eq]; exact ⟨isCur_on H1b hb3, isCur_on h2 hb3⟩, by simp; exact fun k a b => hap k ⟨a, b⟩⟩
  have HB2 := hidden (HB1.out.trans (hb2.mono HB1.out.size))
  have HB3 := hidden (HB2.out.trans (hb3.mono HB2.out.size))
  have O3 := hidden (and_any _ 2 2 _ _ hK)
  have HF2 := hidden hf2
  clear hK hap hb3 hb2 H1b h2 hf2 O2
  go_wp2_with fail
  refine O3.out.mono ?_
  rintro e w3 ⟨p3, E3, F3, rfl, h3, hm3, hf3, hb4⟩
  obtain rfl : E3 = [3, 7] := rising_ext (isCur_rise _ _ _ _ h3).1 (by unfold rising; decide) fun x => by rw [hm3 x]; simp; omega
  have hfr : ∀ k, F3 k → w.heap.size ≤ k := fun k hk => by
    have s1 := HB1.out.size
    have s2 := HB3.out.size
    rcases hf3 k hk with h | ⟨x, hx, hk⟩
    · omega
    · simp only [List.mem_cons, List.not_mem_nil, or_false] at hx
      rcases hx with rfl | rfl
      · exact (HF1.out k hk).elim id False.elim
      · rcases HF2.out k hk with h | h
        · omega
        · exact h.elim
  have HFR := hidden hfr
  have HB4 := hidden (HB3.out.trans (hb4.mono HB3.out.size))
  have O4 := hidden (next_cur p3 [3, 7] F3 w3 h3)
  clear h3 hm3 hf3 hb4 hfr O3
  go_wp2_with fail
  refine O4.out.mono ?_
  rintro e w4 ⟨he, hc4, hk4⟩
  obtain rfl : e = .returned (.tuple #[.int .i64 3, .bool true]) := he
  have HB5 := hidden (HB4.out.trans (hk4.below HFR.out HB4.out.size))
  have O5 := hidden (seek_cur p3 [7] F3 4 w4 hc4 (by unfold inI; decide))
  clear hc4 hk4 O4
  go_wp2_with fail
  refine O5.out.mono ?_
  rintro e w5 ⟨he, hc5, hk5⟩
  obtain rfl : e = .returned (.tuple #[.int .i64 7, .bool true]) := he
  have HB6 := hidden (HB5.out.trans (hk5.below HFR.out HB5.out.size))
  have O6 := hidden (next_cur p3 [] F3 w5 hc5)
  clear hc5 hk5 O5
  go_wp2_with fail
  refine O6.out.mono ?_
  rintro e w6 ⟨he, hc6, hk6⟩
  obtain rfl : e = .returned (.tuple #[.int .i64 0, .bool false]) := he
  have HB7 := hidden (HB6.out.trans (hk6.below HFR.out HB6.out.size))
  clear hc6 hk6 O6
  go_wp2_with fail
  go_ret
  exact ⟨rfl, HB7.out⟩
end Go.Proofs.Ytnedgjdhpdejdaa
