/- almanaclaw13.wakes: it holds. -/
import Derived.Test.YtbijjjhfekkfaaaGreatPk53f20d66
namespace Go.Proofs.YtbijjjhfekkfaaaGreat
set_option maxRecDepth 100000
open Go.RowKit Go.Shelf

theorem isCur_ptr {w : World} {p : Value} {E : List Int} {F : Nat → Prop} (h : IsCur w p E F) : ∃ a, p = .pointer a := by
  obtain ⟨d, ⟨rfl, _⟩ | ⟨b, v, fr, dn, E0, F0, rfl, _⟩⟩ := h
  · exact ⟨_, rfl⟩
  · exact ⟨_, rfl⟩
theorem isCur_on {w w' : World} {p : Value} {E : List Int} {F : Nat → Prop} (h : IsCur w p E F) (hb : Below w.heap.size w w') : IsCur w' p E F :=
  isCur_frame _ _ _ _ _ h hb.size fun k hk => hb.block k (isCur_old _ _ _ _ h k hk)
theorem isCur_kp {w w' : World} {p : Value} {E : List Int} {F G : Nat → Prop} (h : IsCur w p E F) (hk : Kp G w w') (hd : ∀ k, ¬ (F k ∧ G k)) : IsCur w' p E F :=
  isCur_frame _ _ _ _ _ h hk.size fun k hF => hk.block k (isCur_old _ _ _ _ h k hF) fun hG => hd k ⟨hF, hG⟩
/-- a call returned a new cursor over this very list -/
theorem of_lit (l : List Int) (c : Nat) (w : World) (hl : l.length * 8 ≤ 140737488351232) (hI : ∀ x ∈ l, inI x) (hr : rising l) :
    Calls Tryz.prog 157 #[.slice (some ⟨w.heap.size, 0, none⟩) l.length c] (w.alloc (.cells (l.map (Value.int .i64)).toArray 3)) (NewCur w (fun _ => False) (· = l)) := by
  have hb : Below w.heap.size w (w.alloc (.cells (l.map (Value.int .i64)).toArray 3)) := (Below.refl _ _).alloc (Nat.le_refl _) _
  have hf := Row.fresh w 3 1 l.length (l.map (Value.int .i64)) (by simp)
  refine (of_any _ l.length c l _ (hf.more (by simp)) hl hI).mono ?_
  rintro e w' ⟨p, E, F, rfl, h1, ⟨h2, _⟩, h3, h4⟩
  refine ⟨p, E, F, rfl, h1, rising_ext (isCur_rise _ _ _ _ h1).1 hr h2, fun k hk => (h3 k hk).imp (fun h => by simp at h; omega) id, hb.trans (h4.mono (by simp))⟩

end Go.Proofs.YtbijjjhfekkfaaaGreat
