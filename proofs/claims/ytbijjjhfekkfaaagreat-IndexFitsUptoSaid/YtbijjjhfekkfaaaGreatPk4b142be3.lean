/- A row of cursors of the call's own, under way. No program is walked here. -/
import Derived.Test.YtbijjjhfekkfaaaGreatPkaf155ceb
namespace Go.Proofs.YtbijjjhfekkfaaaGreat
set_option maxRecDepth 100000
open Go.RowKit Go.Shelf

structure KOwn (w0 w : World) (v : Value) (cs : List Kid) : Prop where
  row : w.ownsRow w0.heap.size 183 1 v cs.length (cs.map Kid.p)
  cur : ∀ x ∈ cs, IsCur w x.p x.E x.F
  apart : cs.Pairwise fun x y => ∀ k, ¬ (x.F k ∧ y.F k)
  off : ∀ x ∈ cs, ∀ k, x.F k → w0.heap.size ≤ k ∧ v.ownBlock ≠ some k
  below : Below w0.heap.size w0 w
section
variable {w0 w w' : World} {v v1 : Value} {cs : List Kid}
theorem KOwn.nil (w0 w : World) (hb : Below w0.heap.size w0 w) : KOwn w0 w (.slice none 0 0) [] := ⟨World.ownsRow_nil _ _ _ _, by simp, List.Pairwise.nil, by simp, hb⟩
theorem KOwn.on (h : KOwn w0 w v cs) (hb : Below w.heap.size w w') : KOwn w0 w' v cs :=
  ⟨own_below h.row hb (Nat.le_refl _), fun x hx => isCur_frame _ _ _ _ _ (h.cur x hx) hb.size fun k hk => hb.block k (isCur_old _ _ _ _ (h.cur x hx) k hk), h.apart, h.off, h.below.trans (hb.mono h.below.size)⟩
theorem KOwn.push {x : Kid} (h : KOwn w0 w v cs) (hx : IsCur w x.p x.E x.F) (hd : ∀ y ∈ cs, ∀ k, ¬ (y.F k ∧ x.F k)) (ho : ∀ k, x.F k → w0.heap.size ≤ k ∧ v.ownBlock ≠ some k)
    (hown : w'.ownsRow w0.heap.size 183 1 v1 (cs.length + 1) (cs.map Kid.p ++ [x.p])) (hg : w.grownBy w' v.ownBlock) (hat : v1.ownBlock = v.ownBlock ∨ v1.ownBlock = some w.heap.size) : KOwn w0 w' v1 (cs ++ [x]) := by
  have hall : ∀ y ∈ cs ++ [x], IsCur w y.p y.E y.F ∧ ∀ k, y.F k → w0.heap.size ≤ k ∧ v.ownBlock ≠ some k := fun y hy => by
    rcases List.mem_append.1 hy with hy | hy
    · exact ⟨h.cur y hy, h.off y hy⟩
    · rw [List.mem_singleton.1 hy]; exact ⟨hx, ho⟩
  refine ⟨by simpa using hown, fun y hy => ?_, ?_, fun y hy k hk => ⟨((hall y hy).2 k hk).1, fun e => ?_⟩, h.below.grown hg h.below.size fun k hk => (h.row.lt k hk).1⟩
  · obtain ⟨h1, h2⟩ := hall y hy
    exact isCur_frame _ _ _ _ _ h1 hg.size fun k hk => hg.block k (isCur_old _ _ _ _ h1 k hk) fun e => (h2 k hk).2 e.symm
  · refine List.pairwise_append.2 ⟨h.apart, List.pairwise_singleton _ _, fun a ha b hb => ?_⟩
    rw [List.mem_singleton.1 hb]
    exact hd a ha
  · obtain ⟨h1, h2⟩ := hall y hy
    rcases hat with hat | hat
    · rw [hat] at e; exact (h2 k hk).2 e
    · rw [hat] at e
      have := isCur_old _ _ _ _ h1 k hk
      have : w.heap.size = k := Option.some.inj e
      omega
theorem KOwn.kids (h : KOwn w0 w v cs) (hf : cs.length * 8 ≤ 140737488351232) : ∃ A c, v = .slice A cs.length c ∧ KidRow w A cs.length cs := by
  obtain ⟨A, c, rfl, _, hr⟩ := own_shape h.row
  exact ⟨A, c, rfl, hr, rfl, hf, h.cur, h.apart⟩
end
end Go.Proofs.YtbijjjhfekkfaaaGreat
