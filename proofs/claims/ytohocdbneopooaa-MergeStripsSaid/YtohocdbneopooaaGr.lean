/- A world some draws and some blocks on. No condition. -/
import Derived.Test.YtohocdbneopooaaBase
import Derived.Shelf.SlSortCmp.QuietGrown
import Derived.Lib.QuietBelow
namespace Go.Proofs.Ytohocdbneopooaa
set_option maxRecDepth 100000
open Go.RowKit

/-- some draws and some blocks on -/
def Gr (w w' : World) : Prop := ∃ q os, w' = Sort.grow (w.drewN q) os
theorem Gr.refl (w : World) : Gr w w := ⟨0, #[], by simp [Sort.grow]; rfl⟩
theorem Gr.trans {a b c : World} (h : Gr a b) (k : Gr b c) : Gr a c := by
  obtain ⟨q, os, rfl⟩ := h
  obtain ⟨q2, os2, rfl⟩ := k
  exact ⟨q + q2, os ++ os2, by rw [← World.drewN_drewN]; simp [Sort.grow, World.drewN, Array.append_assoc]⟩
theorem Gr.alloc {a b : World} (h : Gr a b) (o : Obj) : Gr a (b.alloc o) := by
  refine h.trans ⟨0, #[o], ?_⟩
  rw [Sort.alloc_eq_grow]; rfl
theorem Gr.drewN {a b : World} (h : Gr a b) (n : Nat) : Gr a (b.drewN n) := h.trans ⟨n, #[], by simp [Sort.grow]; rfl⟩
theorem Gr.drew {a b : World} (h : Gr a b) : Gr a b.drew := h.drewN 1
theorem Gr.below {a b : World} (h : Gr a b) : Below a.heap.size a b := by
  obtain ⟨q, os, rfl⟩ := h
  exact below_regrown a (a.drawn + q) os
theorem Gr.of_grown (w : World) (p : GrownBy) : Gr w (Sort.grow (w.drewN p.n) p.os) := ⟨p.n, p.os, rfl⟩
theorem gr_cell {a b : World} {p : Addr} {v : Value} (h : Gr a b) (hc : a.cell? p = some v) : b.cell? p = some v := (h.below.cell (World.block_lt_of_cell? a p hc)).trans hc
theorem gr_alloc_cell {a : World} {p : Addr} {v : Value} (o : Obj) (hc : a.cell? p = some v) : (a.alloc o).cell? p = some v := gr_cell ((Gr.refl a).alloc o) hc
end Go.Proofs.Ytohocdbneopooaa
