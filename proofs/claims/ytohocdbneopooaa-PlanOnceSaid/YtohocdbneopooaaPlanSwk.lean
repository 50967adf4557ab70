/- From a world of the sort's back to a row. No condition. -/
import Derived.Test.YtohocdbneopooaaPlanRow
import Derived.Test.YtohocdbneopooaaStableP
namespace Go.Proofs.Ytohocdbneopooaa
set_option maxRecDepth 100000
open Go.Shelf Go.RowKit Go.Lib Go.Sort

section
variable {α : Type} [Inhabited α] {enc : α → List Value} {k : Nat} {w0 W : World} {blk off : Nat} {dk : Array α}
theorem swk_gb (h : SWK enc k w0 blk off dk W) : w0.grownBy W (some blk) := by
  obtain ⟨n, os, rfl⟩ := h
  refine ⟨rfl, rfl, rfl, by unfold sortWorldK; rw [size_grow, size_putRowK]; exact Nat.le_add_right _ _, fun i hi hne => ?_⟩
  unfold sortWorldK grow putRowK putRow mapBlock
  simp only
  have hne' : blk ≠ i := fun h => hne (by rw [h])
  rw [Array.getElem?_append_left (by simpa using hi), Array.getElem?_modify, if_neg hne']
  rfl

theorem swk_row {d0 : Array α} (h : SWK enc k w0 blk off dk W) (R : RowK enc k w0 blk off d0) (hs : dk.size = d0.size) : Row W W.heap.size k (some ⟨blk, off, none⟩) dk.size (dk.toList.flatMap enc) := by
  have hH := h.holds R.hblk R.hH hs
  have hl : ∀ l : List α, (l.flatMap enc).length = l.length * k := by
    intro l
    induction l with
    | nil => simp
    | cons a l ih => rw [List.flatMap_cons, List.length_append, R.hk, ih, List.length_cons, Nat.add_mul, Nat.one_mul, Nat.add_comm]
  refine ⟨by rw [hl]; simp, fun hp => ⟨blk, off, rfl, h.lt R.hblk, fun j hj => ?_⟩⟩
  have hk0 : 0 < k := by
    rcases Nat.eq_zero_or_pos k with h0 | h0
    · subst h0; omega
    · exact h0
  have hi : j / k < dk.size := (Nat.div_lt_iff_lt_mul hk0).2 hj
  have hm : j % k < k := Nat.mod_lt _ hk0
  have hd : j / k * k + j % k = j := Nat.div_add_mod' j k
  have h3 := flatMap_at enc k R.hk dk.toList (j / k) (j % k) (by simpa using hi) hm
  rw [hd, Array.getElem_toList] at h3
  have h4 := (HoldsK.cell hH hi hm).1
  rw [show off + j / k * k + j % k = off + j from by omega] at h4
  rw [h3, h4, getElem!_pos dk (j / k) hi, getElem!_pos _ (j % k) (by rw [R.hk]; exact hm), List.getElem?_eq_getElem (by rw [R.hk]; exact hm)]
end

/-- infos with the places where they stand -/
def tag (l : List Inf) : Array TInf := l.zipIdx.toArray
theorem tag_cells (l : List Inf) : (tag l).toList.flatMap tenc = infCells l := by
  unfold tag tenc infCells
  rw [← List.flatMap_map (f := fun u : Inf × Nat => u.1) (g := Inf.cells)]
  simp
theorem tag_size (l : List Inf) : (tag l).size = l.length := by simp [tag]

theorem infTenc_len (x : TInf) : (tenc x).length = 5 := rfl
/-- a block known whole is a row for the sort -/
theorem tag_row {w : World} {g : Nat} {l : List Inf} {rest : List Value} (h : Whole1 w g 71 (infCells l ++ rest).toArray) : RowK tenc 5 w g 0 (tag l) := by
  refine ⟨fun _ => rfl, fun x v hv => ?_, holdsK_of_cells (enc := tenc) (k := 5) (off := 0) (d := tag l) infTenc_len fun j hj => ⟨?_, h.free _⟩, h.lt⟩
  · exact infCells_one [x.1] v (by simpa [infCells, tenc] using hv)
  · rw [tag_cells, Nat.zero_add, h.cell, List.getElem?_toArray, List.getElem?_append_left (by rw [infCells_length, ← tag_size]; exact hj)]

/-- what the sort leaves, as a list -/
def sortedI (l : List Inf) : List Inf := (stable (ltOf tcf) l.length (tag l)).toList.map Prod.fst
theorem sortedI_cells (l : List Inf) : (stable (ltOf tcf) l.length (tag l)).toList.flatMap tenc = infCells (sortedI l) := by
  unfold sortedI infCells tenc
  rw [List.flatMap_map]
end Go.Proofs.Ytohocdbneopooaa
