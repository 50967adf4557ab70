/- Cells of rows of samples and of windows. No condition. -/
import Derived.Test.YtohocdbneopooaaFoldFold
namespace Go.Proofs.Ytohocdbneopooaa
set_option maxRecDepth 100000
open Go.RowKit

def winCells (l : List Win) : List Value := l.flatMap Win.cells

theorem winCells_length (l : List Win) : (winCells l).length = l.length * 6 := by
  induction l with
  | nil => rfl
  | cons a l ih => simp only [winCells, List.flatMap_cons, List.length_append, List.length_cons, Win.cells, List.length_nil] at ih ⊢; omega

theorem winCells_cons (a : Win) (l : List Win) : winCells (a :: l) = .int .i64 a.start :: .int .i64 a.count :: .int .u64 a.sum :: .int .u64 a.min :: .int .u64 a.max :: .int .u64 a.last :: winCells l := by
  simp [winCells, Win.cells]

theorem winCells_at (l : List Win) : ∀ (k : Nat) (h : k < l.length), (winCells l)[k * 6]? = some (.int .i64 l[k].start) ∧ (winCells l)[k * 6 + 1]? = some (.int .i64 l[k].count) ∧ (winCells l)[k * 6 + 2]? = some (.int .u64 l[k].sum) ∧
    (winCells l)[k * 6 + 3]? = some (.int .u64 l[k].min) ∧ (winCells l)[k * 6 + 4]? = some (.int .u64 l[k].max) ∧ (winCells l)[k * 6 + 5]? = some (.int .u64 l[k].last) := by
  induction l with
  | nil => intro k h; simp at h
  | cons a l ih =>
    intro k h
    rw [winCells_cons]
    cases k with
    | zero => simp
    | succ k =>
      have := ih k (by simpa using h)
      rw [show (k + 1) * 6 = k * 6 + 1 + 1 + 1 + 1 + 1 + 1 from by omega]
      simpa using this

theorem smpCells_snoc (l : List Smp) (s : Smp) : smpCells (l ++ [s]) = smpCells l ++ [.int .i64 s.t, .int .u64 s.v] := by simp [smpCells]
theorem winCells_snoc (l : List Win) (s : Win) : winCells (l ++ [s]) = winCells l ++ [.int .i64 s.start, .int .i64 s.count, .int .u64 s.sum, .int .u64 s.min, .int .u64 s.max, .int .u64 s.last] := by simp [winCells, Win.cells]
theorem smpCells_one (l : List Smp) : ∀ u ∈ smpCells l, u.oneCell' = true := by
  intro u hu
  simp only [smpCells, List.mem_flatMap, List.mem_cons, List.not_mem_nil, or_false] at hu
  obtain ⟨s, _, rfl | rfl⟩ := hu <;> rfl
theorem winCells_one (l : List Win) : ∀ u ∈ winCells l, u.oneCell' = true := by
  intro u hu
  simp only [winCells, Win.cells, List.mem_flatMap, List.mem_cons, List.not_mem_nil, or_false] at hu
  obtain ⟨s, _, rfl | rfl | rfl | rfl | rfl | rfl⟩ := hu <;> rfl

theorem info_smp : (Try.prog.info? 55).map (fun i => (i.zero, i.size, i.bytes)) = some (some (.agg #[.int .i64 0, .int .u64 0]), 2, 16) := by kernel_rfl
theorem info_win : (Try.prog.info? 88).map (fun i => (i.zero, i.size, i.bytes)) = some (some (.agg #[.int .i64 0, .int .i64 0, .int .u64 0, .int .u64 0, .int .u64 0, .int .u64 0]), 6, 48) := by kernel_rfl
theorem info_rsmp : (Try.prog.info? 86).map (fun i => (i.zero, i.size, i.bytes)) = some (some (.agg #[.int .i64 0, .int .u64 0]), 2, 16) := by kernel_rfl
theorem info_rwin : (Try.prog.info? 89).map (fun i => (i.zero, i.size, i.bytes)) = some (some (.agg #[.int .i64 0, .int .i64 0, .int .u64 0, .int .u64 0, .int .u64 0, .int .u64 0]), 6, 48) := by kernel_rfl

theorem smp_cells_at {w wr : World} {A : Option Addr} {n : Nat} {l : List Smp} {B : Nat} (hr : Row w B 2 A n (smpCells l)) (hl : l.length = n) (hb : Below B w wr) (k : Nat) (hk : k < n) :
    ∃ gs o, A = some ⟨gs, o, none⟩ ∧ ∃ x, l[k]? = some x ∧ wr.cell? ⟨gs, o + k * 2, none⟩ = some (.int .i64 x.t) ∧ wr.cell? ⟨gs, o + k * 2 + 1, none⟩ = some (.int .u64 (x.v : Nat)) := by
  obtain ⟨gs, o, rfl, hgs, hc⟩ := hr.at_ (by omega)
  have hkl : k < l.length := by omega
  have hs := smpCells_at l k hkl
  exact ⟨gs, o, rfl, l[k], List.getElem?_eq_getElem hkl, ((hb.cell (p := ⟨gs, o + k * 2, none⟩) hgs).trans (hc (k * 2) (by omega))).trans hs.1, ((hb.cell (p := ⟨gs, o + k * 2 + 1, none⟩) hgs).trans (hc (k * 2 + 1) (by omega))).trans hs.2⟩
theorem win_cells_at {w wr : World} {A : Option Addr} {n : Nat} {l : List Win} {B : Nat} (hr : Row w B 6 A n (winCells l)) (hl : l.length = n) (hb : Below B w wr) (k : Nat) (hk : k < n) :
    ∃ gs o, A = some ⟨gs, o, none⟩ ∧ gs < B ∧ ∃ x, l[k]? = some x ∧ wr.cell? ⟨gs, o + k * 6, none⟩ = some (.int .i64 x.start) ∧ wr.cell? ⟨gs, o + k * 6 + 1, none⟩ = some (.int .i64 x.count) ∧ wr.cell? ⟨gs, o + k * 6 + 2, none⟩ = some (.int .u64 (x.sum : Nat)) ∧
      wr.cell? ⟨gs, o + k * 6 + 3, none⟩ = some (.int .u64 (x.min : Nat)) ∧ wr.cell? ⟨gs, o + k * 6 + 4, none⟩ = some (.int .u64 (x.max : Nat)) ∧ wr.cell? ⟨gs, o + k * 6 + 5, none⟩ = some (.int .u64 (x.last : Nat)) := by
  obtain ⟨gs, o, rfl, hgs, hc⟩ := hr.at_ (by omega)
  have hkl : k < l.length := by omega
  have hs := winCells_at l k hkl
  have hx : ∀ j u, j < 6 → (winCells l)[k * 6 + j]? = some u → wr.cell? ⟨gs, o + (k * 6 + j), none⟩ = some u := fun j u hj hu => ((hb.cell (p := ⟨gs, o + (k * 6 + j), none⟩) hgs).trans (hc (k * 6 + j) (by omega))).trans hu
  exact ⟨gs, o, rfl, hgs, l[k], List.getElem?_eq_getElem hkl, hx 0 _ (by omega) hs.1, hx 1 _ (by omega) hs.2.1, hx 2 _ (by omega) hs.2.2.1, hx 3 _ (by omega) hs.2.2.2.1, hx 4 _ (by omega) hs.2.2.2.2.1, hx 5 _ (by omega) hs.2.2.2.2.2⟩

end Go.Proofs.Ytohocdbneopooaa
