/- Fold over samples: what it returns. Condition: the samples' values fit 64 bits, the list is no longer than 2^62. -/
import Derived.Test.YtohocdbneopooaaFoldWindow
namespace Go.Proofs.Ytohocdbneopooaa
set_option maxRecDepth 100000
open Go.RowKit

/-- A sample. -/
structure Smp where
  t : Int
  v : Nat

def smpCells (l : List Smp) : List Value := l.flatMap fun s => [.int .i64 s.t, .int .u64 s.v]

theorem smpCells_length (l : List Smp) : (smpCells l).length = l.length * 2 := by
  induction l with
  | nil => rfl
  | cons a l ih => simp only [smpCells, List.flatMap_cons, List.length_append, List.length_cons, List.length_nil] at ih ⊢; omega

theorem smpCells_at (l : List Smp) : ∀ (k : Nat) (h : k < l.length), (smpCells l)[k * 2]? = some (.int .i64 l[k].t) ∧ (smpCells l)[k * 2 + 1]? = some (.int .u64 l[k].v) := by
  induction l with
  | nil => intro k h; simp at h
  | cons a l ih =>
    intro k h
    cases k with
    | zero => simp [smpCells]
    | succ k =>
      have e : smpCells (a :: l) = .int .i64 a.t :: .int .u64 a.v :: smpCells l := by simp [smpCells]
      rw [e]
      have := ih k (by simpa using h)
      rw [show (k + 1) * 2 = k * 2 + 1 + 1 from by omega]
      simpa using this

def Fd.zero : Fd := ⟨0, 0, 0, false, false, 0⟩

/-- f is what these (sum, least, greatest) may have been folded into. -/
inductive Folded : List (Nat × Nat × Nat) → Fd → Prop where
  | nil : Folded [] Fd.zero
  | snoc {l : List (Nat × Nat × Nat)} {f : Fd} {s r a b : Nat} : Folded l f → SumTo f s r → Folded (l ++ [(s, a, b)]) (f.added r a b)

theorem Folded.n {l : List (Nat × Nat × Nat)} {f : Fd} (h : Folded l f) : f.n = l.length := by
  induction h with
  | nil => rfl
  | snoc h _ ih => simp [Fd.added, ih]

theorem Folded.bits {l : List (Nat × Nat × Nat)} {f : Fd} (h : Folded l f) (hb : ∀ x ∈ l, x.2.1 < 18446744073709551616 ∧ x.2.2 < 18446744073709551616) : f.l < 18446744073709551616 ∧ f.m < 18446744073709551616 := by
  induction h with
  | nil => exact ⟨by decide, by decide⟩
  | @snoc l f s r a b h _ ih =>
    have h1 := ih (fun x hx => hb x (by simp [hx]))
    have h2 := hb (s, a, b) (by simp)
    simp only [Fd.added]
    constructor <;> split <;> simp_all

def Smp.three (s : Smp) : Nat × Nat × Nat := (s.v, s.v, s.v)

def lastV (l : List Smp) : Nat := match l.getLast? with | some s => s.v | none => 0

theorem lastV_snoc (l : List Smp) (s : Smp) : lastV (l ++ [s]) = s.v := by simp [lastV]

theorem take_succ_snoc {α : Type} (l : List α) (k : Nat) (h : k < l.length) : l.take (k + 1) = l.take k ++ [l[k]] := by
  rw [List.take_succ_eq_append_getElem h]

def Smp.ok (s : Smp) : Prop := s.v < 18446744073709551616

theorem three_bits {l : List Smp} (h : ∀ s ∈ l, s.ok) (k : Nat) : ∀ x ∈ (l.take k).map Smp.three, x.2.1 < 18446744073709551616 ∧ x.2.2 < 18446744073709551616 := by
  intro x hx
  obtain ⟨s, hs, rfl⟩ := List.mem_map.1 hx
  have := h s (List.mem_of_mem_take hs)
  simp only [Smp.three, Smp.ok] at *
  omega

def zeroWin : Array Value := #[.int .i64 0, .int .i64 0, .int .u64 0, .int .u64 0, .int .u64 0, .int .u64 0]

set_option maxHeartbeats 1600000 in
theorem fold_any (start : Int) (A : Option Addr) (n cap : Nat) (l : List Smp) (w : World) (hr : Row w w.heap.size 2 A n (smpCells l)) (hl : l.length = n) (hn : n ≤ 4611686018427387904) (hok : ∀ s ∈ l, s.ok) :
    Calls Try.prog 95 #[.int .i64 start, .slice A n cap] w
      fun e w' => ∃ f, Folded (l.map Smp.three) f ∧ e = .returned (.agg (f.window start n (lastV l)).cells.toArray) ∧ Below w.heap.size w w' := by
  go_enter Try.func95, Try.ntmps95
  go_wp2
  go_loopw [6, 12] (fun last i wr => ∃ k : Nat, k ≤ n ∧ i = .int .i64 k ∧ last = .int .u64 (lastV (l.take k)) ∧ (∃ f, Folded ((l.take k).map Smp.three) f ∧ Whole1 wr (w.heap.size + 1) 184 f.cells) ∧ Whole1 wr w.heap.size 88 zeroWin ∧ Below w.heap.size w wr) (fun _ i _ => n - (intOf i).toNat)
  case atStart =>
    refine ⟨0, Nat.zero_le _, rfl, rfl, ⟨Fd.zero, .nil, ?_⟩, (Whole1.new _ _ _).alloc _, ((Below.refl _ _).alloc (Nat.le_refl _) _).alloc (by simp) _⟩
    have h := Whole1.new (w.alloc (Obj.cells zeroWin 88)) 184 Fd.zero.cells
    simp only [World.size_alloc] at h
    exact h
  case round =>
    obtain ⟨k, hk, rfl, rfl, ⟨f, hf, hw⟩, hz, hb⟩ := hrel
    have hfn := hf.n
    have hfb := hf.bits (three_bits hok k)
    rw [List.length_map, List.length_take, hl, Nat.min_eq_left hk] at hfn
    have hfn1 : 0 ≤ f.n := by omega
    have hfn2 : f.n ≤ 4611686018427387904 := by omega
    clear hfn
    by_cases hlt : k < n
    · obtain ⟨gs, o, rfl, hgs, hc⟩ := hr.at_ (by omega)
      have hkl : k < l.length := by omega
      have hs := smpCells_at l k hkl
      have c0 : wr.cell? ⟨gs, o + k * 2, none⟩ = some (.int .i64 l[k].t) := ((hb.cell (p := ⟨gs, o + k * 2, none⟩) hgs).trans (hc (k * 2) (by omega))).trans hs.1
      have c1 : wr.cell? ⟨gs, o + k * 2 + 1, none⟩ = some (.int .u64 l[k].v) := ((hb.cell (p := ⟨gs, o + k * 2 + 1, none⟩) hgs).trans (hc (k * 2 + 1) (by omega))).trans hs.2
      have hwlt := hw.lt
      have hok1 := hok l[k] (List.getElem_mem hkl)
      have hv : l[k].v < 18446744073709551616 := hok1
      clear hs hc
      have hT := hidden (take_succ_snoc l k hkl)
      have hL := hidden hl
      clear hl
      go_wp2_with (go_at_call 129; refine (float_any _ _).mono ?_; rintro e w' ⟨rfl, rfl⟩)
      refine (add_any f _ _ _ _ _ (hw.alloc _) hfn1 hfn2 hv hv hfb.1 hfb.2).mono ?_
      rintro e w1 ⟨rfl, r, hsum, hw1, hg1⟩
      have hx : Whole1 (wr.alloc (Obj.cells #[Value.int IntKind.i64 l[k].t, Value.int IntKind.u64 l[k].v] 55)) wr.heap.size 55 #[Value.int IntKind.i64 l[k].t, Value.int IntKind.u64 l[k].v] := Whole1.new _ _ _
      have hx1 := hx.grown hg1 (by simp; omega)
      have d1 : w1.cell? ⟨wr.heap.size, 1, none⟩ = some (.int .u64 l[k].v) := hx1.cell 1
      have hb1 : Below w.heap.size w w1 := below_gb (hb.alloc hb.size _) hg1 (by simp; have := hb.size; omega) (by omega)
      have hz1 := (hz.alloc (Obj.cells #[Value.int IntKind.i64 l[k].t, Value.int IntKind.u64 l[k].v] 55)).grown hg1 (by simp)
      have hF := hidden (hf.snoc (a := l[k].v) (b := l[k].v) hsum)
      clear hx hx1 hg1 hsum hf hw hz hb c0 c1
      go_wp2
      go_roundw
      case rel =>
        refine ⟨k + 1, by omega, by go_num, ?_, ⟨_, ?_, hw1⟩, hz1, hb1⟩
        · rw [hT.out, lastV_snoc]
        · rw [hT.out, List.map_append]; exact hF.out
      case measure => simp [intOf]; omega
    · obtain rfl : k = n := by omega
      have hL := hidden hl
      clear hl
      go_wp2_with (fail)
      obtain ⟨W, hW⟩ : ∃ W, f.window start k (lastV (l.take k)) = W := ⟨_, rfl⟩
      have hW0 := hidden hW
      refine (window_any f _ _ _ _ _ hw).mono ?_
      rintro e w1 ⟨rfl, hb1⟩
      rw [hW]
      clear hW
      obtain ⟨x0, x1, x2, x3, x4, x5⟩ := W
      rw [show (Win.mk x0 x1 x2 x3 x4 x5).cells.toArray = #[.int .i64 x0, .int .i64 x1, .int .u64 x2, .int .u64 x3, .int .u64 x4, .int .u64 x5] from rfl]
      have hz1 := hz.below hb1 hz.lt
      have d0 : w1.cell? ⟨w.heap.size, 0, none⟩ = some (.int .i64 0) := hz1.cell 0
      have d1 : w1.cell? ⟨w.heap.size, 1, none⟩ = some (.int .i64 0) := hz1.cell 1
      have d2 : w1.cell? ⟨w.heap.size, 2, none⟩ = some (.int .u64 0) := hz1.cell 2
      have d3 : w1.cell? ⟨w.heap.size, 3, none⟩ = some (.int .u64 0) := hz1.cell 3
      have d4 : w1.cell? ⟨w.heap.size, 4, none⟩ = some (.int .u64 0) := hz1.cell 4
      have d5 : w1.cell? ⟨w.heap.size, 5, none⟩ = some (.int .u64 0) := hz1.cell 5
      have e0 := hz1.free 0
      have e1 := hz1.free 1
      have e2 := hz1.free 2
      have e3 := hz1.free 3
      have e4 := hz1.free 4
      have e5 := hz1.free 5
      go_wp2
      have hF : Whole1 _ w.heap.size 88 (Win.mk x0 x1 x2 x3 x4 x5).cells.toArray := (((((hz1.put 0 (.int .i64 x0)).put 1 (.int .i64 x1)).put 2 (.int .u64 x2)).put 3 (.int .u64 x3)).put 4 (.int .u64 x4)).put 5 (.int .u64 x5)
      have hbF := (((((((hb.trans (hb1.mono hb.size)).setCell (p := ⟨w.heap.size, 0, none⟩) (Nat.le_refl _) (.int .i64 x0)).setCell (p := ⟨w.heap.size, 1, none⟩) (Nat.le_refl _) (.int .i64 x1)).setCell (p := ⟨w.heap.size, 2, none⟩) (Nat.le_refl _) (.int .u64 x2)).setCell (p := ⟨w.heap.size, 3, none⟩) (Nat.le_refl _) (.int .u64 x3)).setCell (p := ⟨w.heap.size, 4, none⟩) (Nat.le_refl _) (.int .u64 x4)).setCell (p := ⟨w.heap.size, 5, none⟩) (Nat.le_refl _) (.int .u64 x5))
      clear d0 d1 d2 d3 d4 d5 e0 e1 e2 e3 e4 e5
      generalize World.setCell _ _ _ = wF at hF hbF ⊢
      have d0 : wF.cell? ⟨w.heap.size, 0, none⟩ = some (.int .i64 x0) := hF.cell 0
      have d1 : wF.cell? ⟨w.heap.size, 1, none⟩ = some (.int .i64 x1) := hF.cell 1
      have d2 : wF.cell? ⟨w.heap.size, 2, none⟩ = some (.int .u64 x2) := hF.cell 2
      have d3 : wF.cell? ⟨w.heap.size, 3, none⟩ = some (.int .u64 x3) := hF.cell 3
      have d4 : wF.cell? ⟨w.heap.size, 4, none⟩ = some (.int .u64 x4) := hF.cell 4
      have d5 : wF.cell? ⟨w.heap.size, 5, none⟩ = some (.int .u64 x5) := hF.cell 5
      refine bodyPost_ret (v := .agg #[.int .i64 x0, .int .i64 x1, .int .u64 x2, .int .u64 x3, .int .u64 x4, .int .u64 x5]) (by simp [results, Try.results95, go_sem, d0, d1, d2, d3, d4, d5]) rfl ⟨f, ?_, ?_, hbF⟩
      · rw [List.take_of_length_le (by rw [hL.out]; exact Nat.le_refl _)] at hf; exact hf
      · have hW := hW0.out
        rw [List.take_of_length_le (by rw [hL.out]; exact Nat.le_refl _)] at hW
        rw [hW]; rfl

end Go.Proofs.Ytohocdbneopooaa
