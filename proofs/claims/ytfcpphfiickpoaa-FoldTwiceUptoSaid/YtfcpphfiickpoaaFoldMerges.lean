/- FoldMerges: whatever windows fold into is the document's window, bit for bit. No condition. -/
import Derived.Test.YtfcpphfiickpoaaFoldRMerge
import Derived.Test.YtfcpphfiickpoaaFoldWakes
import Derived.Test.YtfcpphfiickpoaaFoldArgs
namespace Go.Proofs.Ytfcpphfiickpoaa
open Go.RowKit Go.WideShapes Go.ChangeShapes

set_option maxHeartbeats 1600000 in
theorem foldMerges_any (start : Int) (A : Option Addr) (n c : Nat) (l : List Win) (w : World) (hr : Row w w.heap.size 6 A n (winCells l)) (hl : l.length = n) (hn : n * 48 ≤ 140737488351232) (hok : ∀ s ∈ l, s.ok) :
    Calls Try.prog 6 #[.int .i64 start, .slice A n c] w fun e w' => e = .returned (.bool true) ∧ Below w.heap.size w w' := by
  have hL := hidden hl
  clear hl
  go_enter Try.func6, Try.ntmps6
  go_wp2_with fail
  refine (wakes_any _).mono ?_
  rintro e w1 ⟨rfl, hb1⟩
  go_wp2_with fail
  refine (twin_any A n c _ w1 ((hr.below hb1).more hb1.size) (winCells_one _) hn).mono ?_
  rintro e w2 ⟨v, rfl, hown2, hb2⟩
  obtain ⟨A2, c2, rfl, _, hr2⟩ := own_shape hown2
  clear hown2
  have hb2' := hb1.trans (hb2.mono hb1.size)
  go_wp2_with fail
  refine (merge_any start A2 n c2 l w2 hr2 hL.out (by omega) hok).mono ?_
  rintro e w3 ⟨f, hF, rfl, hb3⟩
  rw [merge_is hF hok]
  have hb3' := hb2'.trans (hb3.mono hb2'.size)
  clear hF hb1 hb2 hb3 hr2
  generalize hW : mergeWin start l = W
  have hW0 := hidden hW
  clear hW
  obtain ⟨x0, x1, x2, x3, x4, x5⟩ := W
  rw [show (Win.mk x0 x1 x2 x3 x4 x5).cells.toArray = #[.int .i64 x0, .int .i64 x1, .int .u64 (x2 : Nat), .int .u64 (x3 : Nat), .int .u64 (x4 : Nat), .int .u64 (x5 : Nat)] from rfl]
  go_wp2_with fail
  have hf3 := Row.fresh w3 33 6 1 (winCells [⟨x0, x1, x2, x3, x4, x5⟩]) rfl
  have hr4 := ((hr.below hb3').more hb3'.size).alloc (Nat.le_refl _) (Obj.cells (winCells [⟨x0, x1, x2, x3, x4, x5⟩]).toArray 33)
  have hb4' := hb3'.alloc hb3'.size (Obj.cells (winCells [⟨x0, x1, x2, x3, x4, x5⟩]).toArray 33)
  rw [show (winCells [⟨x0, x1, x2, x3, x4, x5⟩]).toArray = #[.int .i64 x0, .int .i64 x1, .int .u64 (x2 : Nat), .int .u64 (x3 : Nat), .int .u64 (x4 : Nat), .int .u64 (x5 : Nat)] from rfl] at hf3 hr4 hb4'
  have hs4 : ∀ o, w3.heap.size + 1 ≤ (w3.alloc o).heap.size := fun o => by simp
  replace hs4 := hs4 (Obj.cells #[.int .i64 x0, .int .i64 x1, .int .u64 (x2 : Nat), .int .u64 (x3 : Nat), .int .u64 (x4 : Nat), .int .u64 (x5 : Nat)] 33)
  generalize hA3 : (some ⟨w3.heap.size, 0, none⟩ : Option Addr) = A3 at hf3 ⊢
  clear hA3
  generalize w3.alloc _ = w4 at hf3 hr4 hb4' hs4 ⊢
  refine (windows_any A n c l w4 (hr4.more (by omega)) hL.out hn).mono ?_
  rintro e w5 ⟨v, rfl, hown5, hb5⟩
  obtain ⟨A5, c5, rfl, _, hr5⟩ := own_shape hown5
  have hf5 := (hf3.more hs4).below hb5
  have hb5' := hb4'.trans (hb5.mono hb4'.size)
  have hs5 := hb5.size
  clear hown5 hf3 hr4 hb4' hb5 hr
  go_wp2_with fail
  refine (rmerge_any start A5 n c5 l w5 hr5 hL.out hn hok).mono ?_
  rintro e w6 ⟨rfl, hb6⟩
  rw [hW0.out, show (Win.mk x0 x1 x2 x3 x4 x5).cells.toArray = #[.int .i64 x0, .int .i64 x1, .int .u64 (x2 : Nat), .int .u64 (x3 : Nat), .int .u64 (x4 : Nat), .int .u64 (x5 : Nat)] from rfl]
  have hf6 := (hf5.more hs5).below hb6
  have hb6' := hb5'.trans (hb6.mono hb5'.size)
  have hs6 := hb6.size
  clear hf5 hb5' hb6 hr5
  have hg6 := Row.fresh w6 37 6 1 (winCells [⟨x0, x1, x2, x3, x4, x5⟩]) rfl
  have hf7 := (hf6.more hs6).alloc (Nat.le_refl _) (Obj.cells (winCells [⟨x0, x1, x2, x3, x4, x5⟩]).toArray 37)
  have hb7' := hb6'.alloc hb6'.size (Obj.cells (winCells [⟨x0, x1, x2, x3, x4, x5⟩]).toArray 37)
  go_wp2_with fail
  refine (alike_yes A3 _ 1 1 1 [⟨x0, x1, x2, x3, x4, x5⟩] _ (hf7.more (by simp)) (hg6.more (by simp [winCells, Win.cells])) rfl (by omega)).mono ?_
  rintro e w8 ⟨rfl, hb8⟩
  have hb8' := hb7'.trans (hb8.mono hb7'.size)
  go_wp2
  go_ret
  exact ⟨rfl, hb8'⟩

theorem foldMerges_walk {H : Type} (enc : TypeId × Value → H) : LawWalk enc Try.prog 6 Try.f6 (fun _ => True) := by
  intro W base args ds p hval hA hlt hsz _
  rw [Try.params6] at hval hA hsz
  obtain ⟨v0, vs0, d0, ds0, p0, q0, hargs, rfl, rfl, h0, r0⟩ := trodAll_cons hA
  obtain ⟨v1, vs1, d1, ds1, p1, q1, rfl, rfl, rfl, h1, r1⟩ := trodAll_cons r0
  obtain ⟨rfl, rfl, rfl⟩ := trodAll_nil r1
  obtain rfl : args = #[v0, v1] := by cases args; simp_all
  obtain ⟨a0, rfl, rfl, rfl, w0⟩ := open_int Try.underlying2 (hval 0 2 v0 rfl rfl) h0
  obtain ⟨A, n, c, l, rfl, hnc, hl, hr, hok, hd⟩ := open_wins (hval 1 36 v1 rfl rfl) h1 (fun x hx => hlt x (by simp [hx]))
  have hreach := reach_of hsz (j := 1) rfl rfl Try.underlying36 hd
  rw [bytes_win] at hreach
  exact foldMerges_any a0 A n c l W hr hl hreach (fun s hs => (hok s hs).1)

namespace foldMerges
set_option maxRecDepth 100000 in
theorem lifted (os : Os) (started : os.Started) (H : Type) (enc : TypeId × Value → H) :
    ReturnsInHanded {} Try.checked os 6 .any (Rows.foldMergesSpec.pre6 enc Try.prog Try.f6 Rows.foldMergesRow.domain false) (Rows.foldMergesSpec.post enc Try.prog Try.f6 false true false false) :=
  law_said (C := Try.checked) (s := Rows.foldMergesSpec) (tb := 4) own_prog started (by kernel_rfl) Try.func6
    (ChangeSpec.witness6 (enc := enc) (C := Try.checked) false ⟨#[], #[.int .i64 0, .slice none 0 0], []⟩ 8 (by kernel_rfl) (by kernel_rfl) (by kernel_rfl) (by kernel_rfl))
    laidOut (by kernel_rfl) rfl Try.underlying4 ⟨rfl, fun H ds h => match ds, h with | [_, _], _ => ⟨rfl, rfl, rfl⟩⟩ (foldMerges_walk enc)

theorem proved : Rows.FoldMergesSaid :=
  OpenClaim.holds_of_wide 6 Try.f6 rfl rfl rfl rfl rfl rfl rfl ⟨rfl, rfl, rfl, rfl, rfl⟩ rfl rfl rfl rfl rfl (by kernel_rfl) Try.func6 (by kernel_rfl)
    (of_decide_eq_true (by kernel_rfl)) (by unfold Func.isWrapper; first | (rw [if_pos (by decide +kernel)]; kernel_rfl) | (rw [if_neg (by decide +kernel)]; exact ⟨rfl, rfl⟩))
    (fun os started H enc _ => lifted os started H enc)
#print axioms proved
end foldMerges
end Go.Proofs.Ytfcpphfiickpoaa
