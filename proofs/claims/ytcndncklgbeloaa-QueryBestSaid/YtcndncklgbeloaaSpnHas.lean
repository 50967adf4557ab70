/- spans.Has: does the time lie in one of them? Condition: the row is within the reach. -/
import Derived.Test.YtcndncklgbeloaaIdxSpn
import Derived.Lib.QuietBelow
import Derived.Test.YtcndncklgbeloaaBase
namespace Go.Proofs.Ytcndncklgbeloaa
set_option maxRecDepth 100000
open Go.RowKit Go.Shelf

theorem has1_any (s : Spn) (t : Int) (g : Nat) (W : World) (ht : W.cell? ⟨g, 0, none⟩ = some (.int .i64 t)) :
    Calls Try.prog 44 #[.agg #[.int .i64 s.frm, .int .i64 s.til], .pointer (some ⟨g, 0, none⟩)] W fun e W' => e = .returned (.bool (inSpn s t)) ∧ Below W.heap.size W W' := by
  have lg := World.block_lt_of_cell? W _ ht
  simp only at lg
  go_enter Try.func44, Try.ntmps44
  go_upto_region 1 with (fail)
  have hY := Whole1.new W 87 #[.int .i64 s.frm, .int .i64 s.til]
  have hB : Below W.heap.size W (W.alloc (.cells #[.int .i64 s.frm, .int .i64 s.til] 87)) := (Below.refl _ _).alloc (Nat.le_refl _) _
  generalize W.alloc (.cells #[.int .i64 s.frm, .int .i64 s.til] 87) = W2 at hY hB ⊢
  have t0 := (hB.cell (p := ⟨g, 0, none⟩) lg).trans ht
  have y0 := hY.cell 0
  have y1 := hY.cell 1
  have HB := hidden hB
  obtain ⟨X, hX⟩ : ∃ X, W.heap.size = X := ⟨_, rfl⟩
  rw [hX] at y0 y1 ⊢
  clear hY hX hB ht lg
  by_cases h1 : s.frm ≤ t
  · by_cases h2 : t ≤ s.til
    · have h3 := hidden (by simp [inSpn, h1, h2] : inSpn s t = true)
      go_wp2_with fail
      go_ret
      exact ⟨ret_bool h3.out.symm, HB.out⟩
    · have h3 := hidden (by simp [inSpn, h2] : inSpn s t = false)
      go_wp2_with fail
      go_ret
      exact ⟨ret_bool h3.out.symm, HB.out⟩
  · have h3 := hidden (by simp [inSpn, h1] : inSpn s t = false)
    go_wp2_with fail
    go_ret
    exact ⟨ret_bool h3.out.symm, HB.out⟩
set_option maxHeartbeats 800000 in
theorem has_any (A : Option Addr) (n c : Nat) (l : List Spn) (t : Int) (w : World) (hr : Row w w.heap.size 2 A n (spnCells l)) (hl : l.length = n) (hn : n ≤ 4611686018427387904) :
    Calls Try.prog 22 #[.slice A n c, .int .i64 t] w fun e w' => e = .returned (.bool (hasP l t)) ∧ Below w.heap.size w w' := by
  have e1 : ∀ args w, (callFunc 44 args).run Try.prog w = .ok (.enter 44 args) w := enters_of Try.func44 (by kernel_rfl) rfl
  have hB : Below w.heap.size w (w.alloc (.cells #[.int .i64 t] 2)) := (Below.refl _ _).alloc (Nat.le_refl _) _
  have h0 := Whole1.new w 2 #[.int .i64 t]
  have S1 := hidden (IdxSpn.contains_any A n c l 44 #[.pointer (some ⟨w.heap.size, 0, none⟩)] (fun s => inSpn s t) (w.alloc (.cells #[.int .i64 t] 2)) e1
    (fun s _ W hW => has1_any s t w.heap.size W ((h0.below hW h0.lt).cell 0)) ((hr.below hB).more hB.size) hl hn)
  have HB := hidden hB
  clear hr e1 hB h0
  go_enter Try.func22, Try.ntmps22
  go_wp2_with fail
  refine S1.out.mono ?_
  rintro e w' ⟨rfl, hb⟩
  have HB2 := hidden (HB.out.trans (hb.mono HB.out.size))
  clear hb S1
  go_wp2_with fail
  go_ret
  exact ⟨rfl, HB2.out⟩

end Go.Proofs.Ytcndncklgbeloaa
