/- The law's helpers samples, twin, ref and windows: each hands back a new row with the cells that it read. Condition: the rows' bytes are within the reach. -/
import Derived.Test.YtfcpphfiickpoaaFoldFold
namespace Go.Proofs.Ytfcpphfiickpoaa
open Go.RowKit

def winCells (l : List Win) : List Value := l.flatMap Win.cells

theorem winCells_length (l : List Win) : (winCells l).length = l.length * 6 := by
  induction l with
  | nil => rfl
  | cons a l ih => simp only [winCells, List.flatMap_cons, List.length_append, List.length_cons, Win.cells, List.length_nil] at ih ⊢; omega

theorem winCells_cons (a : Win) (l : List Win) : winCells (a :: l) = .int .i64 a.start :: .int .i64 a.count :: .int .u64 a.sum :: .int .u64 a.min :: .int .u64 a.max :: .int .u64 a.last :: winCells l := by
  simp [winCells, Win.cells]

theorem winCells_at (l : List Win) : ∀ (k : Nat) (h : k < l.length), (winCells l)[k * 6]? = some (.int .i64 l[k].start) ∧ (winCells l)[k * 6 + 1]? = some (.int .i64 l[k].count) ∧ (winCells l)[k * 6 + 2]? = some (.int .u64 l[k].sum) ∧
    (winCells l)[k * 6 + 3]? = some (.int .u64 l[k].min) ∧ (winCells l)[k * 6 + 4]? = some (.int .u64 l[k].max) ∧ (winCells l)[k * 6 + 5]? = some (.int .u64 l[k].last) := by
  induction l with
  | nil => intro k h; simp at h
  | cons a l ih =>
    intro k h
    rw [winCells_cons]
    cases k with
    | zero => simp
    | succ k =>
      have := ih k (by simpa using h)
      rw [show (k + 1) * 6 = k * 6 + 1 + 1 + 1 + 1 + 1 + 1 from by omega]
      simpa using this

theorem smpCells_snoc (l : List Smp) (s : Smp) : smpCells (l ++ [s]) = smpCells l ++ [.int .i64 s.t, .int .u64 s.v] := by simp [smpCells]
theorem winCells_snoc (l : List Win) (s : Win) : winCells (l ++ [s]) = winCells l ++ [.int .i64 s.start, .int .i64 s.count, .int .u64 s.sum, .int .u64 s.min, .int .u64 s.max, .int .u64 s.last] := by simp [winCells, Win.cells]
theorem smpCells_one (l : List Smp) : ∀ u ∈ smpCells l, u.oneCell' = true := by
  intro u hu
  simp only [smpCells, List.mem_flatMap, List.mem_cons, List.not_mem_nil, or_false] at hu
  obtain ⟨s, _, rfl | rfl⟩ := hu <;> rfl
theorem winCells_one (l : List Win) : ∀ u ∈ winCells l, u.oneCell' = true := by
  intro u hu
  simp only [winCells, Win.cells, List.mem_flatMap, List.mem_cons, List.not_mem_nil, or_false] at hu
  obtain ⟨s, _, rfl | rfl | rfl | rfl | rfl | rfl⟩ := hu <;> rfl

theorem info_smp : (Try.prog.info? 44).map (fun i => (i.zero, i.size, i.bytes)) = some (some (.agg #[.int .i64 0, .int .u64 0]), 2, 16) := by kernel_rfl
theorem info_win : (Try.prog.info? 33).map (fun i => (i.zero, i.size, i.bytes)) = some (some (.agg #[.int .i64 0, .int .i64 0, .int .u64 0, .int .u64 0, .int .u64 0, .int .u64 0]), 6, 48) := by kernel_rfl
theorem info_rsmp : (Try.prog.info? 65).map (fun i => (i.zero, i.size, i.bytes)) = some (some (.agg #[.int .i64 0, .int .u64 0]), 2, 16) := by kernel_rfl
theorem info_rwin : (Try.prog.info? 37).map (fun i => (i.zero, i.size, i.bytes)) = some (some (.agg #[.int .i64 0, .int .i64 0, .int .u64 0, .int .u64 0, .int .u64 0, .int .u64 0]), 6, 48) := by kernel_rfl

set_option maxHeartbeats 800000 in
theorem samples_any (A : Option Addr) (n cap : Nat) (xs : List Value) (w : World) (hr : Row w w.heap.size 2 A n xs) (h1 : ∀ u ∈ xs, u.oneCell' = true) (hn : n * 16 ≤ 140737488351232) :
    Calls Try.prog 16 #[.slice A n cap] w fun e w' => ∃ v, e = .returned v ∧ w'.ownsRow w.heap.size 44 2 v n xs ∧ Below w.heap.size w w' := by
  obtain ⟨i0, hi, hz0, hz1, hz2⟩ := info_parts info_smp
  go_enter Try.func16, Try.ntmps16
  go_wp2_with (at_builtin; refine wpList_app _ rfl _ _ 29 rfl w.heap.size 44 i0 _ 2 16 Try.underlying29 hi hz0 hz1 hz2 rfl (by decide) (.slice none 0 0) 0 [] rfl (World.ownsRow_nil _ _ _ _) w.heap.size A n cap xs rfl hr h1 (by unfold maxLen; omega) (by omega) (Nat.le_refl _) ?_; intro v1 w1 hown1 hg1 hat1)
  go_ret
  exact ⟨v1, rfl, by simpa using hown1, (Below.refl _ _).grown hg1 (Nat.le_refl _) (by simp [Value.ownBlock])⟩

set_option maxHeartbeats 800000 in
theorem twin_any (A : Option Addr) (n cap : Nat) (xs : List Value) (w : World) (hr : Row w w.heap.size 6 A n xs) (h1 : ∀ u ∈ xs, u.oneCell' = true) (hn : n * 48 ≤ 140737488351232) :
    Calls Try.prog 20 #[.slice A n cap] w fun e w' => ∃ v, e = .returned v ∧ w'.ownsRow w.heap.size 33 6 v n xs ∧ Below w.heap.size w w' := by
  obtain ⟨i0, hi, hz0, hz1, hz2⟩ := info_parts info_win
  go_enter Try.func20, Try.ntmps20
  go_wp2_with (at_builtin; refine wpList_app _ rfl _ _ 36 rfl w.heap.size 33 i0 _ 6 48 Try.underlying36 hi hz0 hz1 hz2 rfl (by decide) (.slice none 0 0) 0 [] rfl (World.ownsRow_nil _ _ _ _) w.heap.size A n cap xs rfl hr h1 (by unfold maxLen; omega) (by omega) (Nat.le_refl _) ?_; intro v1 w1 hown1 hg1 hat1)
  go_ret
  exact ⟨v1, rfl, by simpa using hown1, (Below.refl _ _).grown hg1 (Nat.le_refl _) (by simp [Value.ownBlock])⟩

set_option maxHeartbeats 1600000 in
theorem ref_any (A : Option Addr) (n cap : Nat) (l : List Smp) (w : World) (hr : Row w w.heap.size 2 A n (smpCells l)) (hl : l.length = n) (hn : n * 16 ≤ 140737488351232) :
    Calls Try.prog 18 #[.slice A n cap] w fun e w' => ∃ v, e = .returned v ∧ w'.ownsRow w.heap.size 65 2 v n (smpCells l) ∧ Below w.heap.size w w' := by
  obtain ⟨i0, hi, hz0, hz1, hz2⟩ := info_parts info_rsmp
  go_enter Try.func18, Try.ntmps18
  go_wp2
  go_loopw [3, 8] (fun v i wr => ∃ k : Nat, k ≤ n ∧ i = .int .i64 k ∧ wr.ownsRow w.heap.size 65 2 v k (smpCells (l.take k)) ∧ Below w.heap.size w wr) (fun _ i _ => n - (intOf i).toNat)
  case atStart => exact ⟨0, Nat.zero_le _, rfl, World.ownsRow_nil _ _ _ _, Below.refl _ _⟩
  case round =>
    obtain ⟨k, hk, rfl, hown, hb⟩ := hrel
    by_cases hlt : k < n
    · obtain ⟨gs, o, rfl, hgs, hc⟩ := hr.at_ (by omega)
      have hkl : k < l.length := by omega
      have hs := smpCells_at l k hkl
      have c0 : wr.cell? ⟨gs, o + k * 2, none⟩ = some (.int .i64 l[k].t) := ((hb.cell (p := ⟨gs, o + k * 2, none⟩) hgs).trans (hc (k * 2) (by omega))).trans hs.1
      have c1 : wr.cell? ⟨gs, o + k * 2 + 1, none⟩ = some (.int .u64 l[k].v) := ((hb.cell (p := ⟨gs, o + k * 2 + 1, none⟩) hgs).trans (hc (k * 2 + 1) (by omega))).trans hs.2
      have hT := hidden (take_succ_snoc l k hkl)
      have hbs := hb.size
      clear hs hc hr hl
      have hfr := Row.fresh (wr.alloc (Obj.cells #[Value.int IntKind.i64 l[k].t, Value.int IntKind.u64 l[k].v] 44)) 65 2 1 [Value.int IntKind.i64 l[k].t, Value.int IntKind.u64 l[k].v] rfl
      rw [World.size_alloc] at hfr
      go_wp2_with (at_builtin; refine wpList_app _ rfl _ _ 39 rfl w.heap.size 65 i0 _ 2 16 Try.underlying39 hi hz0 hz1 hz2 rfl (by decide) _ _ _ rfl ((hown.alloc _).alloc _) _ _ _ _ _ rfl hfr (by simp [Value.oneCell']) (by unfold maxLen; omega) (by omega) (by simp; omega) ?_; intro v1 w1 hown1 hg1 hat1)
      go_roundw
      case rel =>
        refine ⟨k + 1, by omega, by go_num, ?_, ?_⟩
        · rw [hT.out, smpCells_snoc]; exact hown1
        · exact ((hb.alloc hbs _).alloc (by simp; omega) _).grown hg1 (by simp; omega) (fun j hj => (hown.lt j hj).1)
      case measure => simp [intOf]; omega
    · obtain rfl : k = n := by omega
      have hL := hidden hl
      clear hl
      go_wp2
      go_ret
      exact ⟨_, rfl, by rw [List.take_of_length_le (by rw [hL.out]; exact Nat.le_refl _)] at hown; exact hown, hb⟩

set_option maxHeartbeats 1600000 in
theorem windows_any (A : Option Addr) (n cap : Nat) (l : List Win) (w : World) (hr : Row w w.heap.size 6 A n (winCells l)) (hl : l.length = n) (hn : n * 48 ≤ 140737488351232) :
    Calls Try.prog 22 #[.slice A n cap] w fun e w' => ∃ v, e = .returned v ∧ w'.ownsRow w.heap.size 37 6 v n (winCells l) ∧ Below w.heap.size w w' := by
  obtain ⟨i0, hi, hz0, hz1, hz2⟩ := info_parts info_rwin
  go_enter Try.func22, Try.ntmps22
  go_wp2
  go_loopw [3, 8] (fun v i wr => ∃ k : Nat, k ≤ n ∧ i = .int .i64 k ∧ wr.ownsRow w.heap.size 37 6 v k (winCells (l.take k)) ∧ Below w.heap.size w wr) (fun _ i _ => n - (intOf i).toNat)
  case atStart => exact ⟨0, Nat.zero_le _, rfl, World.ownsRow_nil _ _ _ _, Below.refl _ _⟩
  case round =>
    obtain ⟨k, hk, rfl, hown, hb⟩ := hrel
    by_cases hlt : k < n
    · obtain ⟨gs, o, rfl, hgs, hc⟩ := hr.at_ (by omega)
      have hkl : k < l.length := by omega
      have hs := winCells_at l k hkl
      have c0 : wr.cell? ⟨gs, o + k * 6, none⟩ = some (.int .i64 l[k].start) := ((hb.cell (p := ⟨gs, o + k * 6, none⟩) hgs).trans (hc (k * 6) (by omega))).trans hs.1
      have c1 : wr.cell? ⟨gs, o + k * 6 + 1, none⟩ = some (.int .i64 l[k].count) := ((hb.cell (p := ⟨gs, o + k * 6 + 1, none⟩) hgs).trans (hc (k * 6 + 1) (by omega))).trans hs.2.1
      have c2 : wr.cell? ⟨gs, o + k * 6 + 2, none⟩ = some (.int .u64 l[k].sum) := ((hb.cell (p := ⟨gs, o + k * 6 + 2, none⟩) hgs).trans (hc (k * 6 + 2) (by omega))).trans hs.2.2.1
      have c3 : wr.cell? ⟨gs, o + k * 6 + 3, none⟩ = some (.int .u64 l[k].min) := ((hb.cell (p := ⟨gs, o + k * 6 + 3, none⟩) hgs).trans (hc (k * 6 + 3) (by omega))).trans hs.2.2.2.1
      have c4 : wr.cell? ⟨gs, o + k * 6 + 4, none⟩ = some (.int .u64 l[k].max) := ((hb.cell (p := ⟨gs, o + k * 6 + 4, none⟩) hgs).trans (hc (k * 6 + 4) (by omega))).trans hs.2.2.2.2.1
      have c5 : wr.cell? ⟨gs, o + k * 6 + 5, none⟩ = some (.int .u64 l[k].last) := ((hb.cell (p := ⟨gs, o + k * 6 + 5, none⟩) hgs).trans (hc (k * 6 + 5) (by omega))).trans hs.2.2.2.2.2
      have hT := hidden (take_succ_snoc l k hkl)
      have hbs := hb.size
      clear hs hc hr hl
      have hfr := Row.fresh (wr.alloc (Obj.cells #[Value.int IntKind.i64 l[k].start, Value.int IntKind.i64 l[k].count, Value.int IntKind.u64 l[k].sum, Value.int IntKind.u64 l[k].min, Value.int IntKind.u64 l[k].max, Value.int IntKind.u64 l[k].last] 33)) 37 6 1 [Value.int IntKind.i64 l[k].start, Value.int IntKind.i64 l[k].count, Value.int IntKind.u64 l[k].sum, Value.int IntKind.u64 l[k].min, Value.int IntKind.u64 l[k].max, Value.int IntKind.u64 l[k].last] rfl
      rw [World.size_alloc] at hfr
      go_wp2_with (at_builtin; refine wpList_app _ rfl _ _ 41 rfl w.heap.size 37 i0 _ 6 48 Try.underlying41 hi hz0 hz1 hz2 rfl (by decide) _ _ _ rfl ((hown.alloc _).alloc _) _ _ _ _ _ rfl hfr (by simp [Value.oneCell']) (by unfold maxLen; omega) (by omega) (by simp; omega) ?_; intro v1 w1 hown1 hg1 hat1)
      go_roundw
      case rel =>
        refine ⟨k + 1, by omega, by go_num, ?_, ?_⟩
        · rw [hT.out, winCells_snoc]; exact hown1
        · exact ((hb.alloc hbs _).alloc (by simp; omega) _).grown hg1 (by simp; omega) (fun j hj => (hown.lt j hj).1)
      case measure => simp [intOf]; omega
    · obtain rfl : k = n := by omega
      have hL := hidden hl
      clear hl
      go_wp2
      go_ret
      exact ⟨_, rfl, by rw [List.take_of_length_le (by rw [hL.out]; exact Nat.le_refl _)] at hown; exact hown, hb⟩

end Go.Proofs.Ytfcpphfiickpoaa
