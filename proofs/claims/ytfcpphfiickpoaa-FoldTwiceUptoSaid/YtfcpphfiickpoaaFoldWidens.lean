/- FoldWidens: the wider windows of windows are the document's, or refused as it says. No condition. -/
import Derived.Test.YtfcpphfiickpoaaFoldRWiden
namespace Go.Proofs.Ytfcpphfiickpoaa
open Go.RowKit Go.WideShapes Go.ChangeShapes

set_option maxHeartbeats 1600000 in
theorem widen_calls (d : Int) (A : Option Addr) (n cap : Nat) (l : List Win) (w : World) (hr : Row w w.heap.size 6 A n (winCells l)) (hl : l.length = n) (hnc : n ≤ cap) (hn : n * 48 ≤ 140737488351232) (hok : ∀ s ∈ l, s.ok) :
    Calls Try.prog 25 #[.int .i64 d, .slice A n cap] w
      fun e w' => ∃ v, e = .returned (.tuple #[v, .int .i64 (errOf Win.start badWin d l)]) ∧ GrpResW d l w.heap.size w' v ∧ Below w.heap.size w w' := by
  have hL := hidden hl
  clear hl
  go_enter Try.func25, Try.ntmps25
  go_wp2_with fail
  refine (groupedW_any d A n cap l w hr hL.out hnc hn hok).mono ?_
  rintro e w1 ⟨v, rfl, hG, hb⟩
  have HG := hidden hG
  clear hG
  go_wp2
  go_ret2
  exact ⟨_, rfl, HG.out, hb⟩

/-- The two lists that the law compares: both there, or both empty. -/
theorem two_listsW {d : Int} {l : List Win} {B B' : Nat} {w1 w2 : World} {v1 v2 : Value} (h1 : GrpResW d l B w1 v1) (h2 : RefResW d l B' w2 v2) :
    ∃ (L : List Win) (A1 A2 : Option Addr) (c1 c2 : Nat), v1 = .slice A1 L.length c1 ∧ v2 = .slice A2 L.length c2 ∧ Row w1 w1.heap.size 6 A1 L.length (winCells L) ∧ Row w2 w2.heap.size 6 A2 L.length (winCells L) ∧ L.length ≤ l.length := by
  unfold GrpResW at h1
  unfold RefResW at h2
  by_cases he : errOf Win.start badWin d l = 0
  · rw [if_pos he] at h1 h2
    obtain ⟨A1, c1, e1, _, r1⟩ := own_shape h1
    obtain ⟨A2, c2, e2, _, r2⟩ := own_shape h2
    refine ⟨(groupsOf Win.start d l).map winWin, A1, A2, c1, c2, ?_⟩
    rw [List.length_map]
    exact ⟨e1, e2, r1, r2, grp_count Win.start d l⟩
  · rw [if_neg he] at h1 h2
    exact ⟨[], none, none, 0, 0, h1, h2, Row.nil, Row.nil, Nat.zero_le _⟩

set_option maxHeartbeats 1600000 in
theorem foldWidens_any (d : Int) (A : Option Addr) (n c : Nat) (l : List Win) (w : World) (hr : Row w w.heap.size 6 A n (winCells l)) (hl : l.length = n) (hn : n * 48 ≤ 140737488351232) (hok : ∀ s ∈ l, s.ok) :
    Calls Try.prog 9 #[.int .i64 d, .slice A n c] w fun e w' => e = .returned (.bool true) ∧ Below w.heap.size w w' := by
  have hL := hidden hl
  clear hl
  go_enter Try.func9, Try.ntmps9
  go_wp2_with fail
  refine (twin_any A n c _ w hr (winCells_one _) (by omega)).mono ?_
  rintro e w1 ⟨v, rfl, hown1, hb1⟩
  obtain ⟨A1, c1, rfl, hc1, hr1⟩ := own_shape hown1
  clear hown1
  go_wp2_with fail
  refine (widen_calls d A1 n c1 l w1 hr1 hL.out hc1 hn hok).mono ?_
  rintro e w2 ⟨v1, rfl, hG, hb2⟩
  have hb2' := hb1.trans (hb2.mono hb1.size)
  have HG := hidden hG
  clear hG hb1 hr1
  generalize hee : errOf Win.start badWin d l = ee at *
  have HEE := hidden hee
  clear hee
  go_wp2_with fail
  refine (windows_any A n c l w2 ((hr.below hb2').more hb2'.size) hL.out (by omega)).mono ?_
  rintro e w3 ⟨v, rfl, hown3, hb3⟩
  obtain ⟨A3, c3, rfl, hc3, hr3⟩ := own_shape hown3
  clear hown3
  have hb3' := hb2'.trans (hb3.mono hb2'.size)
  go_wp2_with fail
  refine (rwiden_any d A3 n c3 l w3 hr3 hL.out hc3 hn hok).mono ?_
  rintro e w4 ⟨v2, rfl, hR, hb4⟩
  rw [HEE.out]
  obtain ⟨L, B1, B2, k1, k2, rfl, rfl, r1, r2, hLL⟩ := two_listsW HG.out hR
  have hb4' := hb3'.trans (hb4.mono hb3'.size)
  have hb24 := hb3.trans (hb4.mono hb3.size)
  have r1' := (r1.below hb24).more hb24.size
  rw [hL.out] at hLL
  have HLL := hidden hLL
  clear hR HG hb2 hb3 hb4 hr3 hb2' hb3' r1 hb24 hLL hr
  have t1 : (ee == ee) = true := by simp
  go_wp2_with fail
  refine (wakes_any _).mono ?_
  rintro e w5 ⟨rfl, hb5⟩
  go_wp2_with fail
  refine (alike_yes B1 B2 L.length k1 k2 L w5 ((r1'.below hb5).more hb5.size) ((r2.below hb5).more hb5.size) rfl (by have := HLL.out; omega)).mono ?_
  rintro e w6 ⟨rfl, hb6⟩
  go_wp2
  go_ret
  exact ⟨rfl, (hb4'.trans (hb5.mono hb4'.size)).trans (hb6.mono (hb4'.trans (hb5.mono hb4'.size)).size)⟩

theorem foldWidens_walk {H : Type} (enc : TypeId × Value → H) : LawWalk enc Try.prog 9 Try.f9 (fun _ => True) := by
  intro W base args ds p hval hA hlt hsz _
  rw [Try.params9] at hval hA hsz
  obtain ⟨v0, vs0, d0, ds0, p0, q0, hargs, rfl, rfl, h0, r0⟩ := trodAll_cons hA
  obtain ⟨v1, vs1, d1, ds1, p1, q1, rfl, rfl, rfl, h1, r1⟩ := trodAll_cons r0
  obtain ⟨rfl, rfl, rfl⟩ := trodAll_nil r1
  obtain rfl : args = #[v0, v1] := by cases args; simp_all
  obtain ⟨a0, rfl, rfl, rfl, w0⟩ := open_int Try.underlying2 (hval 0 2 v0 rfl rfl) h0
  obtain ⟨A, n, c, l, rfl, _, hl, hr, hok, hd⟩ := open_wins (hval 1 36 v1 rfl rfl) h1 (fun x hx => hlt x (by simp [hx]))
  have hreach := reach_of hsz (j := 1) rfl rfl Try.underlying36 hd
  rw [bytes_win] at hreach
  exact foldWidens_any a0 A n c l W hr hl hreach (fun s hs => (hok s hs).1)

namespace foldWidens
set_option maxRecDepth 100000 in
theorem lifted (os : Os) (started : os.Started) (H : Type) (enc : TypeId × Value → H) :
    ReturnsInHanded {} Try.checked os 9 .any (Rows.foldWidensSpec.pre6 enc Try.prog Try.f9 Rows.foldWidensRow.domain false) (Rows.foldWidensSpec.post enc Try.prog Try.f9 false true false false) :=
  law_said (C := Try.checked) (s := Rows.foldWidensSpec) (tb := 4) own_prog started (by kernel_rfl) Try.func9
    (ChangeSpec.witness6 (enc := enc) (C := Try.checked) false ⟨#[], #[.int .i64 0, .slice none 0 0], []⟩ 8 (by kernel_rfl) (by kernel_rfl) (by kernel_rfl) (by kernel_rfl))
    laidOut (by kernel_rfl) rfl Try.underlying4 ⟨rfl, fun H ds h => match ds, h with | [_, _], _ => ⟨rfl, rfl, rfl⟩⟩ (foldWidens_walk enc)

theorem proved : Rows.FoldWidensSaid :=
  OpenClaim.holds_of_wide 9 Try.f9 rfl rfl rfl rfl rfl rfl rfl ⟨rfl, rfl, rfl, rfl, rfl⟩ rfl rfl rfl rfl rfl (by kernel_rfl) Try.func9 (by kernel_rfl)
    (of_decide_eq_true (by kernel_rfl)) (by unfold Func.isWrapper; first | (rw [if_pos (by decide +kernel)]; kernel_rfl) | (rw [if_neg (by decide +kernel)]; exact ⟨rfl, rfl⟩))
    (fun os started H enc _ => lifted os started H enc)
#print axioms proved
end foldWidens
end Go.Proofs.Ytfcpphfiickpoaa
