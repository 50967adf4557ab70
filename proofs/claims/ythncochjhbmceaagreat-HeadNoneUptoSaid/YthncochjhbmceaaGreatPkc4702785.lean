/- (*post.list).seek, walked. (*post.Cursor).Seek, Next and Rest, walked: a cursor goes through its list. Condition: the list is within the reach. (*post.Cursor).Rest, walked: all numbers that are left, in memory of the call's own. Condition: the list is within the reach. slices.Clone at ints and at cursors: a copy of the call's own. Condition: the row is within the reach. post.Of, And, Or, Without: new cursors. Condition: the rows are within the reach. post.Or, Without, Of: new cursors. Condition: the rows are within the reach. -/
import Derived.Test.YthncochjhbmceaaGreatPk30e676bf
import Derived.Test.YthncochjhbmceaaGreatPk7874240e
import Derived.Test.YthncochjhbmceaaGreatPk56b5c2ce
import Derived.Sort.OwnSortedInts
import Derived.Lib.OwnBridge
import Derived.Lib.RowBridge
namespace Go.Proofs.YthncochjhbmceaaGreat
set_option maxRecDepth 100000
open Go.RowKit Go.Shelf

theorem drop_count : ∀ {E : List Int} (_ : rising E) (n : Int), E.drop (E.countP (fun x => decide (x < n))) = geL n E
  | [], _, _ => rfl
  | e :: E, h, n => by
    obtain ⟨h1, h2⟩ := List.pairwise_cons.1 h
    by_cases he : e < n
    · rw [List.countP_cons_of_pos (by simpa using he), List.drop_succ_cons, drop_count h2 n]
      have hen : ¬ n ≤ e := by omega
      simp [geL, hen]
    · have hz : (e :: E).countP (fun x => decide (x < n)) = 0 := by
        rw [List.countP_eq_zero]
        intro x hx
        rcases List.mem_cons.1 hx with rfl | hx
        · simpa using he
        · have := h1 x hx; simp; omega
      rw [hz, List.drop_zero]
      exact (geL_all fun x hx => by
        rcases List.mem_cons.1 hx with rfl | hx
        · omega
        · have := h1 x hx; omega).symm
theorem ints_at {w : World} {B n : Nat} {A : Option Addr} {E : List Int} (h : Row w B 1 A n (E.map (Value.int .i64))) (hn : 0 < n) : ∃ g o, A = some ⟨g, o, none⟩ ∧ g < B ∧ ∀ j, j < E.length → w.cell? ⟨g, o + j, none⟩ = some (.int .i64 (E.getD j 0)) := by
  obtain ⟨g, o, rfl, hg, hc⟩ := h.at_ hn
  have hl := h.len
  rw [List.length_map] at hl
  refine ⟨g, o, rfl, hg, fun j hj => ?_⟩
  rw [hc j (by omega), List.getElem?_map, List.getElem?_eq_getElem hj]
  simp [List.getD, List.getElem?_eq_getElem hj]

set_option maxHeartbeats 1600000 in
theorem list_seek : SeekOk IsList := by
  rintro w v E F n ⟨lb, A, m, c, rfl, h1, h2, h3, h4, h5, h6, h7, h8, h9⟩ hn
  refine ⟨_, _, 248, .pointer (some ⟨lb, 0, none⟩), rfl, fun w => by kernel_rfl, enters_of Tryz.func248 (by kernel_rfl) rfl, ?_⟩
  have hl := h2.len
  rw [List.length_map, Nat.mul_one] at hl
  have c0 := h1.cell 0
  rcases Nat.eq_zero_or_pos m with h0 | h0
  · subst h0
    obtain rfl : E = [] := List.eq_nil_of_length_eq_zero hl
    have S1 := slices_BinarySearch_int_empty A c n w
    go_enter Tryz.func248, Tryz.ntmps248
    go_wp2_with fail
    refine S1.mono ?_
    rintro e w1 ⟨rfl, rfl⟩
    have f0 := h1.free 0
    go_wp2_with fail
    go_ret2
    exact ⟨rfl, ⟨lb, A, 0, c, rfl, h1.put 0 _, Row.nil, Nat.zero_le _, by omega, fun h => absurd h (by omega), ⟨h6.1, fun k h => absurd h (by omega)⟩, h7, h8, fun k hb => by simpa using h9 k hb⟩, (Kp.refl F w1).put h6.1 0 _⟩
  · obtain ⟨g, o, rfl, hg, hc⟩ := ints_at h2 h0
    have S1 := slices_BinarySearch_int g o m c E n w (by omega) (by omega) hc (by rw [List.take_of_length_le (by omega)]; exact h7.imp fun h => by omega)
    rw [List.take_of_length_le (by omega)] at S1
    have HC := hidden hc
    have HN := hidden (drop_count h7 n)
    have hcl := List.countP_le_length (p := fun x => decide (x < n)) (l := E)
    obtain ⟨i, hi⟩ : ∃ i, E.countP (fun x => decide (x < n)) = i := ⟨_, rfl⟩
    rw [hi] at S1 HN hcl
    clear hc hi
    go_enter Tryz.func248, Tryz.ntmps248
    go_wp2_with fail
    refine S1.mono ?_
    rintro e w1 ⟨rfl, q, rfl⟩
    have f0 := h1.free 0
    have HK : ∀ u, Kp F w ((w.drewN q).setCell ⟨lb, 0, none⟩ u) := fun u => ((Kp.refl F w).drewN q).put h6.1 0 u
    have HW : ∀ u, Whole1 ((w.drewN q).setCell ⟨lb, 0, none⟩ u) lb 302 #[u] := fun u => (h1.drewN q).put 0 u
    have HG := hidden (fun (u : Value) (k : Nat) (hb : F k) => show k < ((w.drewN q).setCell ⟨lb, 0, none⟩ u).heap.size from by simpa using h9 k hb)
    have hlg : lb ≠ g := fun e => h5 h0 ⟨o, by rw [e]⟩
    have i0 : (0 : Int) ≤ (i : Int) := by omega
    have i1 : (i : Int) ≤ (m : Int) := by omega
    have hr : rising (geL n E) := rising_geL h7 n
    have hrI : ∀ x ∈ geL n E, inI x := fun x hx => h8 x (mem_geL.1 hx).1
    by_cases him : i = m
    · have hE0 : geL n E = [] := by rw [← HN.out]; exact List.drop_of_length_le (by omega)
      have HE := hidden hE0
      subst him
      have HFL := hidden h6.1
      have HK2 := hidden HK
      have HW2 := hidden HW
      clear HK HW h6 h5 hr hrI hE0
      by_cases hcm : c = i
      · subst hcm
        go_wp2_with fail
        go_ret2
        rw [HE.out]
        exact ⟨rfl, ⟨lb, some ⟨g, o, none⟩, 0, 0, rfl, by simpa using HW2.out _, Row.nil, Nat.zero_le _, by omega, fun h => absurd h (by omega), ⟨HFL.out, fun k h => absurd h (by omega)⟩, List.Pairwise.nil, by simp, HG.out _⟩, HK2.out _⟩
      · have hci : ¬ c - i = 0 := by omega
        go_wp2_with fail
        go_ret2
        rw [HE.out]
        exact ⟨rfl, ⟨lb, some ⟨g, o + i, none⟩, 0, c - i, rfl, by simpa using HW2.out _, Row.nil, Nat.zero_le _, by omega, fun h => absurd h (by omega), ⟨HFL.out, fun k h => absurd h (by omega)⟩, List.Pairwise.nil, by simp, HG.out _⟩, by simpa using HK2.out _⟩
    · have hci : ¬ c - i = 0 := by omega
      have hil : i < E.length := by omega
      have ci : (w.drewN q).cell? ⟨g, o + i, none⟩ = some (.int .i64 (E.getD i 0)) := HC.out i hil
      have hcut := h2.cut (i := i) (k := m) (by omega) (Nat.le_refl _)
      have HCut := hidden hcut
      have HK2 := hidden HK
      have HW2 := hidden HW
      have hF2 : F lb ∧ ∀ k, 0 < m - i → blockOf (some ⟨g, o + i, none⟩) k → F k := ⟨h6.1, fun k _ ⟨o3, e⟩ => by
        simp only [Option.some.injEq, Addr.mk.injEq] at e
        exact h6.2 k h0 ⟨o, by rw [e.1]⟩⟩
      have hb2 : ¬ blockOf (some ⟨g, o + i, none⟩) lb := fun ⟨o3, e⟩ => by
        simp only [Option.some.injEq, Addr.mk.injEq] at e; exact hlg e.1.symm
      have HF2 := hidden hF2
      have HB2 := hidden hb2
      have HRr := hidden hr
      have HRI := hidden hrI
      have hx : Hid (geL n E = E.getD i 0 :: (geL n E).tail) := by
        have : E.drop i = E.getD i 0 :: E.drop (i + 1) := by rw [List.drop_eq_getElem_cons hil]; simp [List.getD, List.getElem?_eq_getElem hil]
        rw [Hid, ← HN.out, this]; rfl
      have hmi : ¬ m - i = 0 := by omega
      have hmi2 : 0 < m - i := by omega
      generalize E.getD i 0 = x at ci hx
      clear HK HW hF2 hb2 h6 h5 hr hrI hcut
      go_wp2_with fail
      go_ret2
      have hk := HK2.out (.slice (some ⟨g, o + i, none⟩) (m - i) (c - i))
      refine ⟨(congrArg ansL hx.out).symm, ⟨lb, some ⟨g, o + i, none⟩, m - i, c - i, rfl, HW2.out _, ?_, by omega, by omega, fun _ => HB2.out, HF2.out, HRr.out, HRI.out, HG.out _⟩, hk⟩
      have e1 : (geL n E).map (Value.int .i64) = ((E.map (Value.int .i64)).drop (i * 1)).take ((m - i) * 1) := by
        rw [← HN.out, Nat.mul_one, Nat.mul_one, ← List.map_drop, List.take_of_length_le (by rw [List.length_map, List.length_drop]; omega)]
      rw [e1]
      have h9 := HCut.out
      rw [show (some (⟨g, o, none⟩ : Addr)).map (fun a => (⟨a.block, a.off + i * 1, a.spot⟩ : Addr)) = some ⟨g, o + i, none⟩ by simp] at h9
      exact h9.keep1 hk.size fun _ g2 o2 e => by
        simp only [Option.some.injEq, Addr.mk.injEq] at e
        obtain ⟨rfl, _⟩ := e
        exact Below.heap_setCell (w.drewN q) ⟨lb, 0, none⟩ _ g (fun e => hlg e.symm)
end Go.Proofs.YthncochjhbmceaaGreat

namespace Go.Proofs.YthncochjhbmceaaGreat
set_option maxRecDepth 100000
open Go.RowKit Go.Shelf

theorem seek_src : ∀ d, SeekOk (IsSrc d)
  | 0 => list_seek
  | d + 1 => by
    have hP := peek_of (src_frame d) (seek_src d)
    have hA := and_seek (src_frame d) (src_old d) (src_rise d) hP
    have hO := or_seek (src_frame d) (src_old d) (src_rise d) hP
    have hW := wo_seek (src_frame d) (src_old d) (src_rise d) hP
    rintro w v E F n (h | h | h | h) hn
    · obtain ⟨tid, x, f, y, e, q1, q2, q3⟩ := list_seek w v E F n h hn
      exact ⟨tid, x, f, y, e, q1, q2, q3.mono fun e w' ⟨g1, g2, g3⟩ => ⟨g1, .inl g2, g3⟩⟩
    · obtain ⟨tid, x, f, y, e, q1, q2, q3⟩ := hA w v E F n h hn
      exact ⟨tid, x, f, y, e, q1, q2, q3.mono fun e w' ⟨g1, g2, g3⟩ => ⟨g1, .inr (.inl g2), g3⟩⟩
    · obtain ⟨tid, x, f, y, e, q1, q2, q3⟩ := hO w v E F n h hn
      exact ⟨tid, x, f, y, e, q1, q2, q3.mono fun e w' ⟨g1, g2, g3⟩ => ⟨g1, .inr (.inr (.inl g2)), g3⟩⟩
    · obtain ⟨tid, x, f, y, e, q1, q2, q3⟩ := hW w v E F n h hn
      exact ⟨tid, x, f, y, e, q1, q2, q3.mono fun e w' ⟨g1, g2, g3⟩ => ⟨g1, .inr (.inr (.inr g2)), g3⟩⟩
theorem peek_src (d : Nat) : PeekOk (IsSrc d) := peek_of (src_frame d) (seek_src d)
/-- a cursor over a list -/
def IsCur : Src := fun w p E F => ∃ d, CurOf (IsSrc d) w p E F
theorem isCur_frame : FrameOk IsCur := fun _ _ _ _ _ ⟨d, h⟩ hs hk => ⟨d, cur_frame (src_frame d) _ _ _ _ _ h hs hk⟩
theorem isCur_rise : RiseOk IsCur := fun _ _ _ _ ⟨d, h⟩ => cur_rise (src_rise d) _ _ _ _ h
theorem isCur_old : OldOk IsCur := fun _ _ _ _ ⟨d, h⟩ => cur_old (src_old d) _ _ _ _ h
theorem gone_past {E : List Int} (hE : rising E) {fr x : Int} {r : List Int} (h : geL fr E = x :: r) : geL (x + 1) E = r := by
  have hr := rising_geL hE fr
  rw [h] at hr
  obtain ⟨h1, h2⟩ := List.pairwise_cons.1 hr
  refine rising_ext (rising_geL hE _) h2 fun z => ?_
  have hx := mem_geL.1 (show x ∈ geL fr E by rw [h]; simp)
  rw [mem_geL]
  constructor
  · rintro ⟨z1, z2⟩
    have : z ∈ geL fr E := mem_geL.2 ⟨z1, by omega⟩
    rw [h] at this
    rcases List.mem_cons.1 this with e | e
    · omega
    · exact e
  · intro hz
    have := h1 z hz
    have hm := mem_geL.1 (show z ∈ geL fr E by rw [h]; simp [hz])
    exact ⟨hm.1, by omega⟩

set_option maxHeartbeats 1600000 in
theorem seek_cur (p : Value) (E : List Int) (F : Nat → Prop) (n : Int) (w : World) (h : IsCur w p E F) (hn : inI n) :
    Calls Tryz.prog 166 #[p, .int .i64 n] w fun e w' => e = ansL (geL n E) ∧ IsCur w' p (geL n E).tail F ∧ Kp F w w' := by
  obtain ⟨d, h⟩ := h
  have hri := cur_rise (src_rise d) _ _ _ _ h
  have HI := hidden (fun x (hx : x ∈ geL n E) => hri.2 x (mem_geL.1 hx).1)
  have HRr := hidden (rising_geL hri.1 n)
  have HS := hidden (peek_src d w p E F n h hn)
  clear h hri
  generalize geL n E = L at *
  cases L with
  | nil =>
    go_enter Tryz.func166, Tryz.ntmps166
    go_wp2_with fail
    refine HS.out.mono ?_
    rintro e w1 ⟨he, hc, hk⟩
    obtain rfl : e = .returned (.tuple #[.int .i64 0, .bool false]) := he
    rcases hc with ⟨rfl, _, h0⟩ | ⟨b, v, fr, dn, E0, F0, rfl, h1, h2, h3, h4, h5, h6⟩
    · have HK := hidden hk
      go_wp2_with fail
      go_ret2
      exact ⟨rfl, ⟨d, .inl ⟨rfl, rfl, h0⟩⟩, HK.out⟩
    · have f0 := h1.free 2
      have c2 := h1.cell 2
      have HW := hidden (h1.put 2 (.bool true))
      have HK := hidden (hk.put ((h5 b).2 (.inl rfl)) 2 (.bool true))
      have H3 := hidden (src_frame d _ (w1.setCell ⟨b, 2, none⟩ (.bool true)) _ _ _ h3 (by simp) fun k hk' => Below.heap_setCell w1 ⟨b, 2, none⟩ _ k fun e => h2 (by rw [show b = k from e.symm]; exact hk'))
      clear hk h3 h6
      go_wp2_with fail
      go_ret2
      exact ⟨rfl, ⟨d, .inr ⟨b, v, fr, true, E0, F0, rfl, HW.out, h2, H3.out, h4, h5, rfl⟩⟩, HK.out⟩
  | cons x r =>
    have hxI := HI.out x (by simp)
    go_enter Tryz.func166, Tryz.ntmps166
    go_wp2_with fail
    refine HS.out.mono ?_
    rintro e w1 ⟨he, hc, hk⟩
    obtain rfl : e = .returned (.tuple #[.int .i64 x, .bool true]) := he
    rcases hc with ⟨_, h0, _⟩ | ⟨b, v, fr, dn, E0, F0, rfl, h1, h2, h3, h4, h5, h6⟩
    · exact absurd h0 (by simp)
    · cases dn with
      | true => simp at h6
      | false =>
        simp only [Bool.false_eq_true, if_false] at h6
        have hE0 := (src_rise d _ _ _ _ h3).1
        by_cases hmx : x = 9223372036854775807
        · have hr0 : Hid (r = []) := List.eq_nil_iff_forall_not_mem.2 fun z hz => by
            have := (List.pairwise_cons.1 HRr.out).1 z hz
            have := (HI.out z (by simp [hz])).2
            omega
          have hmb : (x == 9223372036854775807) = true := by simpa using hmx
          have f0 := h1.free 2
          have c2 := h1.cell 2
          have HW := hidden (h1.put 2 (.bool true))
          have HK := hidden (hk.put ((h5 b).2 (.inl rfl)) 2 (.bool true))
          have H3 := hidden (src_frame d _ (w1.setCell ⟨b, 2, none⟩ (.bool true)) _ _ _ h3 (by simp) fun k hk' => Below.heap_setCell w1 ⟨b, 2, none⟩ _ k fun e => h2 (by rw [show b = k from e.symm]; exact hk'))
          clear hk h3 h6 hmx
          go_wp2_with fail
          go_ret2
          refine ⟨rfl, ⟨d, .inr ⟨b, v, fr, true, E0, F0, rfl, HW.out, h2, H3.out, h4, h5, ?_⟩⟩, HK.out⟩
          simpa using hr0.out
        · have hg := hidden (gone_past hE0 h6.symm)
          have f0 := h1.free 1
          have c1 := h1.cell 1
          have HW := hidden (h1.put 1 (.int .i64 (x + 1)))
          have HK := hidden (hk.put ((h5 b).2 (.inl rfl)) 1 (.int .i64 (x + 1)))
          have H3 := hidden (src_frame d _ (w1.setCell ⟨b, 1, none⟩ (.int .i64 (x + 1))) _ _ _ h3 (by simp) fun k hk' => Below.heap_setCell w1 ⟨b, 1, none⟩ _ k fun e => h2 (by rw [show b = k from e.symm]; exact hk'))
          have hx0 := hxI.1
          have hx1 := hxI.2
          clear hk h3 h6
          go_wp2_with fail
          go_ret2
          refine ⟨rfl, ⟨d, .inr ⟨b, v, x + 1, false, E0, F0, rfl, HW.out, h2, H3.out, ⟨by omega, by omega⟩, h5, ?_⟩⟩, HK.out⟩
          simpa using hg.out.symm

theorem next_cur (p : Value) (E : List Int) (F : Nat → Prop) (w : World) (h : IsCur w p E F) :
    Calls Tryz.prog 128 #[p] w fun e w' => e = ansL E ∧ IsCur w' p E.tail F ∧ Kp F w w' := by
  have hri := isCur_rise _ _ _ _ h
  have S1 := seek_cur p E F (-9223372036854775808) w h (by unfold inI; decide)
  rw [geL_all fun x hx => (hri.2 x hx).1] at S1
  have HS := hidden S1
  clear S1 hri
  obtain ⟨a, ok, hans⟩ := ansL_two (L := E)
  rw [hans] at HS ⊢
  go_enter Tryz.func128, Tryz.ntmps128
  go_wp2_with fail
  refine HS.out.mono ?_
  rintro e w1 ⟨rfl, h1, h2⟩
  go_wp2_with fail
  go_ret2
  exact ⟨rfl, h1, h2⟩
end Go.Proofs.YthncochjhbmceaaGreat

namespace Go.Proofs.YthncochjhbmceaaGreat
set_option maxRecDepth 100000
open Go.RowKit Go.Shelf

def lenV : Value → Nat
  | .slice _ n _ => n
  | _ => 0
theorem info_int : (Tryz.prog.info? 3).map (fun i => (i.zero, i.size, i.bytes)) = some (some (.int .i64 0), 1, 8) := by kernel_rfl
theorem own_kp {w w' : World} {base : Nat} {e : TypeId} {size n : Nat} {v : Value} {xs : List Value} {F : Nat → Prop} (h : w.ownsRow base e size v n xs) (hk : Kp F w w') (hF : ∀ k, F k → k < base) : w'.ownsRow base e size v n xs := by
  refine ⟨h.1, ?_⟩
  rcases h.2 with h0 | ⟨g, cap, cur, h1, h2, h3, h4⟩
  · exact .inl h0
  · refine .inr ⟨g, cap, cur, h1, h2, ?_, h4⟩
    have hlt : g < w.heap.size := (Array.getElem?_eq_some_iff.1 h3).1
    exact (hk.block g hlt fun h => by have := hF g h; omega).trans h3
theorem kp_grown {F : Nat → Prop} {a w w' : World} {row : Option Nat} (h : Kp F a w) (k : w.grownBy w' row) (hr : ∀ g, row = some g → a.heap.size ≤ g) : Kp F a w' :=
  ⟨k.os.trans h.os, k.tape.trans h.tape, k.output.trans h.output, Nat.le_trans h.size k.size, fun i hi hn => (k.block i (Nat.lt_of_lt_of_le hi h.size) fun e => by have := hr i e.symm; omega).trans (h.block i hi hn)⟩

set_option maxHeartbeats 1600000 in
theorem rest_cur (p : Value) (E : List Int) (F : Nat → Prop) (w : World) (h : IsCur w p E F) (hl : E.length * 8 ≤ 140737488355328) :
    Calls Tryz.prog 82 #[p] w fun e w' => ∃ v, e = .returned v ∧ w'.ownsRow w.heap.size 3 1 v E.length (E.map (Value.int .i64)) ∧ IsCur w' p [] F ∧ Kp F w w' := by
  obtain ⟨i0, hi, hz0, hz1, hz2⟩ := info_parts info_int
  have HO := hidden (isCur_old _ _ _ _ h)
  have HS := hidden (next_cur p E F w h)
  clear h
  go_enter Tryz.func82, Tryz.ntmps82
  obtain ⟨a, ok, hans⟩ := ansL_two (L := E)
  have HA := hidden hans
  rw [hans] at HS
  clear hans
  go_wp2_with fail
  refine HS.out.mono ?_
  rintro e w1 ⟨rfl, hc, hk⟩
  have HC := hidden hc
  have HK := hidden hk
  clear hc hk HS
  go_wp2_with fail
  go_loopw [3, 4, 5] (fun vo vx vk wr => ∃ (D R : List Int) (v : Value) (x : Int) (ok : Bool), v = vo ∧ vx = .int .i64 x ∧ vk = .bool ok ∧ Hid (E = D ++ R) ∧ Hid (ansL R = .returned (.tuple #[.int .i64 x, .bool ok])) ∧ wr.ownsRow w.heap.size 3 1 v D.length (D.map (Value.int .i64)) ∧ IsCur wr p R.tail F ∧ Kp F w wr ∧ E.length - D.length = R.length ∧ D.length ≤ E.length) (fun vo _ _ _ => E.length - lenV vo)
  case atStart => exact ⟨[], E, _, a, ok, rfl, rfl, rfl, rfl, HA, World.ownsRow_nil _ _ _ _, HC.out, HK.out, by simp, by simp⟩
  case round =>
    clear HA HC HK
    obtain ⟨D, R, v, x, ok, rfl, rfl, rfl, hE, hA, hown, hc, hk, hlen, hle⟩ := hrel
    cases R with
    | nil =>
      simp only [ansL, Ending.returned.injEq, Value.tuple.injEq, Array.mk.injEq, List.cons.injEq, Value.int.injEq, Value.bool.injEq, true_and, and_true] at hA
      obtain ⟨rfl, rfl⟩ := hA.out
      have HE := hidden (show E = D by rw [hE.out]; simp)
      have HC := hidden hc
      have HK := hidden hk
      have HW := hidden hown
      clear hE hA hc hk hown
      go_wp2_with fail
      go_ret
      rw [HE.out]
      exact ⟨_, rfl, HW.out, HC.out, HK.out⟩
    | cons y r =>
      have hya : Value.int .i64 y = .int .i64 x ∧ Value.bool true = .bool ok := by
        have := hA.out
        simp only [ansL, Ending.returned.injEq, Value.tuple.injEq, Array.mk.injEq, List.cons.injEq, and_true] at this
        exact this
      simp only [Value.int.injEq, Value.bool.injEq, true_and] at hya
      obtain ⟨rfl, rfl⟩ := hya
      have hbs := hk.size
      have HKP := hidden hk
      have HC := hidden hc
      have hlE : D.length + 1 ≤ E.length := by simp at hlen; omega
      have hE2 := hidden (show E = (D ++ [y]) ++ r by rw [hE.out]; simp)
      obtain ⟨A4, c4, rfl, _, _⟩ := own_shape hown
      clear hA hE hk hc
      have hfr := Row.fresh wr 3 1 1 [.int .i64 y] rfl
      go_wp2_with (at_builtin; refine wpList_app _ rfl _ _ 127 rfl w.heap.size 3 i0 _ 1 8 Tryz.underlying127 hi hz0 hz1 hz2 rfl (by decide) _ _ _ rfl (hown.alloc _) _ _ _ _ _ rfl hfr (by simp [Value.oneCell']) (by unfold maxLen; omega) (by omega) (by simp; omega) ?_; intro v1 w3 hown3 hg3 hat3)
      have hcs : D.map (Value.int .i64) ++ [.int .i64 y] = (D ++ [y]).map (Value.int .i64) := by simp
      rw [hcs] at hown3
      have hk3 : Kp F w w3 := kp_grown (HKP.out.alloc _) hg3 (fun g hg => (hown.lt g hg).1)
      have hc3 : IsCur w3 p r F := isCur_frame _ _ _ _ _ HC.out (by have := hg3.size; simp at this; omega) fun k hk' => by
        have h1 := HO.out k hk'
        exact (hg3.block k (by simp; omega) fun e => by have := (hown.lt k e.symm).1; omega).trans (Below.heap_alloc wr _ k (by omega))
      obtain ⟨A5, c5, rfl, _, _⟩ := own_shape hown3
      have S2 := next_cur p r F w3 hc3
      obtain ⟨a2, ok2, hans2⟩ := ansL_two (L := r)
      have HA2 := hidden hans2
      rw [hans2] at S2
      have HS2 := hidden S2
      have HW3 := hidden hown3
      have HK3 := hidden hk3
      clear S2 hans2 hown hown3 hg3 hat3 hcs hfr hk3 hc3
      go_wp2_with fail
      refine HS2.out.mono ?_
      rintro e w4 ⟨rfl, hc4, hk4⟩
      have hown4 := own_kp HW3.out hk4 HO.out
      have HK4 := hidden (HK3.out.trans hk4)
      have HC4 := hidden hc4
      have HW4 := hidden hown4
      clear hc4 hk4 hown4 HS2
      go_wp2_with fail
      go_roundw
      case rel => exact ⟨D ++ [y], r, _, a2, ok2, rfl, rfl, rfl, hE2, HA2, by rw [List.length_append]; exact HW4.out, HC4.out, HK4.out, by simp at hlen ⊢; omega, by simp; omega⟩
      case measure => simp only [lenV]; omega
end Go.Proofs.YthncochjhbmceaaGreat

namespace Go.Proofs.YthncochjhbmceaaGreat
set_option maxRecDepth 100000
open Go.RowKit Go.Shelf

theorem infoInt : (Tryz.prog.info? 3).map (fun i => (i.zero, i.size, i.bytes)) = some (some (.int .i64 0), 1, 8) := by kernel_rfl
set_option maxHeartbeats 1600000 in
theorem cloneInt (A : Option Addr) (n c : Nat) (xs : List Value) (w : World) (hr : Row w w.heap.size 1 A n xs) (h1c : ∀ u ∈ xs, u.oneCell' = true) (hn : n * 8 ≤ 140737488351232) :
    Calls Tryz.prog 163 #[.slice A n c] w fun e w' => ∃ A' c', e = .returned (.slice A' n c') ∧ n ≤ c' ∧ Row w' w'.heap.size 1 A' n xs ∧ Below w.heap.size w w' ∧ (0 < n → w'.ownsRow w.heap.size 3 1 (.slice A' n c') n xs) := by
  obtain ⟨i0, hi, hz0, hz1, hz2⟩ := info_parts infoInt
  have hL := hr.len
  rw [Nat.mul_one] at hL
  have HL := hidden hL
  clear hL
  cases A with
  | none =>
    have hn0 : n = 0 := by
      rcases Nat.eq_zero_or_pos n with h | h
      · exact h
      · obtain ⟨_, _, h', _⟩ := hr.at_ h
        cases h'
    subst hn0
    have h1 := fun w : World => Lib.run_eql_slice_nil (P := Tryz.prog) w 127 3 none 0 c 0 0 Tryz.underlying127
    go_enter Tryz.func163, Tryz.ntmps163
    go_wp2
    go_ret
    exact ⟨none, 0, rfl, Nat.le_refl _, hr, Below.refl _ _, fun h => absurd h (by omega)⟩
  | some a =>
    have h1 := fun w : World => Lib.run_eql_slice_nil (P := Tryz.prog) w 127 3 (some a) n c 0 0 Tryz.underlying127
    go_enter Tryz.func163, Tryz.ntmps163
    go_wp2_with (at_builtin; refine wpList_clone _ rfl _ _ 127 rfl 3 i0 _ 1 8 Tryz.underlying127 hi hz0 hz1 hz2 rfl (by decide) _ rfl w.heap.size _ _ _ _ rfl (hr.alloc (Nat.le_refl _) _) h1c (by unfold maxLen; omega) (by omega) ?_; intro v1 w1 hg1 hown1)
    go_ret
    have hb1 : Below w.heap.size w w1 := ((Below.refl _ _).alloc (Nat.le_refl _) _).grown hg1 (by simp) (fun j hj => by cases hj)
    rcases hown1 with ⟨rfl, rfl⟩ | hown1
    · have hl0 : xs = [] := List.eq_nil_of_length_eq_zero HL.out
      subst hl0
      exact ⟨_, 0, rfl, Nat.le_refl _, Row.nil, hb1, fun h => absurd h (by omega)⟩
    · obtain ⟨A1, c1, rfl, hc1, hr1⟩ := own_shape hown1
      exact ⟨A1, c1, rfl, hc1, hr1, hb1, fun _ => ⟨hown1.1, hown1.2.imp id fun ⟨g, cap, cur, h1, h2, h3⟩ => ⟨g, cap, cur, h1, by simp at h2; omega, h3⟩⟩⟩

theorem infoPtr : (Tryz.prog.info? 208).map (fun i => (i.zero, i.size, i.bytes)) = some (some (.pointer none), 1, 8) := by kernel_rfl
set_option maxHeartbeats 1600000 in
theorem clonePtr (A : Option Addr) (n c : Nat) (xs : List Value) (w : World) (hr : Row w w.heap.size 1 A n xs) (h1c : ∀ u ∈ xs, u.oneCell' = true) (hn : n * 8 ≤ 140737488351232) :
    Calls Tryz.prog 127 #[.slice A n c] w fun e w' => ∃ A' c', e = .returned (.slice A' n c') ∧ n ≤ c' ∧ Row w' w'.heap.size 1 A' n xs ∧ Below w.heap.size w w' ∧ (0 < n → w'.ownsRow w.heap.size 208 1 (.slice A' n c') n xs) := by
  obtain ⟨i0, hi, hz0, hz1, hz2⟩ := info_parts infoPtr
  have hL := hr.len
  rw [Nat.mul_one] at hL
  have HL := hidden hL
  clear hL
  cases A with
  | none =>
    have hn0 : n = 0 := by
      rcases Nat.eq_zero_or_pos n with h | h
      · exact h
      · obtain ⟨_, _, h', _⟩ := hr.at_ h
        cases h'
    subst hn0
    have h1 := fun w : World => Lib.run_eql_slice_nil (P := Tryz.prog) w 210 208 none 0 c 0 0 Tryz.underlying210
    go_enter Tryz.func127, Tryz.ntmps127
    go_wp2
    go_ret
    exact ⟨none, 0, rfl, Nat.le_refl _, hr, Below.refl _ _, fun h => absurd h (by omega)⟩
  | some a =>
    have h1 := fun w : World => Lib.run_eql_slice_nil (P := Tryz.prog) w 210 208 (some a) n c 0 0 Tryz.underlying210
    go_enter Tryz.func127, Tryz.ntmps127
    go_wp2_with (at_builtin; refine wpList_clone _ rfl _ _ 210 rfl 208 i0 _ 1 8 Tryz.underlying210 hi hz0 hz1 hz2 rfl (by decide) _ rfl w.heap.size _ _ _ _ rfl (hr.alloc (Nat.le_refl _) _) h1c (by unfold maxLen; omega) (by omega) ?_; intro v1 w1 hg1 hown1)
    go_ret
    have hb1 : Below w.heap.size w w1 := ((Below.refl _ _).alloc (Nat.le_refl _) _).grown hg1 (by simp) (fun j hj => by cases hj)
    rcases hown1 with ⟨rfl, rfl⟩ | hown1
    · have hl0 : xs = [] := List.eq_nil_of_length_eq_zero HL.out
      subst hl0
      exact ⟨_, 0, rfl, Nat.le_refl _, Row.nil, hb1, fun h => absurd h (by omega)⟩
    · obtain ⟨A1, c1, rfl, hc1, hr1⟩ := own_shape hown1
      exact ⟨A1, c1, rfl, hc1, hr1, hb1, fun _ => ⟨hown1.1, hown1.2.imp id fun ⟨g, cap, cur, h1, h2, h3⟩ => ⟨g, cap, cur, h1, by simp at h2; omega, h3⟩⟩⟩
end Go.Proofs.YthncochjhbmceaaGreat

namespace Go.Proofs.YthncochjhbmceaaGreat
set_option maxRecDepth 100000
open Go.RowKit Go.Shelf

theorem compact_step {zs : List Int} (hs : zs.Pairwise (· ≤ ·)) : ∀ m, m ≤ zs.length → rising (Lib.compactUpTo zs.toArray m) ∧ ∀ x, x ∈ Lib.compactUpTo zs.toArray m ↔ x ∈ zs.take m
  | 0, _ => ⟨List.Pairwise.nil, by simp [Lib.compactUpTo]⟩
  | m + 1, hm => by
    obtain ⟨h1, h2⟩ := compact_step hs m (by omega)
    have hz : zs[m]? = some (zs[m]'(by omega)) := List.getElem?_eq_getElem _
    have hd : zs.toArray[m]! = zs[m]'(by omega) := by rw [getElem!_pos zs.toArray m (by simp; omega)]; simp
    rw [Lib.compactUpTo_succ, take_snoc? hz]
    by_cases hk : Lib.keeps zs.toArray m = true
    · rw [if_pos hk, hd]
      refine ⟨?_, fun x => by rw [List.mem_append, List.mem_append, h2 x]⟩
      unfold rising
      rw [List.pairwise_append]
      refine ⟨h1, by simp, fun a ha b hb => ?_⟩
      rw [List.mem_singleton.1 hb]
      have ha2 := (h2 a).1 ha
      obtain ⟨i, hi⟩ := List.mem_iff_getElem?.1 ha2
      have him : i < m := by
        have := (List.getElem?_eq_some_iff.1 hi).1
        rw [List.length_take] at this; omega
      rw [List.getElem?_take_of_lt him] at hi
      obtain ⟨hil, hie⟩ := List.getElem?_eq_some_iff.1 hi
      have hne : zs.toArray[m]! ≠ zs.toArray[m - 1]! := by
        intro e
        rw [Lib.keeps_neg (by omega) e] at hk
        cases hk
      have hd1 : zs.toArray[m - 1]! = zs[m - 1]'(by omega) := by rw [getElem!_pos zs.toArray (m - 1) (by simp; omega)]; simp
      rw [hd, hd1] at hne
      have hp := List.pairwise_iff_getElem.1 hs
      have l1 : zs[m - 1]'(by omega) ≤ zs[m]'(by omega) := hp (m - 1) m (by omega) (by omega) (by omega)
      have l2 : a ≤ zs[m - 1]'(by omega) := by
        rw [← hie]
        rcases Nat.lt_or_ge i (m - 1) with h | h
        · exact hp i (m - 1) hil (by omega) h
        · have : i = m - 1 := by omega
          subst this; exact Int.le_refl _
      omega
    · rw [if_neg hk, List.append_nil]
      refine ⟨h1, fun x => ?_⟩
      rw [h2 x, List.mem_append, List.mem_singleton]
      refine ⟨.inl, fun h => h.elim id fun e => ?_⟩
      have hm0 : m ≠ 0 := fun e => hk (by simp [Lib.keeps, e])
      have heq : zs.toArray[m]! = zs.toArray[m - 1]! := by
        apply Classical.byContradiction
        intro h
        exact hk (Lib.keeps_pos h)
      have hd1 : zs.toArray[m - 1]! = zs[m - 1]'(by omega) := by rw [getElem!_pos zs.toArray (m - 1) (by simp; omega)]; simp
      rw [hd, hd1] at heq
      rw [e, heq]
      exact List.mem_of_getElem? (i := m - 1) (by rw [List.getElem?_take_of_lt (by omega)]; exact List.getElem?_eq_getElem _)
theorem compact_sorted {zs : List Int} (hs : zs.Pairwise (· ≤ ·)) : rising (Lib.compact zs) ∧ ∀ x, x ∈ Lib.compact zs ↔ x ∈ zs := by
  have := compact_step hs zs.length (Nat.le_refl _)
  rw [List.take_length] at this
  exact this
/-- a new cursor: its list as Q says, its blocks new but for those that G names -/
def NewCur (w : World) (G : Nat → Prop) (Q : List Int → Prop) (e : Ending) (w' : World) : Prop := ∃ p E F, e = .returned p ∧ IsCur w' p E F ∧ Q E ∧ (∀ k, F k → w.heap.size ≤ k ∨ G k) ∧ Below w.heap.size w w'
theorem src_iface : ∀ {d : Nat} {w : World} {v : Value} {E : List Int} {F : Nat → Prop}, IsSrc d w v E F → ∃ tid x, v = .iface tid x
  | 0, _, _, _, _, ⟨_, _, _, _, e, _⟩ => ⟨_, _, e⟩
  | _ + 1, _, _, _, _, .inl ⟨_, _, _, _, e, _⟩ => ⟨_, _, e⟩
  | _ + 1, _, _, _, _, .inr (.inl ⟨_, _, _, _, e, _⟩) => ⟨_, _, e⟩
  | _ + 1, _, _, _, _, .inr (.inr (.inl ⟨_, _, _, _, e, _⟩)) => ⟨_, _, e⟩
  | _ + 1, _, _, _, _, .inr (.inr (.inr ⟨_, _, e, _⟩)) => ⟨_, _, e⟩
theorem over_any (d : Nat) (v : Value) (E : List Int) (F : Nat → Prop) (w : World) (h : IsSrc d w v E F) :
    Calls Tryz.prog 126 #[v] w (NewCur w F (· = E)) := by
  have hr := src_rise d _ _ _ _ h
  have ho := src_old d _ _ _ _ h
  obtain ⟨tid, x, rfl⟩ := src_iface h
  go_enter Tryz.func126, Tryz.ntmps126
  go_wp2_with fail
  go_ret
  have hX := Whole1.new w 309 #[.iface tid x, .int .i64 (-9223372036854775808), .bool false]
  have hB : Below w.heap.size w (w.alloc (.cells #[.iface tid x, .int .i64 (-9223372036854775808), .bool false] 309)) := (Below.refl _ _).alloc (Nat.le_refl _) _
  refine ⟨_, E, fun k => k = w.heap.size ∨ F k, rfl, ⟨d, .inr ⟨w.heap.size, .iface tid x, -9223372036854775808, false, E, F, rfl, hX, fun h => by have := ho _ h; omega, ?_, by unfold inI; decide, fun _ => Iff.rfl, ?_⟩⟩, rfl, fun k hk => hk.imp (fun e => by omega) id, hB⟩
  · exact src_frame d _ _ _ _ _ h hB.size fun k hk => hB.block k (ho k hk)
  · simp only [Bool.false_eq_true, if_false]
    exact (geL_all fun x hx => (hr.2 x hx).1).symm

theorem union_exists : ∀ L : List Int, ∃ E, rising E ∧ ∀ x, x ∈ E ↔ x ∈ L := fun L => by
  have hs : (L.mergeSort fun a b => decide (a ≤ b)).Pairwise (· ≤ ·) := by
    have := List.pairwise_mergeSort (le := fun a b : Int => decide (a ≤ b)) (fun a b c h1 h2 => by simp at *; omega) (fun a b => by simp; omega) L
    exact this.imp fun h => by simpa using h
  obtain ⟨h1, h2⟩ := compact_sorted hs
  exact ⟨_, h1, fun x => by rw [h2 x]; exact (List.mergeSort_perm L _).mem_iff⟩
theorem kids_depth {w : World} : ∀ (cs : List Kid), (∀ x ∈ cs, IsCur w x.p x.E x.F) → ∃ d, ∀ x ∈ cs, CurOf (IsSrc d) w x.p x.E x.F
  | [], _ => ⟨0, by simp⟩
  | c :: cs, h => by
    obtain ⟨d1, h1⟩ := h c (by simp)
    obtain ⟨d2, h2⟩ := kids_depth cs fun x hx => h x (by simp [hx])
    refine ⟨max d1 d2, fun x hx => ?_⟩
    rcases List.mem_cons.1 hx with rfl | hx
    · exact cur_mono (fun _ _ _ _ hs => src_le (Nat.le_max_left _ _) hs) _ _ _ _ h1
    · exact cur_mono (fun _ _ _ _ hs => src_le (Nat.le_max_right _ _) hs) _ _ _ _ (h2 x hx)
/-- kids handed over in a row -/
structure KidRow (w : World) (A : Option Addr) (n : Nat) (cs : List Kid) : Prop where
  row : Row w w.heap.size 1 A n (cs.map Kid.p)
  len : cs.length = n
  fit : n * 8 ≤ 140737488351232
  cur : ∀ x ∈ cs, IsCur w x.p x.E x.F
  apart : cs.Pairwise fun x y => ∀ k, ¬ (x.F k ∧ y.F k)
theorem ptr_one {w : World} {p : Value} {E : List Int} {F : Nat → Prop} (h : IsCur w p E F) : p.oneCell' = true := by
  obtain ⟨d, ⟨rfl, _⟩ | ⟨b, v, fr, dn, E0, F0, rfl, _⟩⟩ := h <;> rfl
theorem kids_new {w w1 : World} {A1 : Option Addr} {n c1 : Nat} {cs : List Kid} {d : Nat} {A : Option Addr} (h : KidRow w A n cs) (hd : ∀ x ∈ cs, CurOf (IsSrc d) w x.p x.E x.F) (hr : Row w1 w1.heap.size 1 A1 n (cs.map Kid.p)) (hb : Below w.heap.size w w1) (ho : 0 < n → w1.ownsRow w.heap.size 208 1 (.slice A1 n c1) n (cs.map Kid.p)) :
    Kids (IsSrc d) w1 A1 cs (fun k => (cs ≠ [] ∧ blockOf A1 k) ∨ ∃ x ∈ cs, x.F k) := by
  have hold : ∀ x ∈ cs, ∀ k, x.F k → k < w.heap.size := fun x hx => isCur_old _ _ _ _ (h.cur x hx)
  have hnew : cs ≠ [] → ∀ k, blockOf A1 k → w.heap.size ≤ k ∧ k < w1.heap.size := fun hne k ⟨o, e⟩ => by
    have hn : 0 < n := by rw [← h.len]; exact List.length_pos_iff.2 hne
    subst e
    exact (ho hn).lt k rfl
  refine ⟨by rw [h.len]; exact hr, fun x hx => cur_frame (src_frame d) _ _ _ _ _ (hd x hx) hb.size fun k hk => hb.block k (hold x hx k hk), h.apart, fun x hx k hk hbk => ?_, ⟨fun k hne hbk => .inl ⟨hne, hbk⟩, fun x hx k hk => .inr ⟨x, hx, hk⟩⟩, fun k hk => ?_⟩
  · have := (hnew (fun e => by rw [e] at hx; simp at hx) k hbk).1
    have := hold x hx k hk
    omega
  · rcases hk with ⟨hne, hbk⟩ | ⟨x, hx, hk⟩
    · exact (hnew hne k hbk).2
    · have := hold x hx k hk
      have := hb.size
      omega
def gOf (cs : List Kid) (k : Nat) : Prop := ∃ x ∈ cs, x.F k

theorem make_of {w w1 : World} {A1 : Option Addr} {n c1 : Nat} {cs : List Kid} {E : List Int} {A : Option Addr} {d : Nat} {v : Value} {Q : List Int → Prop} (h : KidRow w A n cs) (hb : Below w.heap.size w w1) (ho : 0 < n → w1.ownsRow w.heap.size 208 1 (.slice A1 n c1) n (cs.map Kid.p)) (hQ : Q E)
    (hs : IsSrc d w1 v E (fun k => (cs ≠ [] ∧ blockOf A1 k) ∨ ∃ x ∈ cs, x.F k)) : Calls Tryz.prog 126 #[v] w1 (NewCur w (gOf cs) Q) := by
  refine (over_any d v E _ w1 hs).mono ?_
  rintro e w2 ⟨p, E2, F2, rfl, h1, rfl, h2, h3⟩
  refine ⟨p, E2, F2, rfl, h1, hQ, fun k hk => ?_, hb.trans (h3.mono hb.size)⟩
  rcases h2 k hk with h4 | ⟨hne, o, e⟩ | h4
  · have := hb.size; exact .inl (by omega)
  · have hn : 0 < n := by rw [← h.len]; exact List.length_pos_iff.2 hne
    subst e
    exact .inl ((ho hn).lt k rfl).1
  · exact .inr h4

set_option maxHeartbeats 800000 in
theorem and_any (A : Option Addr) (n c : Nat) (cs : List Kid) (w : World) (h : KidRow w A n cs) :
    Calls Tryz.prog 81 #[.slice A n c] w (NewCur w (gOf cs) fun E => ∀ x, x ∈ E ↔ cs ≠ [] ∧ ∀ y ∈ cs, x ∈ y.E) := by
  obtain ⟨d, hd⟩ := kids_depth cs h.cur
  obtain ⟨E, hE, hm⟩ : ∃ E, rising E ∧ ∀ x, x ∈ E ↔ cs ≠ [] ∧ ∀ y ∈ cs, x ∈ y.E := by
    cases cs with
    | nil => exact ⟨[], List.Pairwise.nil, by simp⟩
    | cons y cs =>
      obtain ⟨E, hE, hm⟩ := union_exists (y.E.filter fun x => (y :: cs).all fun z => decide (x ∈ z.E))
      refine ⟨E, hE, fun x => ?_⟩
      rw [hm x, List.mem_filter, List.all_eq_true]
      exact ⟨fun h => ⟨by simp, fun z hz => by simpa using h.2 z hz⟩, fun h => ⟨h.2 y (by simp), fun z hz => by simpa using h.2 z hz⟩⟩
  have S1 := hidden (clonePtr A n c (cs.map Kid.p) w h.row (fun u hu => by
    obtain ⟨x, hx, rfl⟩ := List.mem_map.1 hu
    exact ptr_one (h.cur x hx)) h.fit)
  have H := hidden h
  have HM := hidden hm
  clear h hm
  go_enter Tryz.func81, Tryz.ntmps81
  go_wp2_with fail
  refine S1.out.mono ?_
  rintro e w1 ⟨A1, c1, rfl, hc1, hr1, hb1, ho1⟩
  have hK := kids_new H.out hd hr1 hb1 ho1
  have hs : IsSrc (d + 1) w1 (.iface 255 (.slice A1 n c1)) E (fun k => (cs ≠ [] ∧ blockOf A1 k) ∨ ∃ x ∈ cs, x.F k) := .inr (.inl ⟨A1, n, c1, cs, rfl, H.out.len, by have := H.out.fit; omega, hK, hE, HM.out⟩)
  have S2 := hidden (make_of (Q := fun E => ∀ x, x ∈ E ↔ cs ≠ [] ∧ ∀ y ∈ cs, x ∈ y.E) H.out hb1 ho1 HM.out hs)
  clear hK hs hr1 hb1 ho1 S1
  go_wp2_with fail
  refine S2.out.mono ?_
  rintro e w2 ⟨p, E2, F2, rfl, h1⟩
  go_wp2_with fail
  go_ret
  exact ⟨p, E2, F2, rfl, h1⟩
end Go.Proofs.YthncochjhbmceaaGreat

namespace Go.Proofs.YthncochjhbmceaaGreat
set_option maxRecDepth 100000
open Go.RowKit Go.Shelf

set_option maxHeartbeats 800000 in
theorem or_any (A : Option Addr) (n c : Nat) (cs : List Kid) (w : World) (h : KidRow w A n cs) :
    Calls Tryz.prog 125 #[.slice A n c] w (NewCur w (gOf cs) fun E => ∀ x, x ∈ E ↔ ∃ y ∈ cs, x ∈ y.E) := by
  obtain ⟨d, hd⟩ := kids_depth cs h.cur
  obtain ⟨E, hE, hm⟩ : ∃ E, rising E ∧ ∀ x, x ∈ E ↔ ∃ y ∈ cs, x ∈ y.E := by
    obtain ⟨E, hE, hm⟩ := union_exists (cs.flatMap Kid.E)
    exact ⟨E, hE, fun x => by rw [hm x, List.mem_flatMap]⟩
  have S1 := hidden (clonePtr A n c (cs.map Kid.p) w h.row (fun u hu => by
    obtain ⟨x, hx, rfl⟩ := List.mem_map.1 hu
    exact ptr_one (h.cur x hx)) h.fit)
  have H := hidden h
  have HM := hidden hm
  clear h hm
  go_enter Tryz.func125, Tryz.ntmps125
  go_wp2_with fail
  refine S1.out.mono ?_
  rintro e w1 ⟨A1, c1, rfl, hc1, hr1, hb1, ho1⟩
  have hK := kids_new H.out hd hr1 hb1 ho1
  have hs : IsSrc (d + 1) w1 (.iface 305 (.slice A1 n c1)) E (fun k => (cs ≠ [] ∧ blockOf A1 k) ∨ ∃ x ∈ cs, x.F k) := .inr (.inr (.inl ⟨A1, n, c1, cs, rfl, H.out.len, by have := H.out.fit; omega, hK, hE, HM.out⟩))
  have S2 := hidden (make_of (Q := fun E => ∀ x, x ∈ E ↔ ∃ y ∈ cs, x ∈ y.E) H.out hb1 ho1 HM.out hs)
  clear hK hs hr1 hb1 ho1 S1
  go_wp2_with fail
  refine S2.out.mono ?_
  rintro e w2 ⟨p, E2, F2, rfl, h1⟩
  go_wp2_with fail
  go_ret
  exact ⟨p, E2, F2, rfl, h1⟩

set_option maxHeartbeats 800000 in
theorem without_any (x y : Kid) (w : World) (hx : IsCur w x.p x.E x.F) (hy : IsCur w y.p y.E y.F) (hd : ∀ k, ¬ (x.F k ∧ y.F k)) :
    Calls Tryz.prog 124 #[x.p, y.p] w (NewCur w (fun k => x.F k ∨ y.F k) fun E => ∀ z, z ∈ E ↔ z ∈ x.E ∧ z ∉ y.E) := by
  obtain ⟨d, hcs⟩ := kids_depth (w := w) [x, y] (by simp; exact ⟨hx, hy⟩)
  obtain ⟨E, hE, hm⟩ := union_exists (x.E.filter fun z => decide (z ∉ y.E))
  have hm2 : ∀ z, z ∈ E ↔ z ∈ x.E ∧ z ∉ y.E := fun z => by rw [hm z, List.mem_filter]; simp
  have hs : IsSrc (d + 1) w (.iface 304 (.agg #[x.p, y.p])) E (fun k => x.F k ∨ y.F k) := .inr (.inr (.inr ⟨x, y, rfl, hcs x (by simp), hcs y (by simp), hd, fun _ => Iff.rfl, hE, hm2⟩))
  have S2 := hidden (over_any (d + 1) _ _ _ w hs)
  have HM := hidden hm2
  obtain ⟨d1, ⟨e1, _⟩ | ⟨b1, v1, fr1, dn1, E1, F1, e1, _⟩⟩ := hx
  all_goals obtain ⟨d2, ⟨e2, _⟩ | ⟨b2, v2, fr2, dn2, E2, F2, e2, _⟩⟩ := hy
  all_goals
    rw [e1, e2] at S2 ⊢
    clear hm hm2 hs hcs
    go_enter Tryz.func124, Tryz.ntmps124
    go_wp2_with fail
    refine S2.out.mono ?_
    rintro e w2 ⟨p, E2', F2', rfl, h1, rfl, h2⟩
    go_wp2_with fail
    go_ret
    exact ⟨p, E2', F2', rfl, h1, HM.out, h2⟩

theorem list_new {w0 w : World} {A : Option Addr} {n c : Nat} {E : List Int} (hr : Row w w.heap.size 1 A n (E.map (Value.int .i64))) (hc : n ≤ c) (hn : n * 8 ≤ 140737488355328) (ho : 0 < n → ∀ k, blockOf A k → w0.heap.size ≤ k ∧ k < w.heap.size) (hE : rising E) (hI : ∀ x ∈ E, inI x) (hb : Below w0.heap.size w0 w) {Q : List Int → Prop} (hQ : Q E) :
    Calls Tryz.prog 126 #[.iface 300 (.pointer (some ⟨w.heap.size, 0, none⟩))] (w.alloc (.cells #[.slice A n c] 302)) (NewCur w0 (fun _ => False) Q) := by
  have hb2 : Below w.heap.size w (w.alloc (.cells #[.slice A n c] 302)) := (Below.refl _ _).alloc (Nat.le_refl _) _
  have hs : IsSrc 0 (w.alloc (.cells #[.slice A n c] 302)) (.iface 300 (.pointer (some ⟨w.heap.size, 0, none⟩))) E (fun k => k = w.heap.size ∨ (0 < n ∧ blockOf A k)) :=
    ⟨w.heap.size, A, n, c, rfl, Whole1.new _ _ _, (hr.below hb2).more hb2.size, hc, hn, fun h hbk => by have := (ho h _ hbk).2; omega, ⟨.inl rfl, fun k h hbk => .inr ⟨h, hbk⟩⟩, hE, hI, fun k hk => by
      rcases hk with rfl | ⟨h, hbk⟩
      · simp
      · have := (ho h _ hbk).2; simp; omega⟩
  refine (over_any 0 _ E _ _ hs).mono ?_
  rintro e w2 ⟨p, E2, F2, rfl, h1, rfl, h2, h3⟩
  have hs0 := hb.size
  refine ⟨p, E2, F2, rfl, h1, hQ, fun k hk => ?_, hb.trans ((hb2.trans (h3.mono hb2.size)).mono hs0)⟩
  rcases h2 k hk with h4 | rfl | ⟨h, hbk⟩
  · simp at h4; exact .inl (by omega)
  · exact .inl hs0
  · exact .inl (ho h _ hbk).1
set_option maxHeartbeats 1600000 in
theorem of_any (A : Option Addr) (n c : Nat) (l : List Int) (w : World) (hr : Row w w.heap.size 1 A n (l.map (Value.int .i64))) (hn : n * 8 ≤ 140737488351232) (hI : ∀ x ∈ l, inI x) :
    Calls Tryz.prog 123 #[.slice A n c] w (NewCur w (fun _ => False) fun E => (∀ x, x ∈ E ↔ x ∈ l) ∧ E.length ≤ n) := by
  have hl := hr.len
  rw [List.length_map, Nat.mul_one] at hl
  have S1 := hidden (cloneInt A n c (l.map (Value.int .i64)) w hr (fun u hu => by
    obtain ⟨x, _, rfl⟩ := List.mem_map.1 hu
    rfl) hn)
  clear hr
  rcases Nat.eq_zero_or_pos n with h0 | h0
  · subst h0
    obtain rfl : l = [] := List.eq_nil_of_length_eq_zero hl
    go_enter Tryz.func123, Tryz.ntmps123
    go_wp2_with fail
    refine S1.out.mono ?_
    rintro e w1 ⟨A1, c1, rfl, hc1, hr1, hb1, _⟩
    have HB := hidden hb1
    clear hb1 S1 hr1
    go_wp2_with fail
    refine (slices_Sort_int_none A1 c1 _).mono ?_
    rintro e w' ⟨rfl, rfl⟩
    go_wp2_with fail
    refine (slices_Compact_int_empty A1 c1 _).mono ?_
    rintro e w' ⟨rfl, rfl⟩
    have S2 := list_new (w := w') (c := c1) (Q := fun E => (∀ x, x ∈ E ↔ x ∈ ([] : List Int)) ∧ E.length ≤ 0) (Row.nil (A := A1)) (Nat.zero_le _) (by omega) (fun h => absurd h (by omega)) List.Pairwise.nil (by simp) HB.out (by simp)
    go_wp2_with fail
    refine S2.mono ?_
    rintro e w2 ⟨p, E2, F2, rfl, h1⟩
    go_wp2_with fail
    go_ret
    exact ⟨p, E2, F2, rfl, h1⟩
  · subst hl
    obtain ⟨ts, hts⟩ : ∃ ts, l.mergeSort (fun x y => decide (x ≤ y)) = ts := ⟨_, rfl⟩
    have hperm : ts.Perm l := by rw [← hts]; exact List.mergeSort_perm l _
    have hsrt : ts.Pairwise (· ≤ ·) := by
      rw [← hts]
      have := List.pairwise_mergeSort (le := fun a b : Int => decide (a ≤ b)) (fun a b c h1 h2 => by simp at *; omega) (fun a b => by simp; omega) l
      exact this.imp fun h => by simpa using h
    obtain ⟨hE, hm⟩ := compact_sorted hsrt
    have hle := Lib.compact_length_le ts
    have htl := hperm.length_eq
    have HTL := hidden htl
    have HEX := hidden (fun (w1 : World) (g cap : Nat) (hown : w1.ownsRow w.heap.size 3 1 (.slice (some ⟨g, 0, none⟩) l.length cap) l.length (l.map (Value.int .i64))) => slices_Sort_int g 0 cap l w1 (by
      obtain ⟨g', cap', e, _, _, _, _, _, hH⟩ := Lib.holds_of_ownsRow hown (by simp)
      simp only [Value.slice.injEq, Option.some.injEq, Addr.mk.injEq] at e
      obtain ⟨⟨rfl, _⟩, _⟩ := e
      exact hH) (hown.lt g rfl).2 (by omega))
    rw [hts] at HEX
    have HQ := hidden (show (∀ x, x ∈ Lib.compact ts ↔ x ∈ l) from fun x => by rw [hm x]; exact hperm.mem_iff)
    have HI := hidden (show ∀ x ∈ Lib.compact ts, inI x from fun x hx => hI x ((HQ.out x).1 hx))
    clear hts hperm hsrt hm hI htl
    go_enter Tryz.func123, Tryz.ntmps123
    go_wp2_with fail
    refine S1.out.mono ?_
    rintro e w1 ⟨A1, c1, rfl, hc1, hr1, hb1, ho1⟩
    have hown := ho1 h0
    obtain ⟨g, cap, cur, hv, hbase, hbk, hn1, hcm, hcs, htk⟩ : ∃ g cap cur, (Value.slice A1 l.length c1) = .slice (some ⟨g, 0, none⟩) l.length cap ∧ w.heap.size ≤ g ∧ w1.heap[g]? = some (.cells cur 3 (0, 0)) ∧ l.length ≤ cap ∧ cap ≤ maxLen ∧ cur.size = cap * 1 ∧ cur.toList.take (l.length * 1) = l.map (Value.int .i64) := by
      rcases hown.2 with ⟨_, h⟩ | ⟨g, cap, cur, h⟩
      · omega
      · exact ⟨g, cap, cur, h⟩
    simp only [Value.slice.injEq, true_and] at hv
    obtain ⟨rfl, rfl⟩ := hv
    have S2 := HEX.out w1 g c1 hown
    have hown2 := fun n os => ownsRow_sortedI (n := n) (os := os) HTL.out hbase hbk hn1 hcm hcs
    have hb2 := fun n os => hb1.grown (grownBy_sortedI (n := n) (os := os) ts.toArray) hb1.size (fun j hj => by cases hj; exact hbase)
    have HS2 := hidden S2
    have HOW := hidden hown2
    have HB2 := hidden hb2
    have HC1 := hidden hc1
    clear S1 S2 hown hown2 hb2 ho1 hr1 hb1 hbk hn1 hcm hcs htk HEX hc1
    go_wp2_with fail
    refine HS2.out.mono ?_
    rintro e w2 ⟨rfl, nq, os, rfl⟩
    have hown2 := HOW.out nq os
    have hb2 := HB2.out nq os
    generalize Go.Sort.grow (Go.Sort.putRow (Value.int .i64) (Go.Sort.ahead w1 nq) g 0 ts.toArray) os = w2 at hown2 hb2 ⊢
    have S3 := slices_Compact_int g 0 c1 ts w2 (by
      obtain ⟨g', cap', e, _, _, _, _, _, hH⟩ := Lib.holds_of_ownsRow hown2 (by simp)
      simp only [Value.slice.injEq, Option.some.injEq, Addr.mk.injEq] at e
      obtain ⟨⟨rfl, _⟩, _⟩ := e
      exact hH) (by have := HTL.out; omega) (by have := HTL.out; have := HC1.out; omega)
    rw [HTL.out] at S3
    have HS3 := hidden S3
    have HO2 := hidden hown2
    have HB3 := hidden hb2
    clear S3 hown2 hb2 HS2 HOW HB2
    go_wp2_with fail
    refine HS3.out.mono ?_
    rintro e w3 ⟨rfl, q, rfl⟩
    have hown3 := Lib.ownsRow_putRow (q := q) (k := (Lib.compact ts).length) (ys := Lib.compact ts ++ List.replicate (l.length - (Lib.compact ts).length) 0) HO2.out (by have := HTL.out; rw [List.length_append, List.length_replicate]; omega) (by have := HTL.out; omega)
    rw [List.take_left] at hown3
    have hb3 : Below w.heap.size w (Go.Sort.putRow (Value.int .i64) (Go.Sort.ahead w2 q) g 0 (Lib.compact ts ++ List.replicate (l.length - (Lib.compact ts).length) 0).toArray) := Lib.below_putRow HB3.out hbase
    generalize Go.Sort.putRow (Value.int .i64) (Go.Sort.ahead w2 q) g 0 (Lib.compact ts ++ List.replicate (l.length - (Lib.compact ts).length) 0).toArray = w3 at hown3 hb3 ⊢
    have S4 := hidden (list_new (c := c1) (Q := fun E => (∀ x, x ∈ E ↔ x ∈ l) ∧ E.length ≤ l.length) (Row.of_own hown3) (by have := HTL.out; have := HC1.out; omega) (by have := HTL.out; omega) (fun _ k ⟨o, e⟩ => by
      simp only [Option.some.injEq, Addr.mk.injEq] at e
      obtain ⟨rfl, _⟩ := e
      exact hown3.lt g rfl) hE HI.out hb3 ⟨HQ.out, by have := HTL.out; omega⟩)
    clear hown3 hb3 HS3 HO2 HB3
    go_wp2_with fail
    refine S4.out.mono ?_
    rintro e w4 ⟨p, E2, F2, rfl, h1⟩
    go_wp2_with fail
    go_ret
    exact ⟨p, E2, F2, rfl, h1⟩
end Go.Proofs.YthncochjhbmceaaGreat
