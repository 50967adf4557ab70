/- (*post.Cursor).Seek, Next and Rest, walked: a cursor goes through its list. Condition: the list is within the reach. -/
import Derived.Test.YtnedgjdhpdejdaaWoSeek
import Derived.Test.YtnedgjdhpdejdaaListSeek
namespace Go.Proofs.Ytnedgjdhpdejdaa
set_option maxRecDepth 100000
open Go.RowKit Go.Shelf

theorem seek_src : ∀ d, SeekOk (IsSrc d)
  | 0 => list_seek
  | d + 1 => by
    have hP := peek_of (src_frame d) (seek_src d)
    have hA := and_seek (src_frame d) (src_old d) (src_rise d) hP
    have hO := or_seek (src_frame d) (src_old d) (src_rise d) hP
    have hW := wo_seek (src_frame d) (src_old d) (src_rise d) hP
    rintro w v E F n (h | h | h | h) hn
    · obtain ⟨tid, x, f, y, e, q1, q2, q3⟩ := list_seek w v E F n h hn
      exact ⟨tid, x, f, y, e, q1, q2, q3.mono fun e w' ⟨g1, g2, g3⟩ => ⟨g1, .inl g2, g3⟩⟩
    · obtain ⟨tid, x, f, y, e, q1, q2, q3⟩ := hA w v E F n h hn
      exact ⟨tid, x, f, y, e, q1, q2, q3.mono fun e w' ⟨g1, g2, g3⟩ => ⟨g1, .inr (.inl g2), g3⟩⟩
    · obtain ⟨tid, x, f, y, e, q1, q2, q3⟩ := hO w v E F n h hn
      exact ⟨tid, x, f, y, e, q1, q2, q3.mono fun e w' ⟨g1, g2, g3⟩ => ⟨g1, .inr (.inr (.inl g2)), g3⟩⟩
    · obtain ⟨tid, x, f, y, e, q1, q2, q3⟩ := hW w v E F n h hn
      exact ⟨tid, x, f, y, e, q1, q2, q3.mono fun e w' ⟨g1, g2, g3⟩ => ⟨g1, .inr (.inr (.inr g2)), g3⟩⟩
theorem peek_src (d : Nat) : PeekOk (IsSrc d) := peek_of (src_frame d) (seek_src d)
/-- a cursor over a list -/
def IsCur : Src := fun w p E F => ∃ d, CurOf (IsSrc d) w p E F
theorem isCur_frame : FrameOk IsCur := fun _ _ _ _ _ ⟨d, h⟩ hs hk => ⟨d, cur_frame (src_frame d) _ _ _ _ _ h hs hk⟩
theorem isCur_rise : RiseOk IsCur := fun _ _ _ _ ⟨d, h⟩ => cur_rise (src_rise d) _ _ _ _ h
theorem isCur_old : OldOk IsCur := fun _ _ _ _ ⟨d, h⟩ => cur_old (src_old d) _ _ _ _ h
theorem gone_past {E : List Int} (hE : rising E) {fr x : Int} {r : List Int} (h : geL fr E = x :: r) : geL (x + 1) E = r := by
  have hr := rising_geL hE fr
  rw [h] at hr
  obtain ⟨h1, h2⟩ := List.pairwise_cons.1 hr
  refine rising_ext (rising_geL hE _) h2 fun z => ?_
  have hx := mem_geL.1 (show x ∈ geL fr E by rw [h]; simp)
  rw [mem_geL]
  constructor
  · rintro ⟨z1, z2⟩
    have : z ∈ geL fr E := mem_geL.2 ⟨z1, by omega⟩
    rw [h] at this
    rcases List.mem_cons.1 this with e | e
    · omega
    · exact e
  · intro hz
    have := h1 z hz
    have hm := mem_geL.1 (show z ∈ geL fr E by rw [h]; simp [hz])
    exact ⟨hm.1, by omega⟩

set_option maxHeartbeats 1600000 in
theorem seek_cur (p : Value) (E : List Int) (F : Nat → Prop) (n : Int) (w : World) (h : IsCur w p E F) (hn : inI n) :
    Calls Try.prog 19 #[p, .int .i64 n] w fun e w' => e = ansL (geL n E) ∧ IsCur w' p (geL n E).tail F ∧ Kp F w w' := by
  obtain ⟨d, h⟩ := h
  have hri := cur_rise (src_rise d) _ _ _ _ h
  have HI := hidden (fun x (hx : x ∈ geL n E) => hri.2 x (mem_geL.1 hx).1)
  have HRr := hidden (rising_geL hri.1 n)
  have HS := hidden (peek_src d w p E F n h hn)
  clear h hri
  generalize geL n E = L at *
  cases L with
  | nil =>
    go_enter Try.func19, Try.ntmps19
    go_wp2_with fail
    refine HS.out.mono ?_
    rintro e w1 ⟨he, hc, hk⟩
    obtain rfl : e = .returned (.tuple #[.int .i64 0, .bool false]) := he
    rcases hc with ⟨rfl, _, h0⟩ | ⟨b, v, fr, dn, E0, F0, rfl, h1, h2, h3, h4, h5, h6⟩
    · have HK := hidden hk
      go_wp2_with fail
      go_ret2
      exact ⟨rfl, ⟨d, .inl ⟨rfl, rfl, h0⟩⟩, HK.out⟩
    · have f0 := h1.free 2
      have c2 := h1.cell 2
      have HW := hidden (h1.put 2 (.bool true))
      have HK := hidden (hk.put ((h5 b).2 (.inl rfl)) 2 (.bool true))
      have H3 := hidden (src_frame d _ (w1.setCell ⟨b, 2, none⟩ (.bool true)) _ _ _ h3 (by simp) fun k hk' => Below.heap_setCell w1 ⟨b, 2, none⟩ _ k fun e => h2 (by rw [show b = k from e.symm]; exact hk'))
      clear hk h3 h6
      go_wp2_with fail
      go_ret2
      exact ⟨rfl, ⟨d, .inr ⟨b, v, fr, true, E0, F0, rfl, HW.out, h2, H3.out, h4, h5, rfl⟩⟩, HK.out⟩
  | cons x r =>
    have hxI := HI.out x (by simp)
    go_enter Try.func19, Try.ntmps19
    go_wp2_with fail
    refine HS.out.mono ?_
    rintro e w1 ⟨he, hc, hk⟩
    obtain rfl : e = .returned (.tuple #[.int .i64 x, .bool true]) := he
    rcases hc with ⟨_, h0, _⟩ | ⟨b, v, fr, dn, E0, F0, rfl, h1, h2, h3, h4, h5, h6⟩
    · exact absurd h0 (by simp)
    · cases dn with
      | true => simp at h6
      | false =>
        simp only [Bool.false_eq_true, if_false] at h6
        have hE0 := (src_rise d _ _ _ _ h3).1
        by_cases hmx : x = 9223372036854775807
        · have hr0 : Hid (r = []) := List.eq_nil_iff_forall_not_mem.2 fun z hz => by
            have := (List.pairwise_cons.1 HRr.out).1 z hz
            have := (HI.out z (by simp [hz])).2
            omega
          have hmb : (x == 9223372036854775807) = true := by simpa using hmx
          have f0 := h1.free 2
          have c2 := h1.cell 2
          have HW := hidden (h1.put 2 (.bool true))
          have HK := hidden (hk.put ((h5 b).2 (.inl rfl)) 2 (.bool true))
          have H3 := hidden (src_frame d _ (w1.setCell ⟨b, 2, none⟩ (.bool true)) _ _ _ h3 (by simp) fun k hk' => Below.heap_setCell w1 ⟨b, 2, none⟩ _ k fun e => h2 (by rw [show b = k from e.symm]; exact hk'))
          clear hk h3 h6 hmx
          go_wp2_with fail
          go_ret2
          refine ⟨rfl, ⟨d, .inr ⟨b, v, fr, true, E0, F0, rfl, HW.out, h2, H3.out, h4, h5, ?_⟩⟩, HK.out⟩
          simpa using hr0.out
        · have hg := hidden (gone_past hE0 h6.symm)
          have f0 := h1.free 1
          have c1 := h1.cell 1
          have HW := hidden (h1.put 1 (.int .i64 (x + 1)))
          have HK := hidden (hk.put ((h5 b).2 (.inl rfl)) 1 (.int .i64 (x + 1)))
          have H3 := hidden (src_frame d _ (w1.setCell ⟨b, 1, none⟩ (.int .i64 (x + 1))) _ _ _ h3 (by simp) fun k hk' => Below.heap_setCell w1 ⟨b, 1, none⟩ _ k fun e => h2 (by rw [show b = k from e.symm]; exact hk'))
          have hx0 := hxI.1
          have hx1 := hxI.2
          clear hk h3 h6
          go_wp2_with fail
          go_ret2
          refine ⟨rfl, ⟨d, .inr ⟨b, v, x + 1, false, E0, F0, rfl, HW.out, h2, H3.out, ⟨by omega, by omega⟩, h5, ?_⟩⟩, HK.out⟩
          simpa using hg.out.symm

theorem next_cur (p : Value) (E : List Int) (F : Nat → Prop) (w : World) (h : IsCur w p E F) :
    Calls Try.prog 18 #[p] w fun e w' => e = ansL E ∧ IsCur w' p E.tail F ∧ Kp F w w' := by
  have hri := isCur_rise _ _ _ _ h
  have S1 := seek_cur p E F (-9223372036854775808) w h (by unfold inI; decide)
  rw [geL_all fun x hx => (hri.2 x hx).1] at S1
  have HS := hidden S1
  clear S1 hri
  obtain ⟨a, ok, hans⟩ := ansL_two (L := E)
  rw [hans] at HS ⊢
  go_enter Try.func18, Try.ntmps18
  go_wp2_with fail
  refine HS.out.mono ?_
  rintro e w1 ⟨rfl, h1, h2⟩
  go_wp2_with fail
  go_ret2
  exact ⟨rfl, h1, h2⟩
end Go.Proofs.Ytnedgjdhpdejdaa
