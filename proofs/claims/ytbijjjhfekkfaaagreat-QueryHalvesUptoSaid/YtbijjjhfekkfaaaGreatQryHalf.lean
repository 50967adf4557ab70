/- QueryHalves, walked: a range in two halves gives what it gives at once. Condition: what comes in is of bulk at most 1048576. -/
import Derived.Test.YtbijjjhfekkfaaaGreatQry
import Derived.Test.YtbijjjhfekkfaaaGreatQrySame
import Derived.Test.YtbijjjhfekkfaaaGreatPkc6c90f11
namespace Go.Proofs.YtbijjjhfekkfaaaGreat
set_option maxRecDepth 100000
open Go.RowKit Go.Shelf Go.WideShapes Go.ChangeShapes

/-- a case's cells -/
def CaseV.cells (x : CaseV) : Array Value := #[.int .i64 x.r, .int .i64 x.fr, .int .i64 x.tt, .slice x.ask.A x.ask.n x.ask.c, .int .i64 x.lo0, .int .i64 x.lo1, .int .i64 x.lo2, .int .i64 x.rd0, .int .i64 x.rd1, .int .i64 x.rd2, .slice x.gon.A x.gon.n x.gon.c, .slice x.src.A x.src.n x.src.c]
theorem CaseV.Ok.small {w : World} {x : CaseV} (h : x.Ok w) : (MR.allOf x.src.l).length ≤ 1048576 ∧ MR.ssum (MR.allOf x.src.l) ≤ 1048576 := by
  have h0 := h.few
  refine ⟨by rw [MR.allOf_len x.src.l h.src.at_]; omega, ?_⟩
  have e2 : MR.ssum (MR.allOf x.src.l) = wsum (x.src.l.flatMap Sl.l) := MR.ssum_ser _ fun u hu => by
    obtain ⟨s', hs', hu'⟩ := List.mem_flatMap.1 hu
    have := (h.src.sers s' hs' u hu').1
    exact ⟨this.smp.2.1, this.win.2.1⟩
  omega
set_option maxHeartbeats 3200000 in
theorem halves_any (x : CaseV) (mid : Int) (w : World) (h : x.Ok w) (hm1 : -9223372036854775808 ≤ mid) (hm2 : mid < 9223372036854775808) :
    Calls Tryz.prog 4 #[x.val, .int .i64 mid] w fun e w' => e = .returned (.bool true) ∧ Below w.heap.size w w' := by
  have hw0 := Whole1.new w 42 x.cells
  have hb0 : Below w.heap.size w (w.alloc (.cells x.cells 42)) := (Below.refl _ _).alloc (Nat.le_refl _) _
  have H := hidden h
  clear h
  have hv : x.val = .agg #[.int .i64 x.r, .int .i64 x.fr, .int .i64 x.tt, .slice x.ask.A x.ask.n x.ask.c, .int .i64 x.lo0, .int .i64 x.lo1, .int .i64 x.lo2, .int .i64 x.rd0, .int .i64 x.rd1, .int .i64 x.rd2, .slice x.gon.A x.gon.n x.gon.c, .slice x.src.A x.src.n x.src.c] := rfl
  have hcs : x.cells = #[.int .i64 x.r, .int .i64 x.fr, .int .i64 x.tt, .slice x.ask.A x.ask.n x.ask.c, .int .i64 x.lo0, .int .i64 x.lo1, .int .i64 x.lo2, .int .i64 x.rd0, .int .i64 x.rd1, .int .i64 x.rd2, .slice x.gon.A x.gon.n x.gon.c, .slice x.src.A x.src.n x.src.c] := rfl
  rw [hv]
  rw [hcs] at hw0 hb0
  clear hv hcs
  go_enter Tryz.func4, Tryz.ntmps4
  go_upto_region 1 with (fail)
  generalize w.alloc (.cells #[.int .i64 x.r, .int .i64 x.fr, .int .i64 x.tt, .slice x.ask.A x.ask.n x.ask.c, .int .i64 x.lo0, .int .i64 x.lo1, .int .i64 x.lo2, .int .i64 x.rd0, .int .i64 x.rd1, .int .i64 x.rd2, .slice x.gon.A x.gon.n x.gon.c, .slice x.src.A x.src.n x.src.c] 42) = w1 at hw0 hb0 ⊢
  obtain ⟨g, hg⟩ : ∃ g, w.heap.size = g := ⟨_, rfl⟩
  have HB := hidden hb0
  rw [hg] at hw0 ⊢
  have HG := hidden hg
  have HW := hidden hw0
  have S1 := hidden (wakes26_any w1)
  clear hw0 hb0 hg
  go_wp2_with fail
  refine S1.out.mono ?_
  rintro e w2 ⟨rfl, b2⟩
  have HB2 := hidden (HB.out.trans (b2.mono HB.out.size))
  have HW2 := hidden (HW.out.below b2 HW.out.lt)
  clear b2 S1 HW HB
  have c0 := HW2.out.cell 0
  have c1 := HW2.out.cell 1
  have c2 := HW2.out.cell 2
  have c3 := HW2.out.cell 3
  have c4 := HW2.out.cell 4
  have c5 := HW2.out.cell 5
  have c6 := HW2.out.cell 6
  have c7 := HW2.out.cell 7
  have c8 := HW2.out.cell 8
  have c9 := HW2.out.cell 9
  have c10 := HW2.out.cell 10
  have c11 := HW2.out.cell 11
  have S2 := hidden (case_any x w2 (H.out.on HB2.out))
  go_wp2_with fail
  refine S2.out.mono ?_
  rintro e w3 ⟨ms, hfit, B, c', L, rfl, hL, b3, hok, h4, h5, h6⟩
  have HR := hidden (And.intro hfit (And.intro hL (And.intro hok (And.intro h4 (And.intro h5 h6)))))
  have HB3 := hidden (HB2.out.trans (b3.mono HB2.out.size))
  have HW3 := hidden (HW2.out.below b3 HW2.out.lt)
  clear hL b3 hok h4 h5 h6 S2 hfit c0 c1 c2 c3 c4 c5 c6 c7 c8 c9 c10 c11 HB2 HW2
  obtain ⟨E, hE⟩ : ∃ E, runE x.r x.fr x.tt = E := ⟨_, rfl⟩
  rw [hE]
  have HE := hidden hE
  clear hE
  have c1 := HW3.out.cell 1
  have c2 := HW3.out.cell 2
  by_cases hE0 : E = 0
  · subst hE0
    by_cases hlo : mid < x.fr
    · go_wp2_with fail
      go_ret
      exact ⟨rfl, HB3.out⟩
    · by_cases hhi : x.tt ≤ mid
      · go_wp2_with fail
        go_ret
        exact ⟨rfl, HB3.out⟩
      · go_upto_region 6 with (fail)
        clear c1 c2
        go_cut [7, 8] (fun va vb wx => ∃ a b : Nat, va = .pointer (some ⟨a, 0, none⟩) ∧ vb = .pointer (some ⟨b, 0, none⟩) ∧ Hid (a ≠ b ∧ g < a ∧ g < b ∧ w.heap.size ≤ a ∧ w.heap.size ≤ b ∧ w3.heap.size ≤ a ∧ w3.heap.size ≤ b) ∧ Hid (Whole1 wx a 42 #[.int .i64 x.r, .int .i64 x.fr, .int .i64 x.tt, .slice x.ask.A x.ask.n x.ask.c, .int .i64 x.lo0, .int .i64 x.lo1, .int .i64 x.lo2, .int .i64 x.rd0, .int .i64 x.rd1, .int .i64 x.rd2, .slice x.gon.A x.gon.n x.gon.c, .slice x.src.A x.src.n x.src.c]) ∧ Hid (Whole1 wx b 42 #[.int .i64 x.r, .int .i64 x.fr, .int .i64 x.tt, .slice x.ask.A x.ask.n x.ask.c, .int .i64 x.lo0, .int .i64 x.lo1, .int .i64 x.lo2, .int .i64 x.rd0, .int .i64 x.rd1, .int .i64 x.rd2, .slice x.gon.A x.gon.n x.gon.c, .slice x.src.A x.src.n x.src.c]) ∧ Hid (Whole1 wx g 42 #[.int .i64 x.r, .int .i64 x.fr, .int .i64 x.tt, .slice x.ask.A x.ask.n x.ask.c, .int .i64 x.lo0, .int .i64 x.lo1, .int .i64 x.lo2, .int .i64 x.rd0, .int .i64 x.rd1, .int .i64 x.rd2, .slice x.gon.A x.gon.n x.gon.c, .slice x.src.A x.src.n x.src.c]) ∧ Hid (Below w.heap.size w wx) ∧ Hid (Below w3.heap.size w3 wx))
        case first =>
          have p0 := HW3.out.cell 0
          have p1 := HW3.out.cell 1
          have p2 := HW3.out.cell 2
          have p3 := HW3.out.cell 3
          have p4 := HW3.out.cell 4
          have p5 := HW3.out.cell 5
          have p6 := HW3.out.cell 6
          have p7 := HW3.out.cell 7
          have p8 := HW3.out.cell 8
          have p9 := HW3.out.cell 9
          have p10 := HW3.out.cell 10
          have p11 := HW3.out.cell 11
          have q := HW3.out.alloc (.cells #[.int .i64 0, .int .i64 0, .int .i64 0, .slice none 0 0, .int .i64 0, .int .i64 0, .int .i64 0, .int .i64 0, .int .i64 0, .int .i64 0, .slice none 0 0, .slice none 0 0] 42)
          have q0 := q.cell 0
          have q1 := q.cell 1
          have q2 := q.cell 2
          have q3 := q.cell 3
          have q4 := q.cell 4
          have q5 := q.cell 5
          have q6 := q.cell 6
          have q7 := q.cell 7
          have q8 := q.cell 8
          have q9 := q.cell 9
          have q10 := q.cell 10
          have q11 := q.cell 11
          have r := (HW3.out.alloc (.cells #[.int .i64 0, .int .i64 0, .int .i64 0, .slice none 0 0, .int .i64 0, .int .i64 0, .int .i64 0, .int .i64 0, .int .i64 0, .int .i64 0, .slice none 0 0, .slice none 0 0] 42)).alloc (.cells #[.int .i64 0, .int .i64 0, .int .i64 0, .slice none 0 0, .int .i64 0, .int .i64 0, .int .i64 0, .int .i64 0, .int .i64 0, .int .i64 0, .slice none 0 0, .slice none 0 0] 42)
          have r0 := r.cell 0
          have r1 := r.cell 1
          have r2 := r.cell 2
          have r3 := r.cell 3
          have r4 := r.cell 4
          have r5 := r.cell 5
          have r6 := r.cell 6
          have r7 := r.cell 7
          have r8 := r.cell 8
          have r9 := r.cell 9
          have r10 := r.cell 10
          have r11 := r.cell 11
          have s := (HW3.out.alloc (.cells #[.int .i64 x.r, .int .i64 x.fr, .int .i64 x.tt, .slice x.ask.A x.ask.n x.ask.c, .int .i64 x.lo0, .int .i64 x.lo1, .int .i64 x.lo2, .int .i64 x.rd0, .int .i64 x.rd1, .int .i64 x.rd2, .slice x.gon.A x.gon.n x.gon.c, .slice x.src.A x.src.n x.src.c] 42)).alloc (.cells #[.int .i64 0, .int .i64 0, .int .i64 0, .slice none 0 0, .int .i64 0, .int .i64 0, .int .i64 0, .int .i64 0, .int .i64 0, .int .i64 0, .slice none 0 0, .slice none 0 0] 42)
          have s0 := s.cell 0
          have s1 := s.cell 1
          have s2 := s.cell 2
          have s3 := s.cell 3
          have s4 := s.cell 4
          have s5 := s.cell 5
          have s6 := s.cell 6
          have s7 := s.cell 7
          have s8 := s.cell 8
          have s9 := s.cell 9
          have s10 := s.cell 10
          have s11 := s.cell 11
          have t := (HW3.out.alloc (.cells #[.int .i64 0, .int .i64 0, .int .i64 0, .slice none 0 0, .int .i64 0, .int .i64 0, .int .i64 0, .int .i64 0, .int .i64 0, .int .i64 0, .slice none 0 0, .slice none 0 0] 42)).alloc (.cells #[.int .i64 x.r, .int .i64 x.fr, .int .i64 x.tt, .slice x.ask.A x.ask.n x.ask.c, .int .i64 x.lo0, .int .i64 x.lo1, .int .i64 x.lo2, .int .i64 x.rd0, .int .i64 x.rd1, .int .i64 x.rd2, .slice x.gon.A x.gon.n x.gon.c, .slice x.src.A x.src.n x.src.c] 42)
          have t0 := t.cell 0
          have t1 := t.cell 1
          have t2 := t.cell 2
          have t3 := t.cell 3
          have t4 := t.cell 4
          have t5 := t.cell 5
          have t6 := t.cell 6
          have t7 := t.cell 7
          have t8 := t.cell 8
          have t9 := t.cell 9
          have t10 := t.cell 10
          have t11 := t.cell 11
          clear q r s t
          go_region
          all_goals
            clear p0 p1 p2 p3 p4 p5 p6 p7 p8 p9 p10 p11 q0 q1 q2 q3 q4 q5 q6 q7 q8 q9 q10 q11 r0 r1 r2 r3 r4 r5 r6 r7 r8 r9 r10 r11 s0 s1 s2 s3 s4 s5 s6 s7 s8 s9 s10 s11 t0 t1 t2 t3 t4 t5 t6 t7 t8 t9 t10 t11
            have hwa := (Whole1.new w3 42 #[.int .i64 x.r, .int .i64 x.fr, .int .i64 x.tt, .slice x.ask.A x.ask.n x.ask.c, .int .i64 x.lo0, .int .i64 x.lo1, .int .i64 x.lo2, .int .i64 x.rd0, .int .i64 x.rd1, .int .i64 x.rd2, .slice x.gon.A x.gon.n x.gon.c, .slice x.src.A x.src.n x.src.c]).alloc (.cells #[.int .i64 x.r, .int .i64 x.fr, .int .i64 x.tt, .slice x.ask.A x.ask.n x.ask.c, .int .i64 x.lo0, .int .i64 x.lo1, .int .i64 x.lo2, .int .i64 x.rd0, .int .i64 x.rd1, .int .i64 x.rd2, .slice x.gon.A x.gon.n x.gon.c, .slice x.src.A x.src.n x.src.c] 42)
            have hwb := Whole1.new (w3.alloc (.cells #[.int .i64 x.r, .int .i64 x.fr, .int .i64 x.tt, .slice x.ask.A x.ask.n x.ask.c, .int .i64 x.lo0, .int .i64 x.lo1, .int .i64 x.lo2, .int .i64 x.rd0, .int .i64 x.rd1, .int .i64 x.rd2, .slice x.gon.A x.gon.n x.gon.c, .slice x.src.A x.src.n x.src.c] 42)) 42 #[.int .i64 x.r, .int .i64 x.fr, .int .i64 x.tt, .slice x.ask.A x.ask.n x.ask.c, .int .i64 x.lo0, .int .i64 x.lo1, .int .i64 x.lo2, .int .i64 x.rd0, .int .i64 x.rd1, .int .i64 x.rd2, .slice x.gon.A x.gon.n x.gon.c, .slice x.src.A x.src.n x.src.c]
            rw [World.size_alloc] at hwb
            have hb4 : Below w3.heap.size w3 ((w3.alloc (.cells #[.int .i64 x.r, .int .i64 x.fr, .int .i64 x.tt, .slice x.ask.A x.ask.n x.ask.c, .int .i64 x.lo0, .int .i64 x.lo1, .int .i64 x.lo2, .int .i64 x.rd0, .int .i64 x.rd1, .int .i64 x.rd2, .slice x.gon.A x.gon.n x.gon.c, .slice x.src.A x.src.n x.src.c] 42)).alloc (.cells #[.int .i64 x.r, .int .i64 x.fr, .int .i64 x.tt, .slice x.ask.A x.ask.n x.ask.c, .int .i64 x.lo0, .int .i64 x.lo1, .int .i64 x.lo2, .int .i64 x.rd0, .int .i64 x.rd1, .int .i64 x.rd2, .slice x.gon.A x.gon.n x.gon.c, .slice x.src.A x.src.n x.src.c] 42)).drew := (((Below.refl _ _).alloc (Nat.le_refl _) _).alloc (by simp) _).drew
            have hlt4 := HW3.out.lt
            obtain ⟨a, ha⟩ : ∃ a, w3.heap.size = a := ⟨_, rfl⟩
            obtain ⟨b, hb⟩ : ∃ b, w3.heap.size + 1 = b := ⟨_, rfl⟩
            have HB4 := hidden (HB3.out.trans (hb4.mono HB3.out.size))
            have HB34 := hidden hb4
            have HW4 := hidden (HW3.out.below hb4 HW3.out.lt)
            have hne : a ≠ b := by omega
            have hga : g < a := by omega
            have hgb : g < b := by omega
            rw [hb] at hwb ⊢
            rw [ha] at hwa ⊢
            have hwa4 : Whole1 ((w3.alloc (.cells #[.int .i64 x.r, .int .i64 x.fr, .int .i64 x.tt, .slice x.ask.A x.ask.n x.ask.c, .int .i64 x.lo0, .int .i64 x.lo1, .int .i64 x.lo2, .int .i64 x.rd0, .int .i64 x.rd1, .int .i64 x.rd2, .slice x.gon.A x.gon.n x.gon.c, .slice x.src.A x.src.n x.src.c] 42)).alloc (.cells #[.int .i64 x.r, .int .i64 x.fr, .int .i64 x.tt, .slice x.ask.A x.ask.n x.ask.c, .int .i64 x.lo0, .int .i64 x.lo1, .int .i64 x.lo2, .int .i64 x.rd0, .int .i64 x.rd1, .int .i64 x.rd2, .slice x.gon.A x.gon.n x.gon.c, .slice x.src.A x.src.n x.src.c] 42)).drew a 42 #[.int .i64 x.r, .int .i64 x.fr, .int .i64 x.tt, .slice x.ask.A x.ask.n x.ask.c, .int .i64 x.lo0, .int .i64 x.lo1, .int .i64 x.lo2, .int .i64 x.rd0, .int .i64 x.rd1, .int .i64 x.rd2, .slice x.gon.A x.gon.n x.gon.c, .slice x.src.A x.src.n x.src.c] := hwa
            have hwb4 : Whole1 ((w3.alloc (.cells #[.int .i64 x.r, .int .i64 x.fr, .int .i64 x.tt, .slice x.ask.A x.ask.n x.ask.c, .int .i64 x.lo0, .int .i64 x.lo1, .int .i64 x.lo2, .int .i64 x.rd0, .int .i64 x.rd1, .int .i64 x.rd2, .slice x.gon.A x.gon.n x.gon.c, .slice x.src.A x.src.n x.src.c] 42)).alloc (.cells #[.int .i64 x.r, .int .i64 x.fr, .int .i64 x.tt, .slice x.ask.A x.ask.n x.ask.c, .int .i64 x.lo0, .int .i64 x.lo1, .int .i64 x.lo2, .int .i64 x.rd0, .int .i64 x.rd1, .int .i64 x.rd2, .slice x.gon.A x.gon.n x.gon.c, .slice x.src.A x.src.n x.src.c] 42)).drew b 42 #[.int .i64 x.r, .int .i64 x.fr, .int .i64 x.tt, .slice x.ask.A x.ask.n x.ask.c, .int .i64 x.lo0, .int .i64 x.lo1, .int .i64 x.lo2, .int .i64 x.rd0, .int .i64 x.rd1, .int .i64 x.rd2, .slice x.gon.A x.gon.n x.gon.c, .slice x.src.A x.src.n x.src.c] := hwb
            have HNE := hidden (And.intro hne (And.intro hga hgb))
            have HAW := hidden (show w3.heap.size ≤ a ∧ w3.heap.size ≤ b by omega)
            clear hwa hwb hb4 ha hb hlt4 hne hga hgb
            generalize ((w3.alloc (.cells #[.int .i64 x.r, .int .i64 x.fr, .int .i64 x.tt, .slice x.ask.A x.ask.n x.ask.c, .int .i64 x.lo0, .int .i64 x.lo1, .int .i64 x.lo2, .int .i64 x.rd0, .int .i64 x.rd1, .int .i64 x.rd2, .slice x.gon.A x.gon.n x.gon.c, .slice x.src.A x.src.n x.src.c] 42)).alloc (.cells #[.int .i64 x.r, .int .i64 x.fr, .int .i64 x.tt, .slice x.ask.A x.ask.n x.ask.c, .int .i64 x.lo0, .int .i64 x.lo1, .int .i64 x.lo2, .int .i64 x.rd0, .int .i64 x.rd1, .int .i64 x.rd2, .slice x.gon.A x.gon.n x.gon.c, .slice x.src.A x.src.n x.src.c] 42)).drew = w4 at *
            go_wp2_with fail
            go_meet
            have h0 := HG.out
            have h1 := HNE.out
            first
              | exact ⟨a, b, rfl, rfl, hidden ⟨h1.1, h1.2.1, h1.2.2, by omega, by omega, HAW.out.1, HAW.out.2⟩, hidden hwa4, hidden hwb4, HW4, HB4, HB34⟩
              | exact ⟨b, a, rfl, rfl, hidden ⟨fun e => h1.1 e.symm, h1.2.2, h1.2.1, by omega, by omega, HAW.out.2, HAW.out.1⟩, hidden hwb4, hidden hwa4, HW4, HB4, HB34⟩
        case rest =>
          obtain ⟨a, b, rfl, rfl, hn4, hA4, hB4, hG4, hBw4, hB34⟩ := hcut
          have HM := hidden (And.intro hlo hhi)
          have a2 := hA4.out.cell 2
          have fa2 := hA4.out.free 2
          have b1 := hB4.out.cell 1
          have fb1 := hB4.out.free 1
          have mw : IntKind.i64.wrap (mid + 1) = mid + 1 := Go.IntWalk.i64_in (mid + 1) (by have := H.out.tt; omega)
          have g1 := gb_put (gb_refl wc (some a)) 2 (.int .i64 mid)
          have g2 := gb_put (gb_refl (wc.setCell ⟨a, 2, none⟩ (.int .i64 mid)) (some b)) 1 (.int .i64 (mid + 1))
          have la := hA4.out.lt
          have lb := hB4.out.lt
          have la2 : a < (wc.setCell ⟨a, 2, none⟩ (.int .i64 mid)).heap.size := Nat.lt_of_lt_of_le la g1.size
          have hA5 : Whole1 ((wc.setCell ⟨a, 2, none⟩ (.int .i64 mid)).setCell ⟨b, 1, none⟩ (.int .i64 (mid + 1))) a 42 #[.int .i64 x.r, .int .i64 x.fr, .int .i64 mid, .slice x.ask.A x.ask.n x.ask.c, .int .i64 x.lo0, .int .i64 x.lo1, .int .i64 x.lo2, .int .i64 x.rd0, .int .i64 x.rd1, .int .i64 x.rd2, .slice x.gon.A x.gon.n x.gon.c, .slice x.src.A x.src.n x.src.c] := (g2.block a la2 (by simpa using hn4.out.1)).trans (hA4.out.put 2 (.int .i64 mid))
          have hB5 : Whole1 ((wc.setCell ⟨a, 2, none⟩ (.int .i64 mid)).setCell ⟨b, 1, none⟩ (.int .i64 (mid + 1))) b 42 #[.int .i64 x.r, .int .i64 (mid + 1), .int .i64 x.tt, .slice x.ask.A x.ask.n x.ask.c, .int .i64 x.lo0, .int .i64 x.lo1, .int .i64 x.lo2, .int .i64 x.rd0, .int .i64 x.rd1, .int .i64 x.rd2, .slice x.gon.A x.gon.n x.gon.c, .slice x.src.A x.src.n x.src.c] := Whole1.put (show Whole1 (wc.setCell ⟨a, 2, none⟩ (.int .i64 mid)) b 42 #[.int .i64 x.r, .int .i64 x.fr, .int .i64 x.tt, .slice x.ask.A x.ask.n x.ask.c, .int .i64 x.lo0, .int .i64 x.lo1, .int .i64 x.lo2, .int .i64 x.rd0, .int .i64 x.rd1, .int .i64 x.rd2, .slice x.gon.A x.gon.n x.gon.c, .slice x.src.A x.src.n x.src.c] from (g1.block b lb (by simpa using Ne.symm hn4.out.1)).trans hB4.out) 1 (.int .i64 (mid + 1))
          have hBw5 : Below w.heap.size w ((wc.setCell ⟨a, 2, none⟩ (.int .i64 mid)).setCell ⟨b, 1, none⟩ (.int .i64 (mid + 1))) := (hBw4.out.grown g1 hBw4.out.size (fun q hq => by cases hq; exact hn4.out.2.2.2.1)).grown g2 (Nat.le_trans hBw4.out.size g1.size) (fun q hq => by cases hq; exact hn4.out.2.2.2.2.1)
          have hB35 : Below w3.heap.size w3 ((wc.setCell ⟨a, 2, none⟩ (.int .i64 mid)).setCell ⟨b, 1, none⟩ (.int .i64 (mid + 1))) := (hB34.out.grown g1 hB34.out.size (fun q hq => by cases hq; exact hn4.out.2.2.2.2.2.1)).grown g2 (Nat.le_trans hB34.out.size g1.size) (fun q hq => by cases hq; exact hn4.out.2.2.2.2.2.2)
          have hL5 := HR.out.2.1.on hB35
          have p0 := hA5.cell 0
          have p1 := hA5.cell 1
          have p2 := hA5.cell 2
          have p3 := hA5.cell 3
          have p4 := hA5.cell 4
          have p5 := hA5.cell 5
          have p6 := hA5.cell 6
          have p7 := hA5.cell 7
          have p8 := hA5.cell 8
          have p9 := hA5.cell 9
          have p10 := hA5.cell 10
          have p11 := hA5.cell 11
          have HA5 := hidden hA5
          have HB5 := hidden hB5
          have HBw5 := hidden hBw5
          have HL5 := hidden hL5
          have S4 := hidden (case_any { x with tt := mid } ((wc.setCell ⟨a, 2, none⟩ (.int .i64 mid)).setCell ⟨b, 1, none⟩ (.int .i64 (mid + 1))) ⟨H.out.fr, ⟨hm1, hm2⟩, H.out.rds, (H.out.on hBw5).ask, H.out.askn, (H.out.on hBw5).gon, (H.out.on hBw5).src, H.out.few, H.out.lbl⟩)
          clear HB3 HW3 hlo hhi g1 g2 la lb la2 hA5 hB5 hBw5 hB35 hL5 hA4 hB4 hG4 hBw4 hB34
          go_wp2_with fail
          obtain ⟨W5, hW5⟩ : ∃ W5, (wc.setCell ⟨a, 2, none⟩ (.int .i64 mid)).setCell ⟨b, 1, none⟩ (.int .i64 (mid + 1)) = W5 := ⟨_, rfl⟩
          rw [hW5] at HA5 HB5 HBw5 HL5 S4 ⊢
          refine S4.out.mono ?_
          rintro e w6 ⟨na, fa, Ba, ca, La, rfl, hLa, b6, oka, k4, k5, k6⟩
          have HRa := hidden (And.intro fa (And.intro hLa (And.intro oka (And.intro k4 (And.intro k5 k6)))))
          have HB6 := hidden (HBw5.out.trans (b6.mono HBw5.out.size))
          have HL6 := hidden (HL5.out.on b6)
          have HBb6 := hidden (HB5.out.below b6 HB5.out.lt)
          have ea : runE x.r x.fr mid = 0 := by
            have h1 := HE.out
            unfold runE at h1 ⊢
            split at h1
            · cases h1
            · rename_i h2
              rw [if_neg h2, if_neg (by have := HM.out; omega)]
          rw [show runE ({ x with tt := mid } : CaseV).r ({ x with tt := mid } : CaseV).fr ({ x with tt := mid } : CaseV).tt = 0 from ea]
          clear S4 hLa b6 oka k4 k5 k6 fa HL5 HB5 HA5 HBw5 hW5 ea p0 p1 p2 p3 p4 p5 p6 p7 p8 p9 p10 p11 a2 b1 fa2 fb1
          have p0 := HBb6.out.cell 0
          have p1 := HBb6.out.cell 1
          have p2 := HBb6.out.cell 2
          have p3 := HBb6.out.cell 3
          have p4 := HBb6.out.cell 4
          have p5 := HBb6.out.cell 5
          have p6 := HBb6.out.cell 6
          have p7 := HBb6.out.cell 7
          have p8 := HBb6.out.cell 8
          have p9 := HBb6.out.cell 9
          have p10 := HBb6.out.cell 10
          have p11 := HBb6.out.cell 11
          have S6 := hidden (case_any { x with fr := mid + 1 } w6 ⟨show -9223372036854775808 ≤ mid + 1 ∧ mid + 1 < 9223372036854775808 by have := H.out.tt; have := HM.out; omega, H.out.tt, H.out.rds, (H.out.on HB6.out).ask, H.out.askn, (H.out.on HB6.out).gon, (H.out.on HB6.out).src, H.out.few, H.out.lbl⟩)
          go_wp2_with fail
          refine S6.out.mono ?_
          rintro e w7 ⟨nb, fb, Bb, cb, Lb, rfl, hLb, b7, okb, k4, k5, k6⟩
          have HRb := hidden (And.intro fb (And.intro hLb (And.intro okb (And.intro k4 (And.intro k5 k6)))))
          have HB7 := hidden (HB6.out.trans (b7.mono HB6.out.size))
          have HL7 := hidden (HL6.out.on b7)
          have HLa7 := hidden (HRa.out.2.1.on b7)
          have eb : runE x.r (mid + 1) x.tt = 0 := by
            have h1 := HE.out
            unfold runE at h1 ⊢
            split at h1
            · cases h1
            · rename_i h2
              rw [if_neg h2, if_neg (by have := HM.out; omega)]
          rw [show runE ({ x with fr := mid + 1 } : CaseV).r ({ x with fr := mid + 1 } : CaseV).fr ({ x with fr := mid + 1 } : CaseV).tt = 0 from eb]
          clear S6 hLb b7 okb k4 k5 k6 fb HL6 HBb6 HB6 eb p0 p1 p2 p3 p4 p5 p6 p7 p8 p9 p10 p11
          have hsa : SS w7 ⟨Ba, La.length, ca, La⟩ := ⟨HLa7.out, HRa.out.2.2.2.1⟩
          have hsb : SS w7 ⟨Bb, Lb.length, cb, Lb⟩ := ⟨HRb.out.2.1, HRb.out.2.2.2.1⟩
          have hsm := H.out.small
          have hna : La.length ≤ 1048576 := Nat.le_trans HRa.out.2.2.2.2.1 hsm.1
          have hnb : Lb.length ≤ 1048576 := Nat.le_trans HRb.out.2.2.2.2.1 hsm.1
          have hwa : wsum La ≤ 1048576 := by rw [wsum_sk HLa7.out]; exact Nat.le_trans HRa.out.2.2.2.2.2.1 hsm.2
          have hwb : wsum Lb ≤ 1048576 := by rw [wsum_sk HRb.out.2.1]; exact Nat.le_trans HRb.out.2.2.2.2.2.1 hsm.2
          have S8 := hidden (mergeK_law w7 [⟨Ba, La.length, ca, La⟩, ⟨Bb, Lb.length, cb, Lb⟩] 2 rfl (mem_two hsa hsb) (by show La.length + (Lb.length + 0) ≤ _; omega) (by show wsum La + (wsum Lb + 0) ≤ _; omega) (by omega))
          clear hsa hsb hsm hna hnb hwa hwb
          go_wp2_with fail
          refine S8.out.mono ?_
          rintro e w8 ⟨M, rfl, hM, hMc, hMe, b8, _, _⟩
          rw [allOf_two] at hMe
          have HK := hidden (show M.l.map Ser.sk = L.map Ser.sk from halves_plain HR.out.2.2.1 HRa.out.2.2.1 HRb.out.2.2.1 (HRa.out.1.trans HR.out.1.symm) (HRb.out.1.trans HR.out.1.symm) HE.out (by have := HM.out; omega) (by have := HM.out; omega) hMc hMe)
          have HB8 := hidden (HB7.out.trans (b8.mono HB7.out.size))
          have HL8 := hidden (HL7.out.on b8)
          have S9 := hidden (ref_law M.A M.n M.c M.l w8 hM.1)
          clear hM hMc hMe b8 S8 HL7 HB7 HLa7
          go_wp2_with fail
          refine S9.out.mono ?_
          rintro e w9 ⟨A9, c9, L9, rfl, h9, hk9, b9⟩
          have HB9 := hidden (HB8.out.trans (b9.mono HB8.out.size))
          have HL9 := hidden (HL8.out.on b9)
          have H9 := hidden (And.intro h9 hk9)
          have S10 := hidden (ref_law B L.length c' L w9 HL9.out)
          clear h9 hk9 b9 S9 HL8 HB8
          go_wp2_with fail
          refine S10.out.mono ?_
          rintro e w10 ⟨A10, c10, L10, rfl, h10, hk10, b10⟩
          have HB10 := hidden (HB9.out.trans (b10.mono HB9.out.size))
          have S11 := hidden (same19 A9 A10 _ _ c9 c10 L9 L10 w10 (H9.out.1.on b10) h10 (H9.out.2.trans (HK.out.trans hk10.symm)))
          clear h10 hk10 b10 S10
          go_wp2_with fail
          refine S11.out.mono ?_
          rintro e w11 ⟨rfl, b11⟩
          have HB11 := hidden (HB10.out.trans (b11.mono HB10.out.size))
          clear b11 S11
          go_wp2_with fail
          go_ret
          exact ⟨rfl, HB11.out⟩
  · have e0 : (E != 0) = true := by simpa using hE0
    have hl : ((L.length : Int) == 0) = true := by
      have h1 := (HR.out.2.2.1).1 (by rw [HE.out]; exact hE0)
      have h2 := congrArg List.length h1
      rw [List.length_map] at h2
      simp [h2]
    go_wp2_with fail
    go_ret
    exact ⟨rfl, HB3.out⟩
theorem queryHalves_walk {H : Type} (enc : TypeId × Value → H) : LawWalk enc Tryz.prog 4 Tryz.f4 (fun ds => Rows.uptoBulkAll ds ≤ 1048576) := by
  intro W base args ds p hval hA hlt hsz hcond
  rw [Tryz.params4] at hval hA hsz
  obtain ⟨v0, vs0, d0, ds0, p0, q0, hargs, rfl, rfl, h0, r0⟩ := trodAll_cons hA
  obtain ⟨v1, vs1, d1, ds1, p1, q1, rfl, rfl, rfl, h1, r1⟩ := trodAll_cons r0
  obtain ⟨rfl, rfl, rfl⟩ := trodAll_nil r1
  obtain rfl : args = #[v0, v1] := by cases args; simp_all
  obtain ⟨x, rfl, hx⟩ := open_case (hval 0 42 v0 rfl rfl) h0 (arg_fits (j := 0) rfl rfl (fun x hx => hlt x (by simp [hx])) hsz hcond)
  obtain ⟨mid, rfl, hm⟩ := open_arg_int Tryz.underlying2 (hval 1 2 v1 rfl rfl) h1
  have hmw := wf_i64 hm
  exact halves_any x mid W hx hmw.1 hmw.2

namespace queryHalvesUpto
set_option maxRecDepth 100000 in
theorem lifted (os : Os) (started : os.Started) (H : Type) (enc : TypeId × Value → H) (F : Stop.Interp) :
    ReturnsInHanded {} Tryz.checked os 4 .any ((Rows.OpenSpec.upto Rows.queryHalvesSpec).pre6 enc Tryz.prog Tryz.f4 Rows.queryHalvesUptoRow.domain false) (((Rows.OpenSpec.upto Rows.queryHalvesSpec).at F).post enc Tryz.prog Tryz.f4 false true false false) :=
  law_upto (C := Tryz.checked) (s := Rows.queryHalvesSpec) (tb := 4) own_prog started (by kernel_rfl) Tryz.func4
    (OpenSpec.witness (enc := enc) (C := Tryz.checked) (s := Rows.OpenSpec.upto Rows.queryHalvesSpec) (k := Rows.uptoSmall) rfl false ⟨#[], #[.agg #[.int .i64 0, .int .i64 0, .int .i64 0, .slice none 0 0, .int .i64 0, .int .i64 0, .int .i64 0, .int .i64 0, .int .i64 0, .int .i64 0, .slice none 0 0, .slice none 0 0], .int .i64 0], []⟩ 8 (by kernel_rfl) (by kernel_rfl) (by kernel_rfl)
      (x := ([.agg [.lit (.int .i64 0), .lit (.int .i64 0), .lit (.int .i64 0), .nil, .agg [.agg [.lit (.int .i64 0), .lit (.int .i64 0), .lit (.int .i64 0)], .agg [.lit (.int .i64 0), .lit (.int .i64 0), .lit (.int .i64 0)]], .nil, .nil], .lit (.int .i64 0)], [], [])) (by kernel_rfl) rfl (by kernel_rfl))
    laidOut (by kernel_rfl) rfl Tryz.underlying4 ⟨rfl, fun H ds h => match ds, h with | [_, _], _ => ⟨rfl, rfl, rfl⟩⟩ (queryHalves_walk enc)

end queryHalvesUpto
end Go.Proofs.YtbijjjhfekkfaaaGreat
