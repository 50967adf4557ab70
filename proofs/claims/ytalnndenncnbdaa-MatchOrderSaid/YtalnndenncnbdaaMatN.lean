/- match.New, walked: the matcher, or the error. Condition: the texts are no longer than memory. -/
import Derived.Test.YtalnndenncnbdaaMatV
namespace Go.Proofs.Ytalnndenncnbdaa
set_option maxRecDepth 100000
open Go.RowKit

/-- what New answers -/
def NewR (w0 w : World) (kind : Int) (name value : ByteArray) (res : Except Int (ByteArray → Bool)) (e : Ending) : Prop :=
  Below w0.heap.size w0 w ∧ match res with
  | .error c => e = .returned (.tuple #[.pointer none, .int .i64 c]) ∧ c ≠ 0
  | .ok F => ∃ M, e = .returned (.tuple #[.pointer (some ⟨M, 0, none⟩), .int .i64 0]) ∧ MatAt w M kind name value F
theorem turned_any (fn : Fn) (a b : Array Value) (w : World) : Calls Try.prog 16 #[.func fn a b] w fun e w' => ∃ tb, e = .returned (.func (.func 32) #[] #[.pointer (some ⟨tb, 0, none⟩)]) ∧ Whole1 w' tb 32 #[.func fn a b] ∧ Below w.heap.size w w' := by
  have hmf : ∀ (fn : Fn) (first cap : Array Value) (w : World), (Instr.makeFunc fn first cap).run Try.prog w = .ok (.func fn first cap) w := fun _ _ _ _ => rfl
  go_enter Try.func16, Try.ntmps16
  go_wp2_with fail
  go_ret
  exact ⟨_, rfl, Whole1.new w _ _, (Below.refl _ _).alloc (Nat.le_refl _) _⟩
section
variable {kind : Int} {name value : ByteArray} (h1 : ¬ (kind < 0 ∨ 3 < kind)) (h2 : makeErr [⟨name, ⟨#[120]⟩⟩] = 0)
include h1 h2
theorem newF_long (hk : kind ≤ 1) (hv : 64 < value.size) : newF kind name value = .error 41 := by
  unfold newF
  rw [if_neg h1, if_neg (by rw [h2]; simp), if_pos hk, if_pos hv]
theorem newF_same (hk : kind ≤ 1) (hv : ¬ 64 < value.size) : newF kind name value = .ok fun v => decide (v = value) != decide (kind = 1) := by
  unfold newF
  rw [if_neg h1, if_neg (by rw [h2]; simp), if_pos hk, if_neg hv]
theorem newF_bad (hk : ¬ kind ≤ 1) {c : Nat} (hp : parseP value.data.toList = .bad c) : newF kind name value = .error (c : Int) := by
  unfold newF
  rw [if_neg h1, if_neg (by rw [h2]; simp), if_neg hk, hp]
theorem newF_like (hk : ¬ kind ≤ 1) {t : Tr} {j : Nat} (hp : parseP value.data.toList = .ok t j) : newF kind name value = .ok fun v => matT t (bytesN v) != decide (kind = 3) := by
  unfold newF
  rw [if_neg h1, if_neg (by rw [h2]; simp), if_neg hk, hp]
end

set_option maxHeartbeats 6400000 in
theorem new_any (kind : Int) (name value : ByteArray) (w : World) (hn : name.size ≤ 140737488355328) (hv : value.size ≤ 140737488355328) :
    Calls Try.prog 6 #[.int .i64 kind, .string name, .string value] w fun e w' => NewR w w' kind name value (newF kind name value) e := by
  have hmf : ∀ (fn : Fn) (first cap : Array Value) (w : World), (Instr.makeFunc fn first cap).run Try.prog w = .ok (.func fn first cap) w := fun _ _ _ _ => rfl
  obtain ⟨bx, hbx⟩ : ∃ bx, bx = w.heap.size := ⟨_, rfl⟩
  obtain ⟨M, hM⟩ : ∃ M, M = bx + 1 := ⟨_, rfl⟩
  obtain ⟨w1, hw1⟩ : ∃ w1, (w.alloc (.cells #[.string value] 9)).alloc (.cells #[.int .i64 kind, .string name, .string value, .nilFunc] 43) = w1 := ⟨_, rfl⟩
  have o1 := (Whole1.new w 9 #[.string value]).alloc (.cells #[.int .i64 kind, .string name, .string value, .nilFunc] 43)
  have o2 := Whole1.new (w.alloc (.cells #[.string value] 9)) 43 #[.int .i64 kind, .string name, .string value, .nilFunc]
  have hb1 : Below w.heap.size w w1 := hw1 ▸ ((Below.refl _ _).alloc (Nat.le_refl _) _).alloc (by simp) _
  rw [hw1] at o1 o2
  rw [World.size_alloc] at o2
  rw [← hbx] at o1 o2
  rw [← hM] at o2
  obtain ⟨RR, hRR⟩ : ∃ RR, newF kind name value = RR := ⟨_, rfl⟩
  have HRR := hidden hRR
  have HX := hidden (And.intro hbx (And.intro hM hw1))
  have H1 := hidden o1
  have H2 := hidden o2
  have HB := hidden hb1
  rw [hRR]
  have n0 : bx < M := by omega
  clear hbx hM hw1 o1 o2 hb1 hRR
  go_enter Try.func6, Try.ntmps6
  by_cases hk : kind < 0 ∨ 3 < kind
  · have HF := hidden (show RR = .error 80 from by rw [← HRR.out, newF, if_pos hk])
    have hFin := hidden (show NewR w ((w.alloc (.cells #[.string value] 9)).alloc (.cells #[.int .i64 kind, .string name, .string value, .nilFunc] 43)) kind name value RR (.returned (.tuple #[.pointer none, .int .i64 80])) from by
      rw [HX.out.2.2, HF.out]; exact ⟨HB.out, rfl, by decide⟩)
    by_cases hk0 : kind < 0
    · go_wp2_with fail
      go_ret2
      exact hFin.out
    · have hk3 : 3 < kind := by omega
      go_wp2_with fail
      go_ret2
      exact hFin.out
  · have k0 : ¬ kind < 0 := by omega
    have k3 : ¬ 3 < kind := by omega
    have HK := hidden hk
    clear hk
    obtain ⟨q, hq⟩ : ∃ q, q = M + 1 := ⟨_, rfl⟩
    obtain ⟨w2, hw2⟩ : ∃ w2, w1.alloc (.cells #[.string name, .string ⟨#[120]⟩] 30) = w2 := ⟨_, rfl⟩
    have hqs : q = w1.heap.size := by rw [hq, ← HX.out.2.2, HX.out.2.1, HX.out.1]; simp
    have hr2 : Row w2 w2.heap.size 2 (some ⟨q, 0, none⟩) 1 [.string name, .string ⟨#[120]⟩] := by
      have := Row.fresh w1 30 2 1 [.string name, .string ⟨#[120]⟩] rfl
      rw [← hqs] at this
      rw [← hw2]
      exact this.more (by simp; omega)
    have hb2 : Below w1.heap.size w1 w2 := hw2 ▸ (Below.refl _ _).alloc (Nat.le_refl _) _
    have S1 := hidden (lmake_any (some ⟨q, 0, none⟩) 1 1 [⟨name, ⟨#[120]⟩⟩] w2 ⟨hr2, rfl, by decide, fun x hx => by
      simp only [List.mem_singleton] at hx
      subst hx
      exact ⟨hn, show (⟨#[120]⟩ : ByteArray).size ≤ 140737488355328 from by decide⟩⟩ (Nat.le_refl _))
    obtain ⟨me, hme⟩ : ∃ me, makeErr [⟨name, ⟨#[120]⟩⟩] = me := ⟨_, rfl⟩
    rw [hme] at S1
    have HME := hidden hme
    have HY := hidden (And.intro hq hw2)
    have HB2 := hidden hb2
    clear hq hw2 hqs hr2 hb2 hme
    go_wp2_with fail
    rw [← HX.out.1, ← HX.out.2.1, HX.out.2.2, ← HY.out.1, HY.out.2]
    refine S1.out.mono ?_
    rintro e w3 ⟨lv, rfl, _, b3⟩
    have HB3 := hidden (HB2.out.trans (b3.mono HB2.out.size))
    have hbx3 := H1.out.below HB3.out H1.out.lt
    have hM3 := H2.out.below HB3.out H2.out.lt
    have c0 := hbx3.cell 0
    have m3 := hM3.cell 3
    have f3 := hM3.free 3
    have HM3 := hidden hM3
    have HX3 := hidden hbx3
    clear S1 b3 hbx3 hM3
    by_cases hm0 : me = 0
    · subst hm0
      have hsf1 := fun (a : Addr) (c : Array Value) (w : World) => run_store Try.prog w a (.func (.func 12) #[] c) .plain rfl
      have hsf2 := fun (a : Addr) (c : Array Value) (w : World) => run_store Try.prog w a (.func (.func 14) #[] c) .plain rfl
      have hsf3 := fun (a : Addr) (c : Array Value) (w : World) => run_store Try.prog w a (.func (.func 32) #[] c) .plain rfl
      have hMb : M ≠ bx := by omega
      have hwM : w.heap.size ≤ M := by have := HX.out; omega
      have HB03 := hidden (HB.out.trans (HB3.out.mono HB.out.size))
      have hkk : kind = 0 ∨ kind = 1 ∨ kind = 2 ∨ kind = 3 := by omega
      rcases hkk with rfl | rfl | rfl | rfl
      · by_cases hl : 64 < value.size
        · have hli : (64 : Int) < (value.size : Int) := by omega
          have HF := hidden (show NewR w w3 0 name value RR (.returned (.tuple #[.pointer none, .int .i64 41])) from by
            rw [← HRR.out, newF_long HK.out HME.out (by decide) hl]
            exact ⟨HB03.out, rfl, by decide⟩)
          go_wp2_with fail
          go_ret2
          exact HF.out
        · have hli : ¬ (64 : Int) < (value.size : Int) := by omega
          have HN := hidden (newF_same HK.out HME.out (by decide) hl)
          have hm4 := HM3.out.put 3 (.func (.func 12) #[] #[.pointer (some ⟨bx, 0, none⟩)])
          have hx4 := HX3.out.off (p := ⟨M, 3, none⟩) (fun e => hMb e.symm) (.func (.func 12) #[] #[.pointer (some ⟨bx, 0, none⟩)])
          have hb4 : Below w.heap.size w (w3.setCell ⟨M, 3, none⟩ (.func (.func 12) #[] #[.pointer (some ⟨bx, 0, none⟩)])) := HB03.out.setCell (p := ⟨M, 3, none⟩) hwM _
          have HF := hidden (show NewR w (w3.setCell ⟨M, 3, none⟩ (.func (.func 12) #[] #[.pointer (some ⟨bx, 0, none⟩)])) 0 name value RR (.returned (.tuple #[.pointer (some ⟨M, 0, none⟩), .int .i64 0])) from by
            rw [← HRR.out, HN.out]
            exact ⟨hb4, M, rfl, _, hm4, .inl (.inl ⟨bx, value, rfl, hx4, by funext v; simp⟩)⟩)
          clear hm4 hx4 hb4
          go_wp2_with fail
          go_ret2
          exact HF.out
      · by_cases hl : 64 < value.size
        · have hli : (64 : Int) < (value.size : Int) := by omega
          have HF := hidden (show NewR w w3 1 name value RR (.returned (.tuple #[.pointer none, .int .i64 41])) from by
            rw [← HRR.out, newF_long HK.out HME.out (by decide) hl]
            exact ⟨HB03.out, rfl, by decide⟩)
          go_wp2_with fail
          go_ret2
          exact HF.out
        · have hli : ¬ (64 : Int) < (value.size : Int) := by omega
          have HN := hidden (newF_same HK.out HME.out (by decide) hl)
          have hm4 := HM3.out.put 3 (.func (.func 12) #[] #[.pointer (some ⟨bx, 0, none⟩)])
          have hx4 := HX3.out.off (p := ⟨M, 3, none⟩) (fun e => hMb e.symm) (.func (.func 12) #[] #[.pointer (some ⟨bx, 0, none⟩)])
          have hb4 : Below w.heap.size w (w3.setCell ⟨M, 3, none⟩ (.func (.func 12) #[] #[.pointer (some ⟨bx, 0, none⟩)])) := HB03.out.setCell (p := ⟨M, 3, none⟩) hwM _
          have k3 := hm4.cell 3
          have HM4 := hidden hm4
          have HX4 := hidden hx4
          have HB4 := hidden hb4
          clear hm4 hx4 hb4
          go_wp2_with fail
          refine (turned_any _ _ _ _).mono ?_
          rintro e w5 ⟨tb, rfl, ht5, hb5⟩
          have hm5 := HM4.out.below hb5 HM4.out.lt
          have hx5 := HX4.out.below hb5 HX4.out.lt
          have hMt : M ≠ tb := kinds_apart hm5 ht5 (by decide)
          have j3 := hm5.cell 3
          have g3 := hm5.free 3
          have HF := hidden (show NewR w (w5.setCell ⟨M, 3, none⟩ (.func (.func 32) #[] #[.pointer (some ⟨tb, 0, none⟩)])) 1 name value RR (.returned (.tuple #[.pointer (some ⟨M, 0, none⟩), .int .i64 0])) from by
            rw [← HRR.out, HN.out]
            exact ⟨(HB4.out.trans (hb5.mono HB4.out.size)).setCell (p := ⟨M, 3, none⟩) hwM _, M, rfl, _, hm5.put 3 _, .inr ⟨tb, _, _, rfl, ht5.off (p := ⟨M, 3, none⟩) (fun e => hMt e.symm) _, .inl ⟨bx, value, rfl, hx5.off (p := ⟨M, 3, none⟩) (fun e => hMb e.symm) _, rfl⟩, by funext v; simp⟩⟩)
          clear hm5 hx5 ht5
          go_wp2_with fail
          go_ret2
          exact HF.out
      · have S2 := hidden (parse_any value w3 hv)
        obtain ⟨PP, hPP⟩ : ∃ PP, parseP value.data.toList = PP := ⟨_, rfl⟩
        have hnz := nz_parse value.data.toList
        rw [hPP] at S2 hnz
        have HPP := hidden hPP
        clear hPP
        go_wp2_with fail
        refine S2.out.mono ?_
        rintro e w4 ⟨hb4, hy⟩
        have HB4 := hidden (HB03.out.trans (hb4.mono HB03.out.size))
        have HM4 := hidden (HM3.out.below hb4 HM3.out.lt)
        cases PP with
        | bad c =>
          have hc0 : c ≠ 0 := hnz c rfl
          have hci : ((c : Int) != 0) = true := by simp; omega
          have hci2 : ¬ (c : Int) = 0 := by omega
          obtain rfl : e = .returned (.tuple #[.pointer none, .int .i64 (c : Int)]) := hy
          have HF := hidden (show NewR w (w4.alloc (.cells #[.pointer none] 46)) 2 name value RR (.returned (.tuple #[.pointer none, .int .i64 (c : Int)])) from by
            rw [← HRR.out, newF_bad HK.out HME.out (by decide) HPP.out]
            exact ⟨HB4.out.alloc HB4.out.size _, rfl, by omega⟩)
          clear hnz S2
          go_wp2_with fail
          go_ret2
          exact HF.out
        | ok t j =>
          obtain ⟨p, rfl, ht4⟩ := hy
          have HN := hidden (newF_like HK.out HME.out (by decide) HPP.out)
          obtain ⟨nb, hnb⟩ : ∃ nb, nb = w4.heap.size := ⟨_, rfl⟩
          obtain ⟨w5, hw5⟩ : ∃ w5, w4.alloc (.cells #[.pointer (some ⟨p, 0, none⟩)] 46) = w5 := ⟨_, rfl⟩
          have hn5 : Whole1 w5 nb 46 #[.pointer (some ⟨p, 0, none⟩)] := by rw [hnb, ← hw5]; exact Whole1.new _ _ _
          have hb5 : Below w4.heap.size w4 w5 := hw5 ▸ (Below.refl _ _).alloc (Nat.le_refl _) _
          have ht5 := isTr_nodes (below_nodes hb5) t p ht4
          have hm5 := HM4.out.below hb5 HM4.out.lt
          have HB5 := hidden (HB4.out.trans (hb5.mono HB4.out.size))
          have j3 := hm5.cell 3
          have g3 := hm5.free 3
          have HW5 := hidden (And.intro hnb hw5)
          rw [← hw5] at j3 g3
          have hMn : M ≠ nb := kinds_apart hm5 hn5 (by decide)
          have hm6 := hm5.put 3 (.func (.func 14) #[] #[.pointer (some ⟨nb, 0, none⟩)])
          have hn6 := hn5.off (p := ⟨M, 3, none⟩) (fun e => hMn e.symm) (.func (.func 14) #[] #[.pointer (some ⟨nb, 0, none⟩)])
          have ht6 : IsTr (w5.setCell ⟨M, 3, none⟩ (.func (.func 14) #[] #[.pointer (some ⟨nb, 0, none⟩)])) p t := isTr_nodes (fun g u cs hu hw => hw.off (p := ⟨M, 3, none⟩) (fun e => by
            have e : g = M := e
            refine kinds_apart hw hm5 ?_ e
            rcases hu with rfl | rfl <;> decide) _) t p ht5
          have hb6 : Below w.heap.size w (w5.setCell ⟨M, 3, none⟩ (.func (.func 14) #[] #[.pointer (some ⟨nb, 0, none⟩)])) := HB5.out.setCell (p := ⟨M, 3, none⟩) hwM _
          have HF := hidden (show NewR w (w5.setCell ⟨M, 3, none⟩ (.func (.func 14) #[] #[.pointer (some ⟨nb, 0, none⟩)])) 2 name value RR (.returned (.tuple #[.pointer (some ⟨M, 0, none⟩), .int .i64 0])) from by
            rw [← HRR.out, HN.out]
            exact ⟨hb6, M, rfl, _, hm6, .inl (.inr ⟨nb, p, t, rfl, hn6, ht6, by funext v; simp⟩)⟩)
          have HF2 := hidden (show NewR w ((w4.alloc (.cells #[.pointer (some ⟨p, 0, none⟩)] 46)).setCell ⟨M, 3, none⟩ (.func (.func 14) #[] #[.pointer (some ⟨w4.heap.size, 0, none⟩)])) 2 name value RR (.returned (.tuple #[.pointer (some ⟨M, 0, none⟩), .int .i64 0])) from by
            rw [HW5.out.2, ← HW5.out.1]; exact HF.out)
          clear hm5 hn5 ht5 ht4 hm6 hn6 ht6 hb6 hnz S2 hnb hw5
          go_wp2_with fail
          go_ret2
          exact HF2.out
      · have S2 := hidden (parse_any value w3 hv)
        obtain ⟨PP, hPP⟩ : ∃ PP, parseP value.data.toList = PP := ⟨_, rfl⟩
        have hnz := nz_parse value.data.toList
        rw [hPP] at S2 hnz
        have HPP := hidden hPP
        clear hPP
        go_wp2_with fail
        refine S2.out.mono ?_
        rintro e w4 ⟨hb4, hy⟩
        have HB4 := hidden (HB03.out.trans (hb4.mono HB03.out.size))
        have HM4 := hidden (HM3.out.below hb4 HM3.out.lt)
        cases PP with
        | bad c =>
          have hc0 : c ≠ 0 := hnz c rfl
          have hci : ((c : Int) != 0) = true := by simp; omega
          have hci2 : ¬ (c : Int) = 0 := by omega
          obtain rfl : e = .returned (.tuple #[.pointer none, .int .i64 (c : Int)]) := hy
          have HF := hidden (show NewR w (w4.alloc (.cells #[.pointer none] 46)) 3 name value RR (.returned (.tuple #[.pointer none, .int .i64 (c : Int)])) from by
            rw [← HRR.out, newF_bad HK.out HME.out (by decide) HPP.out]
            exact ⟨HB4.out.alloc HB4.out.size _, rfl, by omega⟩)
          clear hnz S2
          go_wp2_with fail
          go_ret2
          exact HF.out
        | ok t j =>
          obtain ⟨p, rfl, ht4⟩ := hy
          have HN := hidden (newF_like HK.out HME.out (by decide) HPP.out)
          obtain ⟨nb, hnb⟩ : ∃ nb, nb = w4.heap.size := ⟨_, rfl⟩
          obtain ⟨w5, hw5⟩ : ∃ w5, w4.alloc (.cells #[.pointer (some ⟨p, 0, none⟩)] 46) = w5 := ⟨_, rfl⟩
          have hn5 : Whole1 w5 nb 46 #[.pointer (some ⟨p, 0, none⟩)] := by rw [hnb, ← hw5]; exact Whole1.new _ _ _
          have hb5 : Below w4.heap.size w4 w5 := hw5 ▸ (Below.refl _ _).alloc (Nat.le_refl _) _
          have ht5 := isTr_nodes (below_nodes hb5) t p ht4
          have hm5 := HM4.out.below hb5 HM4.out.lt
          have HB5 := hidden (HB4.out.trans (hb5.mono HB4.out.size))
          have j3 := hm5.cell 3
          have g3 := hm5.free 3
          have HW5 := hidden (And.intro hnb hw5)
          rw [← hw5] at j3 g3
          have hMn : M ≠ nb := kinds_apart hm5 hn5 (by decide)
          have hm6 := hm5.put 3 (.func (.func 14) #[] #[.pointer (some ⟨nb, 0, none⟩)])
          have hn6 := hn5.off (p := ⟨M, 3, none⟩) (fun e => hMn e.symm) (.func (.func 14) #[] #[.pointer (some ⟨nb, 0, none⟩)])
          have ht6 : IsTr (w5.setCell ⟨M, 3, none⟩ (.func (.func 14) #[] #[.pointer (some ⟨nb, 0, none⟩)])) p t := isTr_nodes (fun g u cs hu hw => hw.off (p := ⟨M, 3, none⟩) (fun e => by
            have e : g = M := e
            refine kinds_apart hw hm5 ?_ e
            rcases hu with rfl | rfl <;> decide) _) t p ht5
          have hb6 : Below w.heap.size w (w5.setCell ⟨M, 3, none⟩ (.func (.func 14) #[] #[.pointer (some ⟨nb, 0, none⟩)])) := HB5.out.setCell (p := ⟨M, 3, none⟩) hwM _
          have k3 := hm6.cell 3
          rw [← hw5, hnb] at k3
          have HM6 := hidden hm6
          have HN6 := hidden hn6
          have HT6 := hidden ht6
          have HB6 := hidden hb6
          clear hm5 hn5 ht5 ht4 hm6 hn6 ht6 hb6 hnz S2 hnb hw5
          go_wp2_with fail
          rw [HW5.out.2, ← HW5.out.1]
          refine (turned_any _ _ _ _).mono ?_
          rintro e w7 ⟨tb, rfl, ht7, hb7⟩
          have hm7 := HM6.out.below hb7 HM6.out.lt
          have hn7 := HN6.out.below hb7 HN6.out.lt
          have hMt : M ≠ tb := kinds_apart hm7 ht7 (by decide)
          have i3 := hm7.cell 3
          have e3 := hm7.free 3
          have HF := hidden (show NewR w (w7.setCell ⟨M, 3, none⟩ (.func (.func 32) #[] #[.pointer (some ⟨tb, 0, none⟩)])) 3 name value RR (.returned (.tuple #[.pointer (some ⟨M, 0, none⟩), .int .i64 0])) from by
            rw [← HRR.out, HN.out]
            refine ⟨(HB6.out.trans (hb7.mono HB6.out.size)).setCell (p := ⟨M, 3, none⟩) hwM _, M, rfl, _, hm7.put 3 _, .inr ⟨tb, _, _, rfl, ht7.off (p := ⟨M, 3, none⟩) (fun e => hMt e.symm) _, .inr ⟨nb, p, t, rfl, hn7.off (p := ⟨M, 3, none⟩) (fun e => hMn e.symm) _, ?_, rfl⟩, by funext v; simp⟩⟩
            exact isTr_nodes (fun g u cs hu hw => hw.off (p := ⟨M, 3, none⟩) (fun e => by
              have e : g = M := e
              refine kinds_apart hw hm7 ?_ e
              rcases hu with rfl | rfl <;> decide) _) t p (isTr_nodes (below_nodes hb7) t p HT6.out))
          clear hm7 hn7 ht7
          go_wp2_with fail
          go_ret2
          exact HF.out
    · have hmi : ((me : Int) != 0) = true := by simp; omega
      have hme2 : ¬ (me : Int) = 0 := by omega
      have HF := hidden (show NewR w w3 kind name value RR (.returned (.tuple #[.pointer none, .int .i64 (me : Int)])) from by
        rw [← HRR.out, newF, if_neg HK.out, if_pos (by rw [HME.out]; exact hm0), HME.out]
        exact ⟨HB.out.trans (HB3.out.mono HB.out.size), rfl, by omega⟩)
      go_wp2_with fail
      go_ret2
      exact HF.out
end Go.Proofs.Ytalnndenncnbdaa
