/- query.Run as the law's example runs it: Raw, from 5 to 9, nothing below 6, no matchers, nothing taken away. Condition: the sources are within the reach. -/
import Derived.Test.YtcndncklgbeloaaMrgLawQ
import Derived.Test.YtcndncklgbeloaaDelSer
import Derived.Test.YtcndncklgbeloaaBest
import Derived.Deep.RegionHeld3
namespace Go.Proofs.Ytcndncklgbeloaa
set_option maxRecDepth 100000
open Go.RowKit Go.Shelf

theorem gons_nil (w : World) : GonsAt w none 0 [] := ⟨Row.nil, rfl, by simp, by omega, by simp⟩
/-- match.All of no matchers -/
theorem all_none (A : Option Addr) (n c : Nat) (w : World) :
    Calls Try.prog 13 #[.slice A n c, .slice none 0 0] w fun e w' => e = .returned (.bool true) ∧ w = w' := by
  go_enter Try.func13, Try.ntmps13
  go_wp2_with fail
  refine wp_loop_rounds 1 ?_
  rw [rounds_succ]
  go_wp2_with fail
  go_ret
  exact ⟨rfl, rfl⟩
/-- the closure that Run hands to DeleteFunc -/
theorem run1_any (A B C : Option Addr) (n c m d k e0 : Nat) (g : Nat) (w : World) (hq : w.cell? ⟨g, 3, none⟩ = some (.slice none 0 0)) (hg : g < w.heap.size) :
    Calls Try.prog 12 #[.agg #[.slice A n c, .slice B m d, .slice C k e0], .pointer (some ⟨g, 0, none⟩)] w fun e w' => e = .returned (.bool false) ∧ Below w.heap.size w w' := by
  have hb : Below w.heap.size w (w.alloc (.cells #[.slice A n c, .slice B m d, .slice C k e0] 46)) := (Below.refl _ _).alloc (Nat.le_refl _) _
  have c3 := (hb.cell (p := ⟨g, 3, none⟩) hg).trans hq
  have HB := hidden hb
  clear hb
  go_enter Try.func12, Try.ntmps12
  go_wp2_with fail
  refine (all_none _ _ _ _).mono ?_
  rintro e w2 ⟨rfl, rfl⟩
  go_wp2_with fail
  go_ret
  exact ⟨rfl, HB.out⟩
theorem run1_eg : ∀ args w, (callFunc 12 args).run Try.prog w = .ok (.enter 12 args) w := enters_of Try.func12 (by kernel_rfl) rfl
/-- DeleteFunc where nothing is to be deleted -/
theorem del_none (A : Option Addr) (n c : Nat) (l : List Ser) (f : FuncId) (cb : Array Value) (w : World) (eg : ∀ args w, (callFunc f args).run Try.prog w = .ok (.enter f args) w) (hp : DelSer.PredOk f cb (fun _ => false) l (fun W => Below w.heap.size w W)) (hr : Row w w.heap.size 3 A n (l.flatMap Ser.cells)) (hl : l.length = n) (hn : n ≤ 4611686018427387904) :
    Calls Try.prog 11 #[.slice A n c, .func (.func f) #[] cb] w fun e w' => e = .returned (.slice A n c) ∧ Below w.heap.size w w' := by
  have S1 := hidden (DelSer.index_any A n c l f cb (fun _ => false) w eg hp hr hl hn)
  clear hp hr
  go_enter Try.func11, Try.ntmps11
  go_wp2_with fail
  refine S1.out.mono ?_
  rintro e w2 ⟨r, rfl, hx, b2⟩
  obtain rfl : r = -1 := by
    rcases hx with ⟨h, _⟩ | ⟨i, x, _, _, h, _⟩
    · exact h
    · cases h
  have HB := hidden b2
  clear hx b2
  go_wp2_with fail
  go_ret
  exact ⟨rfl, HB.out⟩
set_option maxHeartbeats 3200000 in
theorem run_any (A : Option Addr) (n c : Nat) (LL : List (Sl Ser)) (w : World) (h : SLL w A n LL) :
    Calls Try.prog 7 #[.agg #[.int .i64 0, .int .i64 5, .int .i64 9, .slice none 0 0], .agg #[.int .i64 6, .int .i64 0, .int .i64 0, .int .i64 0, .int .i64 0, .int .i64 0], .slice none 0 0, .slice A n c] w fun e w' =>
      ∃ (B : Option Addr) (c' : Nat) (M : List SK) (L : List Ser), e = .returned (.tuple #[.slice B L.length c', .int .i64 0]) ∧ SF w' B L.length L ∧ Canon M ∧ Eqv M (MR.allOf LL) ∧ L.map Ser.sk = clipSK 6 9 (stripSK 0 [] M) ∧ Below w.heap.size w w' := by
  have hQ0 := (Whole1.new w 36 #[.int .i64 0, .int .i64 5, .int .i64 9, .slice none 0 0]).alloc (.cells #[.int .i64 6, .int .i64 0, .int .i64 0, .int .i64 0, .int .i64 0, .int .i64 0] 24)
  have hH0 := Whole1.new (w.alloc (.cells #[.int .i64 0, .int .i64 5, .int .i64 9, .slice none 0 0] 36)) 24 #[.int .i64 6, .int .i64 0, .int .i64 0, .int .i64 0, .int .i64 0, .int .i64 0]
  have hB0 : Below w.heap.size w ((w.alloc (.cells #[.int .i64 0, .int .i64 5, .int .i64 9, .slice none 0 0] 36)).alloc (.cells #[.int .i64 6, .int .i64 0, .int .i64 0, .int .i64 0, .int .i64 0, .int .i64 0] 24)) := ((Below.refl _ _).alloc (Nat.le_refl _) _).alloc (by simp) _
  rw [show (w.alloc (.cells #[.int .i64 0, .int .i64 5, .int .i64 9, .slice none 0 0] 36)).heap.size = w.heap.size + 1 by simp] at hH0
  have H := hidden h
  clear h
  go_enter Try.func7, Try.ntmps7
  go_upto_region 1 with (fail)
  generalize (w.alloc (.cells #[.int .i64 0, .int .i64 5, .int .i64 9, .slice none 0 0] 36)).alloc (.cells #[.int .i64 6, .int .i64 0, .int .i64 0, .int .i64 0, .int .i64 0, .int .i64 0] 24) = w1 at hQ0 hH0 hB0 ⊢
  obtain ⟨g, hg⟩ : ∃ g, w.heap.size = g := ⟨_, rfl⟩
  have HB1 := hidden hB0
  rw [hg] at hQ0 hH0 ⊢
  have HQ1 := hidden hQ0
  have q0 := hQ0.cell 0
  have q1 := hQ0.cell 1
  have q2 := hQ0.cell 2
  have h0 := hH0.cell 0
  clear hQ0 hH0 hB0
  go_wp2_with fail
  go_quiet (fail)
  have HB2 := hidden (below_drewN HB1.out nq)
  have HQ2 := hidden (HQ1.out.drewN nq)
  have hbz := HB1.out.size
  clear q0 q1 q2 h0 HQ1 HB1
  generalize w1.drewN nq = w2 at HB2 HQ2 ⊢
  have hS := hidden (H.out.on HB2.out)
  have q0 := HQ2.out.cell 0
  have hs2 := HB2.out.size
  have HS := hidden (fun W (hW : Below w2.heap.size w2 W) => (HQ2.out.below hW HQ2.out.lt).cell 0)
  go_wp2_with fail
  go_region_held3 (fun W => W.cell? ⟨g, 0, none⟩ = some (.int .i64 0))
    (first | exact HS.out _ (Below.refl _ _) | exact HS.out _ (Below.refl _ _).drew | exact HS.out _ (by assumption))
    (first
      | (go_at_call 10; refine (merge_law _ _ _ _ _ (hS.out.on (Below.refl _ _).drew)).mono ?_; rintro e w3 ⟨A3, c3, L3, rfl, _, p1, p2, p3, b3, _, _, p4⟩; have k3 : Below w2.heap.size w2 w3 := (Below.refl _ _).drew.trans b3; have HL3 := hidden p1.sf; have HC3 := hidden (And.intro p2 p3); clear p1 p2 p3)
      | (go_at_call 9; refine (stripF_law 0 _ _ _ _ none 0 0 [] _ HL3.out (gons_nil _)).mono ?_; rintro e w4 ⟨A4, c4, L4, rfl, p1, p2, b4, p5⟩; have k4 : Below w2.heap.size w2 w4 := k3.trans (b4.mono k3.size); have HL4 := hidden p1; have HC4 := hidden p2; clear p1 p2)
      | (go_at_call 8; refine (clipF_law _ _ _ _ 6 9 _ HL4.out).mono ?_; rintro e w5 ⟨A5, c5, L5, rfl, p1, p2, b5, p6⟩; have k5 : Below w2.heap.size w2 w5 := k4.trans (b5.mono k4.size); have HL5 := hidden p1; have HC5 := hidden p2; clear p1 p2))
  have HF := hidden (show L5.map Ser.sk = clipSK 6 9 (stripSK 0 [] (L3.map Ser.sk)) by rw [HC5.out, clipAll_sk, HC4.out, stripAll_sk])
  have HK5 := hidden k5
  have hgl : g < w5.heap.size := by have := HQ2.out.lt; have := k5.size; omega
  have q3 := (HQ2.out.below k5 HQ2.out.lt).cell 3
  have S6 := hidden (del_none A5 L5.length c5 L5 12 #[.pointer (some ⟨g, 0, none⟩)] w5 run1_eg (fun x hx W hW => run1_any _ _ _ _ _ _ _ _ _ g W ((hW.cell (p := ⟨g, 3, none⟩) hgl).trans q3) (by have := hW.size; omega)) HL5.out.row rfl (by have := HL5.out.few; omega))
  clear k3 k4 k5 b3 b4 b5 q0
  go_wp2_with fail
  refine S6.out.mono ?_
  rintro e w6 ⟨rfl, b6⟩
  have HB6 := hidden (HB2.out.trans ((HK5.out.trans (b6.mono HK5.out.size)).mono hs2))
  have HL6 := hidden (HL5.out.on b6)
  clear b6
  go_wp2_with fail
  go_ret2
  exact ⟨A5, c5, L3.map Ser.sk, L5, rfl, HL6.out, HC3.out.1, HC3.out.2, HF.out, HB6.out⟩
def wkA : List Lbl := [⟨⟨#[97]⟩, ⟨#[120]⟩⟩]
def wkM : List Smp := [⟨5, 0⟩, ⟨6, 0⟩, ⟨9, 0⟩, ⟨10, 0⟩]
theorem wkK_canon : Canon [(wkA, wkM, [])] := by
  refine ⟨List.pairwise_singleton _ _, ?_, ?_, ?_⟩
  · intro e he
    rw [List.mem_singleton.1 he]
    simp [wkM]
  · intro e he
    rw [List.mem_singleton.1 he]
    exact List.Pairwise.nil
  · intro e he
    rw [List.mem_singleton.1 he]
    exact .inl (by simp [wkM])
theorem wkK_run : (clipSK 6 9 (stripSK 0 [] [(wkA, wkM, [])])).map (fun s => s.2.1.length) = [2] := by decide +kernel
/-- the example's one series, as it lies -/
def wkSer (g : Nat) : Ser := ⟨⟨some ⟨g, 0, none⟩, 1, 1, wkA⟩, ⟨some ⟨g + 1, 0, none⟩, 4, 4, wkM⟩, Sl.nil⟩
def wkSl (g : Nat) : Sl Ser := ⟨some ⟨g + 1 + 1, 0, none⟩, 1, 1, [wkSer g]⟩
theorem one_of {L : List Ser} (h : L.map (fun x => x.smp.l.length) = [2]) : ∃ x, L = [x] ∧ x.smp.l.length = 2 := by
  cases L with
  | nil => simp at h
  | cons x r =>
    cases r with
    | nil => exact ⟨x, rfl, by simpa using h⟩
    | cons y r => simp at h
set_option maxHeartbeats 1600000 in
theorem wakes26_any (w : World) :
    Calls Try.prog 4 #[] w fun e w' => e = .returned (.bool true) ∧ Below w.heap.size w w' := by
  obtain ⟨wa, hwa, X1, B1, s1⟩ := fresh_row w 38 2 1 (lblCells wkA) rfl
  obtain ⟨wb, hwb, X2, B2, s2⟩ := fresh_row wa 42 2 4 (smpCells wkM) rfl
  obtain ⟨wc, hwc, X3, B3, s3⟩ := fresh_row wb 46 3 1 (serCells [wkSer w.heap.size]) rfl
  obtain ⟨wd, hwd, X4, B4, s4⟩ := fresh_row wc 30 1 1 ([wkSl w.heap.size].map Sl.val) rfl
  have Y1 := ((X1.on B2).on B3).on B4
  have Y2 := (X2.on B3).on B4
  have Y3 := X3.on B4
  rw [s1] at Y2
  rw [s2, s1] at Y3
  have hbw : Below w.heap.size w wd := ((B1.trans (B2.mono B1.size)).trans (B3.mono (by omega))).trans (B4.mono (by omega))
  have hat : (wkSer w.heap.size).At wd wd.heap.size := ⟨⟨Nat.le_refl _, rfl, Y1⟩, ⟨Nat.le_refl _, rfl, Y2⟩, ⟨Nat.le_refl _, rfl, Row.nil⟩⟩
  have hSL : SL wd (some ⟨w.heap.size + 1 + 1, 0, none⟩) 1 [wkSer w.heap.size] := ⟨Y3, rfl, fun x hx => by rw [List.mem_singleton.1 hx]; exact hat, fun x hx => by rw [List.mem_singleton.1 hx]; exact ⟨by show (1 : Nat) ≤ _; omega, by show 4 + 0 ≤ _; omega⟩, by omega⟩
  have hSLL : SLL wd (some ⟨wc.heap.size, 0, none⟩) 1 [wkSl w.heap.size] := sll_mk X4 rfl (fun s hs => by rw [List.mem_singleton.1 hs]; exact ⟨hSL, Nat.le_refl _⟩) (by show 1 + 0 ≤ _; omega) (by show (4 + 0 + 0) + 0 ≤ _; omega) (by omega)
  rw [s3, s2, s1] at hSLL
  have S1 := hidden (run_any _ 1 1 _ _ hSLL)
  rw [hwd, hwc, hwb, hwa] at S1
  go_enter Try.func4, Try.ntmps4
  go_wp2_with fail
  refine S1.out.mono ?_
  rintro e w5 ⟨B5, c5, M, L, rfl, hL, hC, hE, hK, b5⟩
  have hM : M = [(wkA, wkM, [])] := canon_unique hC wkK_canon hE
  have hlen : L.map (fun x => x.smp.l.length) = [2] := by
    have h1 := congrArg (List.map fun s : SK => s.2.1.length) hK
    rw [hM, wkK_run, List.map_map] at h1
    exact h1
  obtain ⟨x, rfl, hx2⟩ := one_of hlen
  have hat := hL.at_ x (by simp)
  have hn2 : x.smp.n = 2 := by have := hat.smp.2.1; omega
  obtain ⟨gB, oB, rfl, _, hc⟩ := hL.row.at_ (by simp)
  have d1 : w5.cell? ⟨gB, oB + 1, none⟩ = some (.slice x.smp.A 2 x.smp.c) := by
    rw [hc 1 (by simp), ← hn2]; rfl
  have S2 := hidden (fun W => best_any 5 6 0 0 0 0 0 W)
  have hb1 : bestP 5 6 0 0 = 1 := by decide
  rw [hb1] at S2
  have HB5 := hidden (show Below w.heap.size w w5 from by
    rw [← hwa, ← hwb, ← hwc, ← hwd] at b5
    exact hbw.trans (b5.mono hbw.size))
  clear hM hlen hx2 hat hn2 hc hL hC hE hK b5 hb1 hSLL hSL Y1 Y2 Y3 X1 X2 X3 X4 B1 B2 B3 B4 hbw
  clear hwd
  clear hwc
  clear hwb
  clear hwa
  go_wp2_with (go_at_call 5; refine (S2.out _).mono ?_; rintro e w6 ⟨rfl, b6⟩; have HB6 := hidden (HB5.out.trans (b6.mono HB5.out.size)); clear b6)
  go_ret
  exact ⟨rfl, HB6.out⟩
end Go.Proofs.Ytcndncklgbeloaa
