/- The law's helper wakes (chapter 18): a head at one batch. No condition. -/
import Derived.Test.YthncochjhbmceaaGreatHedPlan
import Derived.Test.YthncochjhbmceaaGreatHedPut
import Derived.Test.YthncochjhbmceaaGreatHedMax
import Derived.Test.YthncochjhbmceaaGreatHedEnt
namespace Go.Proofs.YthncochjhbmceaaGreat
set_option maxRecDepth 100000
open Go.RowKit

/-- one label a=b -/
def oneH (b : UInt8) : List Lbl := [⟨⟨#[97]⟩, ⟨#[b]⟩⟩]
theorem validH_x : validP (oneH 120) := ⟨by decide +kernel, List.pairwise_singleton _ _⟩
theorem validH_y : validP (oneH 121) := ⟨by decide +kernel, List.pairwise_singleton _ _⟩
theorem oneH_ne : ¬ oneH 121 = oneH 120 := fun h => by
  injection h with h1 h2
  injection h1 with h3 h4
  exact absurd h4 (by decide)
def wakB : List EntP := [⟨oneH 120, 5, 7⟩, ⟨oneH 120, 5, 7⟩, ⟨oneH 121, 7, 7⟩]
theorem wak_plan : planB [] wakB = ⟨[(oneH 120, 5), (oneH 121, 7)], [oneH 120, oneH 121], [⟨0, 5, 7⟩, ⟨1, 7, 7⟩], [0, 270, 0]⟩ := by
  have e1 : entE ⟨oneH 120, 5, 7⟩ = 0 := by
    unfold entE
    rw [if_neg (by simp [enc_fit.2 validH_x]), if_neg (by simp)]
  have e2 : entE ⟨oneH 121, 7, 7⟩ = 0 := by
    unfold entE
    rw [if_neg (by simp [enc_fit.2 validH_y]), if_neg (by simp)]
  have s1 : planStep ⟨[], [], [], []⟩ ⟨oneH 120, 5, 7⟩ = ⟨[(oneH 120, 5)], [oneH 120], [⟨0, 5, 7⟩], [0]⟩ := by
    unfold planStep
    rw [if_neg (by simp [e1]), show atE (([] : List (List Lbl × Int)).map (·.1)) (oneH 120) = none from rfl]
    rfl
  have a1 : atE ([(oneH 120, (5 : Int))].map (·.1)) (oneH 120) = some 0 := by simp [atE]
  have s2 : planStep ⟨[(oneH 120, 5)], [oneH 120], [⟨0, 5, 7⟩], [0]⟩ ⟨oneH 120, 5, 7⟩ = ⟨[(oneH 120, 5)], [oneH 120], [⟨0, 5, 7⟩], [0, 270]⟩ := by
    unfold planStep
    rw [if_neg (by simp [e1])]
    simp only [a1]
    rw [if_pos (by simp [lastT])]
    rfl
  have a2 : atE ([(oneH 120, (5 : Int))].map (·.1)) (oneH 121) = none := by
    rw [atE_none]
    simp only [List.map_cons, List.map_nil, List.mem_singleton]
    exact oneH_ne
  have s3 : planStep ⟨[(oneH 120, 5)], [oneH 120], [⟨0, 5, 7⟩], [0, 270]⟩ ⟨oneH 121, 7, 7⟩ = ⟨[(oneH 120, 5), (oneH 121, 7)], [oneH 120, oneH 121], [⟨0, 5, 7⟩, ⟨1, 7, 7⟩], [0, 270, 0]⟩ := by
    unfold planStep
    rw [if_neg (by simp [e2])]
    simp only [a2]
    rfl
  simp only [planB, wakB, List.foldl_cons, List.foldl_nil, s1, s2, s3]
/-- an entry of the law's -/
def entH (g : Nat) (b : UInt8) (t : Int) : EntR := ⟨⟨some ⟨g, 0, none⟩, 1, 1, oneH b⟩, t, 7⟩
theorem lbf_one {w : World} {g : Nat} {b : UInt8} (h : Whole1 w g 70 #[.string ⟨#[97]⟩, .string ⟨#[b]⟩]) : LbF w (some ⟨g, 0, none⟩) 1 (oneH b) :=
  ⟨⟨rfl, fun _ => ⟨g, 0, rfl, h.lt, fun j _ => by rw [h.cell, Nat.zero_add]; simp [oneH, Lbl.cells]⟩⟩, rfl, by decide, fun x hx => by simp only [oneH, List.mem_singleton] at hx; subst hx; exact ⟨show 1 ≤ 140737488355328 from by decide, show 1 ≤ 140737488355328 from by decide⟩⟩
set_option maxHeartbeats 6400000 in
theorem wakes18_any (w : World) : Calls Tryz.prog 6 #[] w fun e w' => e = .returned (.bool true) ∧ Below w.heap.size w w' := by
  have S1 := hidden (hed_new w (base := w.heap.size) (Nat.le_refl _))
  go_enter Tryz.func6, Tryz.ntmps6
  go_wp2_with fail
  refine S1.out.mono ?_
  rintro e w1 ⟨h, rfl, hh1, b1⟩
  have HH1 := hidden hh1
  have HB1 := hidden b1
  have S2 := hidden (entry_any ⟨#[120]⟩ 5 w1)
  clear S1 hh1 b1
  go_wp2_with fail
  refine S2.out.mono ?_
  rintro e w2 ⟨g2, rfl, hg2, hl2, b2⟩
  have HG2 := hidden hg2
  have HH2 := hidden (HH1.out.below b2)
  have HB2 := hidden (HB1.out.trans (b2.mono HB1.out.size))
  have S3 := hidden (entry_any ⟨#[120]⟩ 5 w2)
  clear S2 hg2 hl2 b2 HH1 HB1
  go_wp2_with fail
  refine S3.out.mono ?_
  rintro e w3 ⟨g3, rfl, hg3, hl3, b3⟩
  have HG3 := hidden hg3
  have HG2 := hidden (HG2.out.below b3 HG2.out.lt)
  have HH3 := hidden (HH2.out.below b3)
  have HB3 := hidden (HB2.out.trans (b3.mono HB2.out.size))
  have S4 := hidden (entry_any ⟨#[121]⟩ 7 w3)
  clear S3 hg3 hl3 b3 HH2 HB2
  go_wp2_with fail
  refine S4.out.mono ?_
  rintro e w4 ⟨g4, rfl, hg4, hl4, b4⟩
  have HG4 := hidden hg4
  have HG2 := hidden (HG2.out.below b4 HG2.out.lt)
  have HG3 := hidden (HG3.out.below b4 HG3.out.lt)
  have HH4 := hidden (HH3.out.below b4)
  have HB4 := hidden (HB3.out.trans (b4.mono HB3.out.size))
  clear S4 hg4 hl4 b4 HH3 HB3
  obtain ⟨w5, hw5⟩ : ∃ w5, w4.alloc (.cells #[.slice (some ⟨g2, 0, none⟩) 1 1, .int .i64 5, .int .u64 7, .slice (some ⟨g3, 0, none⟩) 1 1, .int .i64 5, .int .u64 7, .slice (some ⟨g4, 0, none⟩) 1 1, .int .i64 7, .int .u64 7] 93) = w5 := ⟨_, rfl⟩
  have hb5 : Below w4.heap.size w4 w5 := hw5 ▸ (Below.refl _ _).alloc (Nat.le_refl _) _
  have hr5 : Row w5 w5.heap.size 3 (some ⟨w4.heap.size, 0, none⟩) 3 ([entH g2 120 5, entH g3 120 5, entH g4 121 7].flatMap EntR.cells) := by
    have := Row.fresh w4 93 3 3 [.slice (some ⟨g2, 0, none⟩) 1 1, .int .i64 5, .int .u64 7, .slice (some ⟨g3, 0, none⟩) 1 1, .int .i64 5, .int .u64 7, .slice (some ⟨g4, 0, none⟩) 1 1, .int .i64 7, .int .u64 7] rfl
    rw [hw5] at this
    exact this.more (by rw [← hw5]; simp)
  have hE5 : EntF w5 (some ⟨w4.heap.size, 0, none⟩) 3 [entH g2 120 5, entH g3 120 5, entH g4 121 7] := by
    refine ⟨hr5, rfl, by decide, fun x hx => ?_, fun x hx => ?_⟩
    · simp only [List.mem_cons, List.not_mem_nil, or_false] at hx
      rcases hx with rfl | rfl | rfl
      · exact ⟨(lbf_one HG2.out).on hb5, Nat.le_refl _⟩
      · exact ⟨(lbf_one HG3.out).on hb5, Nat.le_refl _⟩
      · exact ⟨(lbf_one HG4.out).on hb5, Nat.le_refl _⟩
    · simp only [List.mem_cons, List.not_mem_nil, or_false] at hx
      rcases hx with rfl | rfl | rfl <;> simp [entH]
  have S5 := hed_plan (some ⟨w4.heap.size, 0, none⟩) 3 3 _ w5 (HH4.out.below hb5) hE5 (by simp)
  rw [show T0 [] [] = [] from rfl, show [entH g2 120 5, entH g3 120 5, entH g4 121 7].map EntR.p = wakB from rfl, wak_plan] at S5
  have S5 := hidden S5
  have HH5 := hidden (HH4.out.below hb5)
  have HB5 := hidden (HB4.out.trans (hb5.mono HB4.out.size))
  clear hr5 hE5 hb5 HH4 HB4 HG2 HG3 HG4
  have I : PlanI (T0 [] []) ([entH g2 120 5, entH g3 120 5, entH g4 121 7].map EntR.p) ⟨[(oneH 120, 5), (oneH 121, 7)], [oneH 120, oneH 121], [⟨0, 5, 7⟩, ⟨1, 7, 7⟩], [0, 270, 0]⟩ := by
    rw [← wak_plan]
    exact planI (by simp [T0]) _
  have HI := hidden I
  clear I
  go_wp2_with fail
  refine S5.out.mono ?_
  rintro e w6 ⟨nv, pv, vv, L, rfl, hn, hp, hv, b6⟩
  obtain ⟨r, hrv, hr⟩ := planRec (w0 := w5) (E := []) (X := []) (xs := [entH g2 120 5, entH g3 120 5, entH g4 121 7]) hn hp HI.out rfl (by simp) (fun x hx => by
    simp only [List.mem_cons, List.not_mem_nil, or_false] at hx
    rcases hx with rfl | rfl | rfl <;> simp [entH])
  obtain ⟨Av, cv, rfl, _, hvr⟩ := own_shape hv
  obtain ⟨gv, ov, rfl, _, hvc⟩ := hvr.at_ (by simp)
  obtain ⟨⟨nA, nn, nc, nl⟩, ⟨pA, pn, pc, pl⟩, ⟨gA, gn, gc, gl⟩⟩ := r
  simp only [RecR.val, Sl.val, Value.agg.injEq, Array.mk.injEq, List.cons.injEq, and_true] at hrv
  obtain ⟨rfl, rfl, hgv⟩ := hrv
  simp only [Value.slice.injEq] at hgv
  obtain ⟨rfl, rfl, rfl⟩ := hgv
  have hnn : nn = 2 := hr.newsN
  have hpn : pn = 2 := hr.ptsN
  subst hnn hpn
  have v0 : w6.cell? ⟨gv, ov, none⟩ = some (.int .i64 0) := hvc 0 (by simp)
  have v1 : w6.cell? ⟨gv, ov + 1, none⟩ = some (.int .i64 270) := hvc 1 (by simp)
  have v2 : w6.cell? ⟨gv, ov + 2, none⟩ = some (.int .i64 0) := hvc 2 (by simp)
  have b7 : Below w6.heap.size w6 (w6.alloc (.cells #[.slice nA 2 nc, .slice pA 2 pc, .slice none 0 0] 31)) := (Below.refl _ _).alloc (Nat.le_refl _) _
  have hw7 := Whole1.new w6 31 #[.slice nA 2 nc, .slice pA 2 pc, .slice none 0 0]
  obtain ⟨w7, hw7e⟩ : ∃ w7, w6.alloc (.cells #[.slice nA 2 nc, .slice pA 2 pc, .slice none 0 0] 31) = w7 := ⟨_, rfl⟩
  obtain ⟨Z, hZ⟩ : ∃ Z, w6.heap.size = Z := ⟨_, rfl⟩
  rw [hw7e] at b7 hw7
  rw [hZ] at hw7
  have HH7 := hidden ((HH5.out.below b6).below b7)
  have HB7 := hidden ((HB5.out.trans (b6.mono HB5.out.size)).trans (b7.mono (Nat.le_trans HB5.out.size b6.size)))
  have HR7 := hidden (hr.turn (Turn.of_below b7 0 [] false) (by simp) (by simp) (by simp) (by simp))
  have u0 := (b7.cell (World.block_lt_of_cell? w6 _ v0)).trans v0
  have u1 := (b7.cell (World.block_lt_of_cell? w6 _ v1)).trans v1
  have u2 := (b7.cell (World.block_lt_of_cell? w6 _ v2)).trans v2
  have r0 := hw7.cell 0
  have r1 := hw7.cell 1
  have r2 := hw7.cell 2
  have S6 := apply_plan w7 HH7.out HB7.out.size (s := ⟨[(oneH 120, 5), (oneH 121, 7)], [oneH 120, oneH 121], [⟨0, 5, 7⟩, ⟨1, 7, 7⟩], [0, 270, 0]⟩) ⟨⟨nA, 2, nc, nl⟩, ⟨pA, 2, pc, pl⟩, ⟨none, 0, 0, gl⟩⟩ HR7.out HI.out (by simp) (by simp [cntP])
  have S6 := hidden S6
  simp only [RecR.val, Sl.val] at S6
  have HW7 := hidden hw7e
  have HZ := hidden hZ
  clear S5 hn hp hv hvr hvc b6 hr v0 v1 v2 b7 hw7 HH5 HB5 HR7 hw7e hZ
  go_upto_region 3 with (fail)
  rw [HW7.out, HZ.out]
  go_wp2_with fail
  refine S6.out.mono ?_
  rintro e w8 ⟨X8, he, hh8, hp8, t8⟩
  obtain rfl : e = .returned (.int .i64 0) := by simpa using he
  have hmx : X8.map HsR.mx = [5, 7] := by
    have h1 := congrArg (List.map SerP.mx) hp8
    rw [List.map_map] at h1
    refine h1.trans ?_
    unfold afterS
    rw [putsP_mx]
    rfl
  have S7 := hed_max w8 hh8 (by simp)
  rw [hmx] at S7
  have S7 := hidden S7
  have HH8 := hidden hh8
  have HB8 := hidden (HB7.out.trans (t8.below (Nat.le_refl _) HB7.out.size))
  clear S6 he hh8 hp8 t8 hmx u0 u1 u2 r0 r1 r2
  go_wp2_with fail
  refine S7.out.mono ?_
  rintro e w9 ⟨rfl, b9⟩
  have HB9 := hidden (HB8.out.trans (b9.mono HB8.out.size))
  have S8 := hidden (hed_len w9 (HH8.out.below b9))
  have hm7 : maxL [5, 7] = 7 := rfl
  rw [hm7]
  clear S7 b9 hm7
  go_wp2_with fail
  refine S8.out.mono ?_
  rintro e w10 ⟨rfl, rfl⟩
  go_wp2_with fail
  go_ret
  exact ⟨rfl, HB9.out⟩
end Go.Proofs.YthncochjhbmceaaGreat
