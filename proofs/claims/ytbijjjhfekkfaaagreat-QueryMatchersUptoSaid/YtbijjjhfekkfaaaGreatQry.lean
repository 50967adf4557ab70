/- A query's case, run (almanaclaw26). Condition: what comes in is within the reach. -/
import Derived.Test.YtbijjjhfekkfaaaGreatRunG
import Derived.Test.YtbijjjhfekkfaaaGreatOpQ
import Derived.Test.YtbijjjhfekkfaaaGreatLaw26M
namespace Go.Proofs.YtbijjjhfekkfaaaGreat
set_option maxRecDepth 100000
open Go.RowKit Go.Shelf

theorem filtK_fit {ms ns : List Mt} (h : ms.map Mt.fit = ns.map Mt.fit) (l : List SK) : filtK ms l = filtK ns l := by
  unfold filtK
  congr 1
  funext s
  rw [allM_fit, allM_fit, h]
theorem runK_fit {ms ns : List Mt} (h : ms.map Mt.fit = ns.map Mt.fit) (res fr tt lo rd : Int) (gones : List Gon) (M : List SK) : runK res fr tt lo rd gones ms M = runK res fr tt lo rd gones ns M := filtK_fit h _
theorem canon_nil : Canon [] := ⟨List.Pairwise.nil, by simp, by simp, by simp⟩
/-- whose labels are told -/
theorem runOk_key {res fr tt lo rd : Int} {gones : List Gon} {ms : List Mt} {all K : List SK} (h : RunOk res fr tt lo rd gones ms all K) {e : SK} (he : e ∈ K) : ∃ x ∈ all, x.1 = e.1 := by
  by_cases h0 : runE res fr tt = 0
  · obtain ⟨k1, k2, k3⟩ := h.2 h0
    by_cases hx : res ≠ 0 ∧ rd ≤ max fr lo
    · rw [k1 hx] at he; cases he
    · obtain ⟨M0, hM0, hE0⟩ := k3 hx
      rw [k2 M0 hM0 hE0] at he
      obtain ⟨a, ha, ea⟩ := key_clip (List.mem_filter.1 he).1
      obtain ⟨b, hb, eb⟩ := key_strip ha
      obtain ⟨c, hc, ec⟩ := key_of hM0 hE0 hb
      exact ⟨c, hc, ec.trans (eb.trans ea)⟩
  · rw [h.1 h0] at he; cases he
/-- what two halves tell is what the whole tells -/
theorem halves_plain {res fr tt mid lo rd : Int} {gones : List Gon} {ms na nb : List Mt} {all K Ka Kb M : List SK} (hk : RunOk res fr tt lo rd gones ms all K) (ha : RunOk res fr mid lo rd gones na all Ka) (hb : RunOk res (mid + 1) tt lo rd gones nb all Kb)
    (fa : na.map Mt.fit = ms.map Mt.fit) (fb : nb.map Mt.fit = ms.map Mt.fit) (he : runE res fr tt = 0) (h1 : fr ≤ mid) (h2 : mid < tt) (hC : Canon M) (hE : Eqv M (Ka ++ Kb)) : M = K := by
  have hr : ¬ (res < 0 ∨ 3 ≤ res) := fun h => by rw [runE, if_pos h] at he; cases he
  have ea : runE res fr mid = 0 := by rw [runE, if_neg hr, if_neg (by omega)]
  have eb : runE res (mid + 1) tt = 0 := by rw [runE, if_neg hr, if_neg (by omega)]
  obtain ⟨k1, k2, k3⟩ := hk.2 he
  obtain ⟨a1, a2, _⟩ := ha.2 ea
  obtain ⟨b1, b2, _⟩ := hb.2 eb
  by_cases hx : res ≠ 0 ∧ rd ≤ max fr lo
  · rw [a1 ⟨hx.1, hx.2⟩, b1 ⟨hx.1, by have := hx.2; omega⟩] at hE
    rw [k1 hx]
    exact canon_unique hC canon_nil hE
  · obtain ⟨M0, hM0, hE0⟩ := k3 hx
    rw [a2 M0 hM0 hE0, b2 M0 hM0 hE0, runK_fit fa, runK_fit fb] at hE
    rw [k2 M0 hM0 hE0]
    refine canon_unique hC (canon_filt _ (canon_clip _ _ (canon_strip _ _ hM0))) (hE.trans ?_)
    unfold runK
    refine eqv_ranges ms fun t => ?_
    split <;> omega
/-- what is told with matchers is what is told without, but for what they don't fit -/
theorem match_plain {res fr tt lo rd : Int} {gones : List Gon} {ms : List Mt} {all K Ka : List SK} (hk : RunOk res fr tt lo rd gones ms all K) (ha : RunOk res fr tt lo rd gones [] all Ka) : K = filtK ms Ka := by
  by_cases he : runE res fr tt = 0
  · obtain ⟨k1, k2, k3⟩ := hk.2 he
    obtain ⟨a1, a2, _⟩ := ha.2 he
    by_cases hx : res ≠ 0 ∧ rd ≤ max fr lo
    · rw [k1 hx, a1 hx]; rfl
    · obtain ⟨M0, hM0, hE0⟩ := k3 hx
      rw [k2 M0 hM0 hE0, a2 M0 hM0 hE0]
      unfold runK
      have h0 : ∀ l : List SK, filtK [] l = l := fun l => by simp [filtK, allM]
      rw [h0]
  · rw [hk.1 he, ha.1 he]; rfl
/-- what is answered, as it is told by what fits -/
def CaseRes (w : World) (x : CaseV) (e : Ending) (w' : World) : Prop :=
  ∃ ms : List Mt, ms.map Mt.fit = goodF x.ask.l ∧ RunRes w x.r x.fr x.tt (pick3 x.r.toNat x.lo0 x.lo1 x.lo2) (pick3 x.r.toNat x.rd0 x.rd1 x.rd2) x.gon.l ms (MR.allOf x.src.l) e w'
set_option maxHeartbeats 1600000 in
theorem case_any (x : CaseV) (w : World) (h : x.Ok w) : Calls Tryz.prog 17 #[x.val] w (CaseRes w x) := by
  have hw0 := Whole1.new w 42 #[.int .i64 x.r, .int .i64 x.fr, .int .i64 x.tt, .slice x.ask.A x.ask.n x.ask.c, .int .i64 x.lo0, .int .i64 x.lo1, .int .i64 x.lo2, .int .i64 x.rd0, .int .i64 x.rd1, .int .i64 x.rd2, .slice x.gon.A x.gon.n x.gon.c, .slice x.src.A x.src.n x.src.c]
  have hb0 : Below w.heap.size w (w.alloc (.cells #[.int .i64 x.r, .int .i64 x.fr, .int .i64 x.tt, .slice x.ask.A x.ask.n x.ask.c, .int .i64 x.lo0, .int .i64 x.lo1, .int .i64 x.lo2, .int .i64 x.rd0, .int .i64 x.rd1, .int .i64 x.rd2, .slice x.gon.A x.gon.n x.gon.c, .slice x.src.A x.src.n x.src.c] 42)) := (Below.refl _ _).alloc (Nat.le_refl _) _
  have H := hidden h
  clear h
  have hv : x.val = .agg #[.int .i64 x.r, .int .i64 x.fr, .int .i64 x.tt, .slice x.ask.A x.ask.n x.ask.c, .int .i64 x.lo0, .int .i64 x.lo1, .int .i64 x.lo2, .int .i64 x.rd0, .int .i64 x.rd1, .int .i64 x.rd2, .slice x.gon.A x.gon.n x.gon.c, .slice x.src.A x.src.n x.src.c] := rfl
  rw [hv]
  go_enter Tryz.func17, Tryz.ntmps17
  go_upto_region 1 with (fail)
  generalize w.alloc (.cells #[.int .i64 x.r, .int .i64 x.fr, .int .i64 x.tt, .slice x.ask.A x.ask.n x.ask.c, .int .i64 x.lo0, .int .i64 x.lo1, .int .i64 x.lo2, .int .i64 x.rd0, .int .i64 x.rd1, .int .i64 x.rd2, .slice x.gon.A x.gon.n x.gon.c, .slice x.src.A x.src.n x.src.c] 42) = w1 at hw0 hb0 ⊢
  obtain ⟨g, hg⟩ : ∃ g, w.heap.size = g := ⟨_, rfl⟩
  have HB := hidden hb0
  rw [hg] at hw0 ⊢
  have HW := hidden hw0
  have c3 := hw0.cell 3
  have S1 := hidden (matchers26_any x.ask.A x.ask.n x.ask.c x.ask.l w1 (H.out.ask.on hb0))
  clear hw0 hb0
  go_wp2_with fail
  refine S1.out.mono ?_
  rintro e w2 ⟨vm, vw, ms, rfl, hP, hfit, hlen⟩
  have b2 := hP.below
  have HB2 := hidden (HB.out.trans (b2.mono HB.out.size))
  obtain ⟨Am, cm, e1, hcm, hrow⟩ := own_shape hP.one
  subst e1
  obtain ⟨Aw, cw, e2, _, _⟩ := own_shape hP.two
  subst e2
  have HM := hidden (show MtRow w2 Am ms.length ms from ⟨hrow, rfl, hP.m1⟩)
  have HFT := hidden (And.intro hfit (show ms.length ≤ 1048576 from Nat.le_trans hlen H.out.askn))
  have hw2 := HW.out.below b2 HW.out.lt
  have HW2 := hidden hw2
  have HRn := hidden (fun W (hW : Below w2.heap.size w2 W) => hw2.below hW hw2.lt)
  clear hP b2 hrow hfit hlen hw2 S1 c3 HW HB hcm
  have c0 := HW2.out.cell 0
  have c1 := HW2.out.cell 1
  have c2 := HW2.out.cell 2
  have c4 := HW2.out.cell 4
  have c5 := HW2.out.cell 5
  have c6 := HW2.out.cell 6
  have c7 := HW2.out.cell 7
  have c8 := HW2.out.cell 8
  have c9 := HW2.out.cell 9
  have c10 := HW2.out.cell 10
  have c11 := HW2.out.cell 11
  go_wp2_with fail
  have HO2 := H.out.on HB2.out
  have S2 := hidden (run_gen x.r x.fr x.tt x.lo0 x.lo1 x.lo2 x.rd0 x.rd1 x.rd2 Am ms.length cm ms x.gon.A x.gon.n x.gon.c x.gon.l x.src.A x.src.n x.src.c x.src.l w2 HO2.rds HO2.fr HO2.src HO2.lbl HO2.gon HM.out HFT.out.2)
  clear HO2 c0 c1 c2 c4 c5 c6 c7 c8 c9 c10 c11
  refine S2.out.mono ?_
  rintro e w3 ⟨B, c', L, rfl, hL, b3, hok, h4, h5, h6⟩
  obtain ⟨h6, b0, hb0, hM0⟩ := h6
  have HR := hidden (And.intro hL (And.intro (HB2.out.trans (b3.mono HB2.out.size)) (And.intro hok (And.intro h4 (And.intro h5 (And.intro h6 (show ∃ b, w.heap.size ≤ b ∧ MOut w3 b (.slice B L.length c') L from ⟨b0, Nat.le_trans HB2.out.size hb0, hM0⟩)))))))
  clear hL b3 hok h4 h5 h6 S2 hb0 hM0
  go_wp2_with fail
  go_ret2
  exact ⟨ms, HFT.out.1, B, c', L, rfl, HR.out⟩
end Go.Proofs.YtbijjjhfekkfaaaGreat
