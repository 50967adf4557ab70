/- The law's own helper built, walked: the cursor that is made last, and its list. Condition: the nodes are within the reach, their numbers of bulk at most 1048576. -/
import Derived.Test.YtjklonfheenfbaaBuilt
import Derived.Deep.CutBlock
import Derived.Deep.RegionHeld3
namespace Go.Proofs.Ytjklonfheenfbaa
set_option maxRecDepth 100000
open Go.RowKit Go.Shelf

/-- a new cursor and its list, not yet on the stack -/
structure Mid (wr wx : World) (cs : List Kid) (j : Nat) (a : Option Addr) (E : List Int) (F : Nat → Prop) (L : Option Addr) (cL : Nat) : Prop where
  cur : IsCur wx (.pointer a) E F
  src : ∀ k, F k → wr.heap.size ≤ k ∨ gOf (cs.drop j) k
  list : IntF wx L E.length E
  cap : E.length ≤ cL
  off : ∀ k, 0 < E.length → blockOf L k → wr.heap.size ≤ k ∧ ¬ F k
  below : Below wr.heap.size wr wx
theorem mid_of {wr w1 w2 w3 : World} {cs : List Kid} {j : Nat} {a : Option Addr} {E : List Int} {F : Nat → Prop} {L : Option Addr} {cL : Nat} (hb : Below wr.heap.size wr w1) (h1 : IsCur w2 (.pointer a) E F) (h2 : ∀ k, F k → w1.heap.size ≤ k ∨ gOf (cs.drop j) k) (h3 : Below w1.heap.size w1 w2)
    (h4 : IntF w3 L E.length E) (h5 : E.length ≤ cL) (h6 : ∀ k, 0 < E.length → blockOf L k → w2.heap.size ≤ k) (h7 : Below w2.heap.size w2 w3) : Mid wr w3 cs j a E F L cL := by
  have s1 := hb.size
  have s2 := h3.size
  refine ⟨isCur_on h1 h7, fun k hk => (h2 k hk).imp (fun h => by omega) id, h4, h5, fun k hn hk => ⟨?_, fun hF => ?_⟩, hb.trans ((h3.trans (h7.mono s2)).mono s1)⟩
  · have := h6 k hn hk; omega
  · have := h6 k hn hk
    have := isCur_old _ _ _ _ h1 k hF
    omega
theorem Mid.push {ws wr wx w2 : World} {A B A1 B1 : Option Addr} {N : Nat} {cs : List Kid} {ss : List IS} {j : Nat} {a : Option Addr} {E : List Int} {F : Nat → Prop} {L : Option Addr} {cL : Nat} (h : BI ws wr A N cs B ss) (m : Mid wr wx cs j a E F L cL) (hj : j ≤ N) (hb : Below wx.heap.size wx w2)
    (hr1 : Row w2 w2.heap.size 1 A1 (j + 1) ((cs.map Kid.p).take j ++ [.pointer a])) (hr2 : Row w2 w2.heap.size 1 B1 (j + 1) ((ss.map IS.val).take j ++ [.slice L E.length cL])) (hfit : (j + 1) * 24 ≤ 140737488351232) :
    BI ws w2 A1 (j + 1) (cs.take j ++ [⟨.pointer a, E, F⟩]) B1 (ss.take j ++ [⟨L, E.length, cL, E⟩]) :=
  BI.push (w := wr) h (x := ⟨.pointer a, E, F⟩) (s := ⟨L, E.length, cL, E⟩) hj (m.below.trans (hb.mono m.below.size)) hr1 hr2 hfit (isCur_on m.cur hb) m.src (m.list.on hb) m.cap rfl fun k hn hk => m.off k hn hk

theorem tail_addr {A1 AA : Option Addr} {c1 j N : Nat} (e : (if c1 = j then A1 else Option.map (fun x => x.add j) A1) = AA) (hj : j ≤ N) (hc : N ≤ c1) (hA : 0 < N → ∃ g o, A1 = some ⟨g, o, none⟩) : AA = offA A1 j ∨ N - j = 0 := by
  by_cases h : c1 = j
  · exact .inr (by omega)
  · rcases Nat.eq_zero_or_pos N with h0 | h0
    · exact .inr (by omega)
    · obtain ⟨g, o, rfl⟩ := hA h0
      rw [if_neg h] at e
      refine .inl ?_
      rw [← e, offA, Option.map_some, Option.map_some, Addr.add_lit, Nat.mul_one]
theorem row_some {w : World} {B size n : Nat} {A : Option Addr} {xs : List Value} (h : Row w B size A n xs) : 0 < n → ∃ g o, A = some ⟨g, o, none⟩ := fun hn => by
  obtain ⟨g, o, e, _⟩ := h.at_ hn
  exact ⟨g, o, e⟩
theorem infoList : (Try.prog.info? 69).map (fun i => (i.zero, i.size, i.bytes)) = some (some (.slice none 0 0), 1, 24) := by kernel_rfl
set_option maxHeartbeats 6400000 in
theorem built_any (A : Option Addr) (m c : Nat) (l : List Nd) (w : World) (h : NdF w A m l) :
    Calls Try.prog 38 #[.slice A m c] w fun e w' => ∃ p E F L c1, e = .returned (.tuple #[p, .slice L E.length c1]) ∧ E = topOf l ∧ FC w w' p E F ∧ E.length ≤ c1 ∧ IntF w' L E.length E ∧ ∀ k, F k → ¬ (0 < E.length ∧ blockOf L k) := by
  have H := hidden h
  have hfew := h.few
  clear h
  go_enter Try.func38, Try.ntmps38
  go_wp2_with fail
  go_loopw [4, 5, 13] (fun vc vl vi wr => ∃ (q : Nat) (cs : List Kid) (ss : List IS) (A1 B1 : Option Addr) (N c1 c2 : Nat), q ≤ m ∧ vi = .int .i64 q ∧ vc = .slice A1 N c1 ∧ vl = .slice B1 N c2 ∧ N ≤ c1 ∧ N ≤ c2 ∧ N ≤ q ∧ BI w wr A1 N cs B1 ss ∧ Hid (ss.map IS.l = stackOf (l.take q))) (fun _ _ vi _ => m - (intOf vi).toNat)
  case atStart => exact ⟨0, [], [], none, none, 0, 0, 0, Nat.zero_le _, rfl, rfl, rfl, Nat.le_refl _, Nat.le_refl _, Nat.le_refl _, ⟨KidRow.none, LLF.none, rfl, by simp, by simp, Below.refl _ _⟩, rfl⟩
  case round =>
    obtain ⟨q, cs, ss, A1, B1, N, c1, c2, hqm, rfl, rfl, rfl, hNc1, hNc2, hNq, hBI, hst⟩ := hrel
    have HBI := hidden hBI
    clear hBI
    by_cases hlt : q < m
    · obtain ⟨g, o, x, rfl, hg, hx, d0, d1, d2, hxm⟩ := nd_cells (H.out.on HBI.out.below) hlt
      obtain ⟨hxI, hxc, hxk, hxt⟩ := H.out.each x hxm
      have HX := hidden hx
      have HXI := hidden hxI
      have HXK := hidden (And.intro hxk hxt)
      obtain ⟨kind, take, sA, sn, sc, sl⟩ := x
      simp only at d0 d1 d2 HXI hxc HXK
      have q0 : (0 : Int) ≤ (q : Int) := by omega
      have q1 : (q : Int) < (m : Int) := by omega
      have N0 : (0 : Int) ≤ (N : Int) := by omega
      obtain ⟨K, hK⟩ : ∃ K : Nat, max (0 : Int) (min take (N : Int)) = (K : Int) := ⟨(max (0 : Int) (min take (N : Int))).toNat, by omega⟩
      have HK := hidden hK
      clear hx hxI hxk hxt hxm
      obtain ⟨j, hj⟩ : ∃ j : Nat, N = j + K := ⟨N - K, by omega⟩
      have hj0 : (j : Int) ≤ (N : Int) := by omega
      have fj : (N : Int) - (K : Int) = (j : Int) := by omega
      have j0 : (0 : Int) ≤ (j : Int) := by omega
      have HJ := hidden hj
      clear hj
      go_upto_region 8 with (fail)
      (first | go_values | go_skip | go_guarded | go_step | go_upon | go_back | (simp only [Int.not_lt, Int.not_le] at *; go_simp) | (go_values <;> (try go_simp)) | (go_ite <;> go_prune <;> (try go_simp)))
      (first | go_values | go_skip | go_guarded | go_step | go_upon | go_back | (simp only [Int.not_lt, Int.not_le] at *; go_simp) | (go_values <;> (try go_simp)) | (go_ite <;> go_prune <;> (try go_simp)))
      (first | go_values | go_skip | go_guarded | go_step | go_upon | go_back | (simp only [Int.not_lt, Int.not_le] at *; go_simp) | (go_values <;> (try go_simp)) | (go_ite <;> go_prune <;> (try go_simp)))
      (first | go_values | go_skip | go_guarded | go_step | go_upon | go_back | (simp only [Int.not_lt, Int.not_le] at *; go_simp) | (go_values <;> (try go_simp)) | (go_ite <;> go_prune <;> (try go_simp)))
      (first | go_values | go_skip | go_guarded | go_step | go_upon | go_back | (simp only [Int.not_lt, Int.not_le] at *; go_simp) | (go_values <;> (try go_simp)) | (go_ite <;> go_prune <;> (try go_simp)))
      (first | go_values | go_skip | go_guarded | go_step | go_upon | go_back | (simp only [Int.not_lt, Int.not_le] at *; go_simp) | (go_values <;> (try go_simp)) | (go_ite <;> go_prune <;> (try go_simp)))
      (first | go_values | go_skip | go_guarded | go_step | go_upon | go_back | (simp only [Int.not_lt, Int.not_le] at *; go_simp) | (go_values <;> (try go_simp)) | (go_ite <;> go_prune <;> (try go_simp)))
      (first | go_values | go_skip | go_guarded | go_step | go_upon | go_back | (simp only [Int.not_lt, Int.not_le] at *; go_simp) | (go_values <;> (try go_simp)) | (go_ite <;> go_prune <;> (try go_simp)))
      go_cut [8, 9, 10] (fun vk vp vl wx => ∃ (j K' : Nat) (a : Option Addr) (E : List Int) (F : Nat → Prop) (L : Option Addr) (cL : Nat), vk = .int .i64 K' ∧ j + K' = N ∧ vp = .pointer a ∧ vl = .slice L E.length cL ∧ Mid wr wx cs j a E F L cL ∧ Hid (stackOf (l.take (q + 1)) = (stackOf (l.take q)).take j ++ [E]))
      case first =>
        have HTOT := hidden (show totL (ss.map IS.l) ≤ 1048576 from by
          have h1 := (stack_tot (l.take q)).1
          have h2 := ndSum_le l q
          have h3 := hfew.2
          rw [hst.out]; omega)
        have HW1 := hidden ((Below.refl wr.heap.size wr).alloc (Nat.le_refl _) (Obj.cells #[Value.int .i64 kind, Value.int .i64 take, Value.slice sA sn sc] 141))
        have HB1 := hidden (HBI.out.on HW1.out)
        generalize hw1 : wr.alloc (Obj.cells #[Value.int .i64 kind, Value.int .i64 take, Value.slice sA sn sc] 141) = w1 at *
        have n0 : w1.cell? ⟨wr.heap.size, 0, none⟩ = some (.int .i64 kind) := by rw [← hw1]; exact (Whole1.new wr _ _).cell 0
        have n2 : w1.cell? ⟨wr.heap.size, 2, none⟩ = some (.slice sA sn sc) := by rw [← hw1]; exact (Whole1.new wr _ _).cell 2
        clear hw1
        by_cases k2 : kind = 2
        · subst k2
          go_wp2_with fail
          have fw : IntKind.i64.wrap (j : Int) = (j : Int) := Go.IntWalk.i64_in _ (by have := HBI.out.kids.fit; omega)
          have hjc1 : (j : Int) ≤ (c1 : Int) := by omega
          have hjc2 : (j : Int) ≤ (c2 : Int) := by omega
          obtain ⟨AA, eA⟩ : ∃ AA, (if c1 = j then A1 else Option.map (fun x => x.add j) A1) = AA := ⟨_, rfl⟩
          obtain ⟨BB, eB⟩ : ∃ BB, (if c2 = j then B1 else Option.map (fun x => x.add j) B1) = BB := ⟨_, rfl⟩
          have HAA := hidden (tail_addr (N := N) eA (by have := HJ.out; omega) hNc1 (row_some HBI.out.kids.row))
          have HBB := hidden (tail_addr (N := N) eB (by have := HJ.out; omega) hNc2 (row_some HBI.out.lists.row))
          have HB2 := hidden (HB1.out.on (Below.refl w1.heap.size w1).drew)
          have S1 := hidden (andB HB2.out (j := j) (by have := HJ.out; omega) HAA.out (c1 - j))
          go_region_with (first | (go_at_call 48; refine S1.out.mono ?_; rintro e w2 ⟨a, F, rfl, p1, p2, p3⟩; have HP := hidden (And.intro p1 (And.intro p2 p3)); clear p1 p2 p3; have S2 := hidden (rAndB (HB2.out.on HP.out.2.2) HTOT.out (j := j) (by have := HJ.out; omega) HBB.out (c2 - j))) | (go_at_call 78; refine S2.out.mono ?_; rintro e w3 ⟨L, cL, rfl, p4, p5, p6, p7⟩; have HQ := hidden (And.intro p4 (And.intro p5 (And.intro p6 p7))); clear p4 p5 p6 p7))
          all_goals (go_wp2_with fail; go_meet)
          exact ⟨j, K, a, _, F, L, cL, rfl, HJ.out.symm, rfl, rfl, mid_of (w1 := w1.drew) HW1.out.drew HP.out.1 HP.out.2.1 HP.out.2.2 HQ.out.2.1 HQ.out.1 HQ.out.2.2.1 HQ.out.2.2.2, hidden (by rw [take_snoc? HX.out, stackOf_snoc, step_and (by rw [← hst.out, List.length_map]; exact HBI.out.lists.len) HK.out HJ.out rfl, hst.out])⟩
        · have kb2 : (kind == 2) = false := by simpa using k2
          by_cases k3 : kind = 3
          · subst k3
            go_wp2_with fail
            have fw : IntKind.i64.wrap (j : Int) = (j : Int) := Go.IntWalk.i64_in _ (by have := HBI.out.kids.fit; omega)
            have hjc1 : (j : Int) ≤ (c1 : Int) := by omega
            have hjc2 : (j : Int) ≤ (c2 : Int) := by omega
            obtain ⟨AA, eA⟩ : ∃ AA, (if c1 = j then A1 else Option.map (fun x => x.add j) A1) = AA := ⟨_, rfl⟩
            obtain ⟨BB, eB⟩ : ∃ BB, (if c2 = j then B1 else Option.map (fun x => x.add j) B1) = BB := ⟨_, rfl⟩
            have HAA := hidden (tail_addr (N := N) eA (by have := HJ.out; omega) hNc1 (row_some HBI.out.kids.row))
            have HBB := hidden (tail_addr (N := N) eB (by have := HJ.out; omega) hNc2 (row_some HBI.out.lists.row))
            have HB2 := hidden (HB1.out.on (Below.refl w1.heap.size w1).drew)
            have S1 := hidden (orB HB2.out (j := j) (by have := HJ.out; omega) HAA.out (c1 - j))
            go_region_with (first | (go_at_call 50; refine S1.out.mono ?_; rintro e w2 ⟨a, F, rfl, p1, p2, p3⟩; have HP := hidden (And.intro p1 (And.intro p2 p3)); clear p1 p2 p3; have S2 := hidden (rOrB (HB2.out.on HP.out.2.2) HTOT.out (j := j) (by have := HJ.out; omega) HBB.out (c2 - j))) | (go_at_call 79; refine S2.out.mono ?_; rintro e w3 ⟨L, cL, rfl, p4, p5, p6, p7⟩; have HQ := hidden (And.intro p4 (And.intro p5 (And.intro p6 p7))); clear p4 p5 p6 p7))
            all_goals (go_wp2_with fail; go_meet)
            exact ⟨j, K, a, _, F, L, cL, rfl, HJ.out.symm, rfl, rfl, mid_of (w1 := w1.drew) HW1.out.drew HP.out.1 HP.out.2.1 HP.out.2.2 HQ.out.2.1 HQ.out.1 HQ.out.2.2.1 HQ.out.2.2.2, hidden (by rw [take_snoc? HX.out, stackOf_snoc, step_or (by rw [← hst.out, List.length_map]; exact HBI.out.lists.len) HK.out HJ.out rfl, hst.out])⟩
          · have kb3 : (kind == 3) = false := by simpa using k3
            by_cases k4 : kind = 4
            · subst k4
              by_cases hN2 : N < 2
              · have hmn : min (2 : Int) (N : Int) = (N : Int) := by omega
                have hmd : decide ((N : Int) < 2) = true := by simp; omega
                have hmd2 : (N : Int) < 2 := by omega
                have hst2 : Hid (ss.map IS.l = stackOf (l.take (q + 1))) := by
                  rw [Hid, take_snoc? HX.out, stackOf_snoc, step_few (by rw [← hst.out, List.length_map, HBI.out.lists.len]; exact hN2) rfl, hst.out]
                go_wp2_with fail
                go_roundw
                case rel => exact ⟨q + 1, cs, ss, A1, B1, N, c1, c2, by omega, by go_num, rfl, rfl, hNc1, hNc2, by omega, HB1.out, hst2⟩
                case measure => simp [intOf]; omega
              · have hmn : min (2 : Int) (N : Int) = 2 := by omega
                obtain ⟨M, hM⟩ : ∃ M, N = M + 2 := ⟨N - 2, by omega⟩
                obtain ⟨M1, hM1⟩ : ∃ M1, M1 = M + 1 := ⟨_, rfl⟩
                have HB2 := HB1.out.on (Below.refl w1.heap.size w1).drew
                obtain ⟨x, y, s, t, e1, e2, g1, g2, hxs, hyt, cx, cy, hap, is, it, ⟨gA, oA, hA1, a0, a1⟩, gB, oB, hB1, b0, b1⟩ := HB2.two hM
                rw [← hM1] at a1 b1 g2
                simp only [IS.val] at b0 b1
                have HS := hidden (fun (w' : World) (hb' : Below w1.drew.heap.size w1.drew w') => And.intro ((hb'.cell (World.block_lt_of_cell? _ _ a0)).trans a0) (And.intro ((hb'.cell (World.block_lt_of_cell? _ _ a1)).trans a1) (And.intro ((hb'.cell (World.block_lt_of_cell? _ _ b0)).trans b0) ((hb'.cell (World.block_lt_of_cell? _ _ b1)).trans b1))))
                have S1 := hidden (woB cx cy hap)
                have HIS := hidden (And.intro is it)
                have HMM := hidden (And.intro hM hM1)
                have hsrise := (HB2.rise s.l (by
                  have : s ∈ ss.drop M := by rw [e2]; simp
                  exact List.mem_map_of_mem (List.mem_of_mem_drop this))).1
                have hsle : s.l.length ≤ 1048576 := Nat.le_trans (totL_mem (st := ss.map IS.l) (by
                  have : s ∈ ss.drop M := by rw [e2]; simp
                  exact List.mem_map_of_mem (List.mem_of_mem_drop this))) HTOT.out
                have HSR := hidden (And.intro hsrise hsle)
                have HE := hidden (And.intro e1 (And.intro g1 (And.intro g2 (And.intro hxs hyt))))
                subst hA1 hB1
                have fm : (N : Int) - 2 = (M : Int) := by omega
                have fm1 : (N : Int) - 1 = (M1 : Int) := by omega
                have fw : IntKind.i64.wrap (M : Int) = (M : Int) := Go.IntWalk.i64_in _ (by have := HBI.out.kids.fit; omega)
                have fw1 : IntKind.i64.wrap (M1 : Int) = (M1 : Int) := Go.IntWalk.i64_in _ (by have := HBI.out.kids.fit; omega)
                have m0 : (0 : Int) ≤ (M : Int) := by omega
                have m1 : (M : Int) < (N : Int) := by omega
                have m2 : (0 : Int) ≤ (M1 : Int) := by omega
                have m3 : (M1 : Int) < (N : Int) := by omega
                have m4 : M < N := by omega
                have m5 : M1 < N := by omega
                clear HB2 cx cy hap is it a0 a1 b0 b1 hM hM1 hsrise hsle e1 e2 g1 g2 hxs hyt
                go_wp2_with fail
                go_region_held3 (fun w' => w'.cell? ⟨gA, oA + M, none⟩ = some x.p ∧ w'.cell? ⟨gA, oA + M1, none⟩ = some y.p ∧ w'.cell? ⟨gB, oB + M, none⟩ = some (.slice s.A s.n s.c) ∧ w'.cell? ⟨gB, oB + M1, none⟩ = some (.slice t.A t.n t.c))
                  (first | exact HS.out _ (Below.refl _ _) | exact HS.out _ (by assumption))
                  (first | (go_at_call 49; refine S1.out.mono ?_; rintro e w2 ⟨a, F, rfl, p1, p2, p3⟩; have HP := hidden (And.intro p1 (And.intro p2 p3)); have S2 := hidden (rWoB (HIS.out.1.on p3) (HIS.out.2.on p3) HSR.out.1 HSR.out.2)) | (go_at_call 80; refine S2.out.mono ?_; rintro e w3 ⟨L, cL, rfl, p4, p5, p6, p7⟩; have HQ := hidden (And.intro p4 (And.intro p5 (And.intro p6 p7))); have p8 := p3.trans (p7.mono p3.size)))
                have p1' := HP.out.1
                rw [HE.out.2.2.2.1, HE.out.2.2.2.2] at p1'
                have p2' : ∀ k, F k → w1.drew.heap.size ≤ k ∨ gOf (cs.drop M) k := by rw [HE.out.1]; exact HP.out.2.1
                have HF := hidden (mid_of (wr := wr) (cs := cs) HW1.out.drew p1' p2' HP.out.2.2 HQ.out.2.1 HQ.out.1 HQ.out.2.2.1 HQ.out.2.2.2)
                have HT := hidden (show stackOf (l.take (q + 1)) = (stackOf (l.take q)).take M ++ [woE s.l t.l] from by
                  have hl2 : (stackOf (l.take q)).length = N := by rw [← hst.out, List.length_map]; exact HBI.out.lists.len
                  rw [take_snoc? HX.out, stackOf_snoc, step_wo (by rw [hl2]; exact hN2) rfl, hl2, show N - 2 = M by have := HMM.out.1; omega, show N - 1 = M1 by have := HMM.out; omega, ← hst.out, HE.out.2.1, HE.out.2.2.1])
                clear p1' p2' p1 p2 p3 p4 p5 p6 p7 p8
                go_wp2_with fail
                go_meet
                exact ⟨M, 2, a, _, F, L, cL, rfl, HMM.out.1.symm, rfl, rfl, HF.out, HT⟩
            · have kb4 : (kind == 4) = false := by simpa using k4
              have HXIw := hidden (HXI.out.on (HBI.out.below.trans (HW1.out.mono HBI.out.below.size)))
              have HXI2 := hidden (HXIw.out.on (Below.refl w1.heap.size w1).drew)
              have S0 := hidden (twinI_any _ _ sc _ _ HXI2.out)
              have HS := hidden (fun (w' : World) (hb' : Below w1.heap.size w1 w') => (hb'.cell (World.block_lt_of_cell? _ _ n2)).trans n2)
              have hsl2 : Hid (sl.length ≤ 1048576) := by
                have hm := List.mem_of_getElem? HX.out
                obtain ⟨la, lb, he⟩ := List.append_of_mem hm
                have h3 := hfew.2
                rw [he] at h3
                simp [ndSum] at h3
                rw [Hid]; omega
              go_wp2_with fail
              go_region_held3 (fun w' => w'.cell? ⟨wr.heap.size, 2, none⟩ = some (.slice sA sn sc))
                (first | exact HS.out _ (Below.refl _ _) | exact HS.out _ (Below.refl _ _).drew | exact HS.out _ (by assumption))
                (first | (go_at_call 47; refine S0.out.mono ?_; rintro e v2 ⟨A2, c3, rfl, p0, p1⟩; have S1 := hidden (ofB (c := c3) p0); have HI2 := hidden (HXI2.out.on p1); have p2 := (Below.refl w1.heap.size w1).drew.trans p1) | (go_at_call 46; refine S1.out.mono ?_; rintro e v3 ⟨a, F, rfl, p3, p4, p5⟩; have HP := hidden (And.intro p3 (And.intro p4 p5)); have S2 := hidden (rOfB (c := sc) (HI2.out.on p5) hsl2.out); have p6 := p2.trans (p5.mono p2.size)) | (go_at_call 51; refine S2.out.mono ?_; rintro e v4 ⟨L, cL, rfl, p7, p8, p9, p10⟩; have HQ := hidden (And.intro p7 (And.intro p8 (And.intro p9 p10))); have p11 := p6.trans (p10.mono p6.size)))
              have HF := hidden (mid_of (wr := wr) (cs := cs) (j := N) (HW1.out.trans (p2.mono HW1.out.size)) HP.out.1 (fun k hk => .inl ((HP.out.2.1 k hk).elim id False.elim)) HP.out.2.2 HQ.out.2.1 HQ.out.1 HQ.out.2.2.1 HQ.out.2.2.2)
              have HT := hidden (show stackOf (l.take (q + 1)) = (stackOf (l.take q)).take N ++ [riseOf sl] from by
                have hl2 : (stackOf (l.take q)).length = N := by rw [← hst.out, List.length_map]; exact HBI.out.lists.len
                rw [take_snoc? HX.out, stackOf_snoc, step_of k2 k3 k4, List.take_of_length_le (show (stackOf (l.take q)).length ≤ N by omega)])
              clear p0 p1 p2 p3 p4 p5 p6 p7 p8 p9 p10 p11
              go_wp2_with fail
              go_meet
              exact ⟨N, 0, a, _, F, L, cL, rfl, Nat.add_zero _, rfl, rfl, HF.out, HT⟩
      case rest =>
        obtain ⟨j, K, a, E, F, L, cL, rfl, hj, rfl, rfl, hmid, hst3⟩ := hcut
        have HM := hidden hmid
        have HJ := hidden hj
        obtain ⟨iP, hiP, hzP0, hzP1, hzP2⟩ := info_parts infoPtr
        obtain ⟨iL, hiL, hzL0, hzL1, hzL2⟩ := info_parts infoList
        have hjN : j ≤ N := by omega
        have HR1 := hidden (fun (W : World) (hb : Below wc.heap.size wc W) => ((HBI.out.on HM.out.below).kids.row.first hjN).below hb)
        have HR2 := hidden (fun (W : World) (hb : Below wc.heap.size wc W) => ((HBI.out.on HM.out.below).lists.row.first hjN).below hb)
        have hfit24 : (j + 1) * 24 ≤ 140737488351232 := by omega
        have HST := hidden (show (ss.take j ++ [(⟨L, E.length, cL, E⟩ : IS)]).map IS.l = stackOf (l.take (q + 1)) from by
          rw [List.map_append, List.map_take, hst.out, hst3.out]; rfl)
        have fj : (N : Int) - (K : Int) = (j : Int) := by omega
        have fw : IntKind.i64.wrap (j : Int) = (j : Int) := Go.IntWalk.i64_in _ (by have := HBI.out.kids.fit; omega)
        have j0 : (0 : Int) ≤ (j : Int) := by omega
        have hjc1 : (j : Int) ≤ (c1 : Int) := by omega
        have hjc2 : (j : Int) ≤ (c2 : Int) := by omega
        have hone1 : ∀ u ∈ [Value.pointer a], u.oneCell' = true := by simp [Value.oneCell']
        have hone2 : ∀ u ∈ [Value.slice L E.length cL], u.oneCell' = true := by simp [Value.oneCell']
        have hjm : j + 1 ≤ maxLen := by unfold maxLen; omega
        have hj8 : (j + 1) * 8 ≤ 140737488355328 := by omega
        have hj24 : (j + 1) * 24 ≤ 140737488355328 := by omega
        have T1 := fun (W : World) (bk cp : Nat) (ops : Array Oper) (o : Oper) (a0 : Act) (K0 : Act → World → Prop) (Q0 : Exit → Act → World → Prop) (E0 : Prop) (hg : o.guard = none) (s1 s2 : Operand) (ho : o.op = .call { callee := .builtin .append, args := #[s1, s2], argTypes := #[138, 138] }) (hs : a0.eval s1 = .slice A1 j j) (hx : a0.eval s2 = .slice (some ⟨bk, 0, none⟩) 1 cp) (hb : Below wc.heap.size wc W) (hr : Row W W.heap.size 1 (some ⟨bk, 0, none⟩) 1 [.pointer a]) (h : ∀ v' w', W.grownBy w' none → w'.ownsRow W.heap.size 68 1 v' (j + 1) ((cs.map Kid.p).take j ++ [.pointer a]) → K0 (a0.put o.dst v') w') =>
          step_full (P := Try.prog) (w := W) (ops := ops) (o := o) (a := a0) (K := K0) (Q := Q0) (E := E0) hg s1 s2 138 ho 68 iP _ 1 8 Try.underlying138 hiP hzP0 hzP1 hzP2 rfl (by decide) _ A1 j _ hs (HR1.out W hb) _ _ 1 cp [.pointer a] hx hr hone1 Nat.one_pos hjm hj8 h
        have T2 := fun (W : World) (bk cp : Nat) (ops : Array Oper) (o : Oper) (a0 : Act) (K0 : Act → World → Prop) (Q0 : Exit → Act → World → Prop) (E0 : Prop) (hg : o.guard = none) (s1 s2 : Operand) (ho : o.op = .call { callee := .builtin .append, args := #[s1, s2], argTypes := #[139, 139] }) (hs : a0.eval s1 = .slice B1 j j) (hx : a0.eval s2 = .slice (some ⟨bk, 0, none⟩) 1 cp) (hb : Below wc.heap.size wc W) (hr : Row W W.heap.size 1 (some ⟨bk, 0, none⟩) 1 [.slice L E.length cL]) (h : ∀ v' w', W.grownBy w' none → w'.ownsRow W.heap.size 69 1 v' (j + 1) ((ss.map IS.val).take j ++ [.slice L E.length cL]) → K0 (a0.put o.dst v') w') =>
          step_full (P := Try.prog) (w := W) (ops := ops) (o := o) (a := a0) (K := K0) (Q := Q0) (E := E0) hg s1 s2 139 ho 69 iL _ 1 24 Try.underlying139 hiL hzL0 hzL1 hzL2 rfl (by decide) _ B1 j _ hs (HR2.out W hb) _ _ 1 cp [.slice L E.length cL] hx hr hone2 Nat.one_pos hjm hj24 h
        clear hmid hj
        go_wp2_with fail
        go_region_held3 (fun w' => Below wc.heap.size wc w')
          (first | exact (Below.refl _ _).drew | assumption | exact below_allocd (by assumption) _ | exact (below_allocd (by assumption) _).drew)
          (first | (refine T1 _ _ _ _ _ _ _ _ _ rfl _ _ rfl rfl rfl (by assumption) ?_ ?_; (focus (repeat (first | exact fresh_at _ _ _ _ (by first | rfl | simp) | apply Row.drewd | apply Row.allocd | (refine Row.grew ?_ (by assumption))))); intro v1 wA hgA hoA; have hbA := below_grew (a := wc) (by assumption) hgA; obtain ⟨A9, c9, rfl, hc9, hrA⟩ := own_shape hoA; clear hoA) | (refine T2 _ _ _ _ _ _ _ _ _ rfl _ _ rfl rfl rfl (by assumption) ?_ ?_; (focus (repeat (first | exact fresh_at _ _ _ _ (by first | rfl | simp) | apply Row.drewd | apply Row.allocd | (refine Row.grew ?_ (by assumption))))); intro v2 wB hgB hoB; have hbB := below_grew (a := wc) (by assumption) hgB; obtain ⟨B9, c8, rfl, hc8, hrB⟩ := own_shape hoB; clear hoB))
        all_goals
          first
          | have hF := Mid.push (w2 := wB) (A1 := A9) (B1 := B9) HBI.out HM.out hjN hbB (by repeat (first | exact hrA | apply Row.drewd | apply Row.allocd | (refine Row.grew ?_ (by assumption)))) hrB hfit24
          | have hF := Mid.push (w2 := wA) (A1 := A9) (B1 := B9) HBI.out HM.out hjN hbA hrA (by repeat (first | exact hrB | apply Row.drewd | apply Row.allocd | (refine Row.grew ?_ (by assumption)))) hfit24
          have HF := hidden hF
          clear hF hbA hbB hrA hrB hgA hgB T1 T2
          go_wp2_with fail
          go_roundw
          case rel => exact ⟨q + 1, _, _, A9, B9, j + 1, c9, c8, by omega, by go_num, rfl, rfl, hc9, hc8, by omega, HF.out, HST⟩
          case measure => simp [intOf]; omega
    · obtain rfl : m = q := by omega
      have q1 : ¬ (m : Int) < (m : Int) := by omega
      have hst2 : Hid (ss.map IS.l = stackOf l) := by
        have := hst.out
        rw [List.take_of_length_le (by rw [H.out.len]; exact Nat.le_refl _)] at this
        exact this
      rcases Nat.eq_zero_or_pos N with h0 | h0
      · subst h0
        have he : Hid (topOf l = []) := by
          rw [Hid, topOf, ← hst2.out, List.eq_nil_of_length_eq_zero (show (ss.map IS.l).length = 0 by rw [List.length_map]; exact HBI.out.lists.len)]; rfl
        go_wp2_with fail
        go_ret2
        refine ⟨_, [], fun _ => False, _, _, rfl, he.out.symm, ⟨⟨0, .inl ⟨rfl, rfl, fun _ h => h⟩⟩, fun _ h => h.elim, HBI.out.below⟩, Nat.le_refl _, ⟨Row.nil, rfl, by decide, by simp⟩, fun _ h => h.elim⟩
      · obtain ⟨M, hM⟩ : ∃ M, N = M + 1 := ⟨N - 1, by omega⟩
        obtain ⟨x, L, cx, hlast, hFC, hcx, hI, hoff, ⟨gA, oA, rfl, a0⟩, gB, oB, rfl, b0⟩ := HBI.out.top hM
        have HFC := hidden hFC
        have HI := hidden (And.intro hlast (And.intro hcx (And.intro hI hoff)))
        have fm : (N : Int) - 1 = (M : Int) := by omega
        have m0 : (0 : Int) ≤ (M : Int) := by omega
        have m1 : (M : Int) < (N : Int) := by omega
        have n0 : ((N : Int) == 0) = false := by simp; omega
        clear hM hlast hFC hcx hI hoff
        go_wp2_with fail
        go_quiet (fail)
        go_wp2_with fail
        go_ret2
        have hq := below_drewN (Below.refl wr.heap.size wr) nq
        refine ⟨_, x.E, x.F, L, cx, rfl, by rw [topOf, ← hst2.out]; exact HI.out.1.symm, ⟨isCur_on HFC.out.1 hq, HFC.out.2.1, HFC.out.2.2.trans (hq.mono HFC.out.2.2.size)⟩, HI.out.2.1, HI.out.2.2.1.on hq, HI.out.2.2.2⟩
end Go.Proofs.Ytjklonfheenfbaa
