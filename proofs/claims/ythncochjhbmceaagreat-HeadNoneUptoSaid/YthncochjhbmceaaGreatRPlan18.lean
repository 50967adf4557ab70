/- The document's Plan over a head without series, walked. Condition: the batch is a copy within the reach. -/
import Derived.Test.YthncochjhbmceaaGreatRFnd18
import Derived.Test.YthncochjhbmceaaGreatPk78afa221
namespace Go.Proofs.YthncochjhbmceaaGreat
set_option maxRecDepth 100000
open Go.RowKit

theorem infoNewE : (Tryz.prog.info? 202).map (fun i => (i.zero, i.size, i.bytes)) = some (some (.agg #[.int .i64 0, .slice none 0 0]), 2, 32) := by kernel_rfl
theorem infoPntE : (Tryz.prog.info? 203).map (fun i => (i.zero, i.size, i.bytes)) = some (some (.agg #[.int .i64 0, .int .i64 0, .int .u64 0]), 3, 24) := by kernel_rfl
theorem infoSerE : (Tryz.prog.info? 153).map (fun i => (i.zero, i.size, i.bytes)) = some (some (.agg #[.slice none 0 0, .int .i64 0, .slice none 0 0, .slice none 0 0, .slice none 0 0, .slice none 0 0]), 6, 128) := by kernel_rfl
theorem infoIntE : (Tryz.prog.info? 3).map (fun i => (i.zero, i.size, i.bytes)) = some (some (.int .i64 0), 1, 8) := by kernel_rfl
theorem MidS.at_ {s : PlanS} {l : List Lbl} {nn : Nat} {T' : List (List Lbl × Int)} {N' : List (List Lbl)} (h : MidS s l nn T' N') : (T'.map (·.1))[nn]? = some l := by
  rcases h with ⟨h1, rfl, rfl⟩ | ⟨h1, rfl, rfl, rfl⟩
  · exact atE_some h1
  · simp
/-- what the document's Plan answers -/
def RPlanAns (w : World) (lb : Nat) (s : PlanS) (e : Ending) (w' : World) : Prop :=
  ∃ nv pv vv L, e = .returned (.tuple #[.agg #[nv, pv, .slice none 0 0], vv]) ∧ NewsR w' w.heap.size lb nv L ∧ L.map (fun x => x.lab.l) = s.N ∧ (∀ (i : Nat) (x : NewQ), L[i]? = some x → x.ref = (i : Int)) ∧ w'.ownsRow w.heap.size 203 3 pv s.P.length (s.P.flatMap PntR.cells) ∧ w'.ownsRow w.heap.size 3 1 vv s.V.length (s.V.map (Value.int .i64)) ∧ Below w.heap.size w w'
set_option maxHeartbeats 12800000 in
theorem rplan_any (h : Nat) (A : Option Addr) (n c lb : Nat) (xs : List EntR) (w : World) (hh : Whole1 w h 50 #[.slice none 0 0]) (hB : EntO w lb (.slice A n c) xs) (hln : xs.length = n) (hn : n ≤ 1048576) (hlb : lb ≤ w.heap.size)
    (hf : ∀ x ∈ xs, x.lab.n * 32 ≤ 140737488351232 ∧ ∀ z ∈ x.lab.l, z.name.size ≤ 140737488355328 ∧ z.value.size ≤ 140737488355328) :
    Calls Tryz.prog 36 #[.pointer (some ⟨h, 0, none⟩), .slice A n c] w fun e w' => RPlanAns w lb (planB [] (xs.map EntR.p)) e w' := by
  obtain ⟨iN, iN0, iN1, iN2, iN3⟩ := info_parts infoNewE
  obtain ⟨iP, iP0, iP1, iP2, iP3⟩ := info_parts infoPntE
  obtain ⟨iS, iS0, iS1, iS2, iS3⟩ := info_parts infoSerE
  obtain ⟨iI, iI0, iI1, iI2, iI3⟩ := info_parts infoIntE
  have b1 : Below w.heap.size w (w.alloc (.cells #[.slice none 0 0, .slice none 0 0, .slice none 0 0] 126)) := (Below.refl _ _).alloc (Nat.le_refl _) _
  have hr0 := Whole1.new w 126 #[.slice none 0 0, .slice none 0 0, .slice none 0 0]
  obtain ⟨w1, hw1⟩ : ∃ w1, w.alloc (.cells #[.slice none 0 0, .slice none 0 0, .slice none 0 0] 126) = w1 := ⟨_, rfl⟩
  have hs1 : w1.heap.size = w.heap.size + 1 := by rw [← hw1]; simp
  rw [hw1] at b1 hr0
  have S0 := hidden (twin18_nil w1 h (hh.below b1 hh.lt))
  have hH := Whole1.new w1 50 #[.slice none 0 0]
  have HB := hidden (hB.below b1)
  have HLN := hidden hln
  have HF := hidden hf
  have HLB := hidden hlb
  have HB1 := hidden b1
  have HR0 := hidden hr0
  have HW1 := hidden hw1
  have HS1 := hidden hs1
  clear hh hB hln hlb hf b1 hr0 hw1 hs1
  go_enter Tryz.func36, Tryz.ntmps36
  go_wp2_with fail
  rw [HW1.out]
  refine S0.out.mono ?_
  rintro e w2 ⟨rfl, rfl⟩
  clear S0
  have hR := Whole1.new (w1.alloc (.cells #[.slice none 0 0] 50)) 126 #[.slice none 0 0, .slice none 0 0, .slice none 0 0]
  have hb3 : Below w1.heap.size w1 ((w1.alloc (.cells #[.slice none 0 0] 50)).alloc (.cells #[.slice none 0 0, .slice none 0 0, .slice none 0 0] 126)) := ((Below.refl _ _).alloc (Nat.le_refl _) _).alloc (by simp [World.size_alloc]) _
  have HU := hidden (show RPl w1 ((w1.alloc (.cells #[.slice none 0 0] 50)).alloc (.cells #[.slice none 0 0, .slice none 0 0, .slice none 0 0] 126)) lb w1.heap.size (w1.heap.size + 1) (.slice none 0 0) (.slice none 0 0) (.slice none 0 0) (.slice none 0 0) [] [] [] [] from
    ⟨⟨by rw [World.size_alloc] at hR; exact hR, NewsR.nil, World.ownsRow_nil _ _ _ _, hb3, by omega⟩, hH.alloc _, World.ownsRow_nil _ _ _ _, by simp, World.ownsRow_nil _ _ _ _, Nat.le_refl _⟩)
  clear hR hb3 hH
  obtain ⟨H, hHe⟩ : ∃ H, w1.heap.size = H := ⟨_, rfl⟩
  obtain ⟨w3, hw3⟩ : ∃ w3, (w1.alloc (.cells #[.slice none 0 0] 50)).alloc (.cells #[.slice none 0 0, .slice none 0 0, .slice none 0 0] 126) = w3 := ⟨_, rfl⟩
  rw [hHe, hw3] at HU
  have HHE := hidden hHe
  have HW3 := hidden hw3
  clear hHe hw3
  go_upto_region 4 with (fail)
  rw [HHE.out, HW3.out]
  go_wp2_with fail
  go_loopw [8, 9] (fun vv vi wr => ∃ (k : Nat) (lv nv pv : Value) (T : List TrR) (L : List NewQ), vi = .int .i64 (k : Int) ∧ k ≤ n ∧ Hid (RPl w1 wr lb H (H + 1) lv nv pv vv T L (planB [] ((xs.take k).map EntR.p)).P (planB [] ((xs.take k).map EntR.p)).V) ∧ Hid (T.map TrR.p = (planB [] ((xs.take k).map EntR.p)).T) ∧ Hid (L.map (fun x => x.lab.l) = (planB [] ((xs.take k).map EntR.p)).N) ∧ Hid (∀ (i : Nat) (x : NewQ), L[i]? = some x → x.ref = (i : Int))) (fun _ vi _ => n - (intOf vi).toNat)
  case atStart => exact ⟨0, _, _, _, [], [], rfl, Nat.zero_le _, HU, hidden rfl, hidden rfl, hidden (by simp)⟩
  case round =>
    obtain ⟨k, lv, nv, pv, T, L, rfl, hk, hP, hT, hN, hR⟩ := hrel
    have k0 : (0 : Int) ≤ (k : Int) := by omega
    by_cases hlt : k < n
    · have k1 : (k : Int) < (n : Int) := by omega
      have fwk : IntKind.i64.wrap ((k : Int) + 1) = (k : Int) + 1 := Go.IntWalk.i64_in _ (by omega)
      have HLT := hidden (show k + 1 ≤ n from hlt)
      have hBr := HB.out.below hP.out.rc.below
      obtain ⟨A', c', e1, _, hrow⟩ := own_shape hBr.row
      injection e1 with e1 e5 e2
      subst e1 e2
      obtain ⟨g, o, x, rfl, _, hx, hc⟩ := row_at (enc := EntR.cells) (k := 3) (fun _ => rfl) hrow rfl k (by rw [HLN.out]; exact hlt)
      have hxm := List.mem_of_getElem? hx
      obtain ⟨hlb, hll⟩ := hBr.lab x hxm
      obtain ⟨hf1, hf2⟩ := HF.out x hxm
      have hsn := entP_snoc hx []
      have hln := planB_lens [] ((xs.take k).map EntR.p)
      have I := planI (T0 := []) (by simp) ((xs.take k).map EntR.p)
      have htk : ((xs.take k).map EntR.p).length = k := by have := HLN.out; rw [List.length_map, List.length_take]; omega
      rw [htk] at hln
      generalize planB [] ((xs.take k).map EntR.p) = s at hP hT hN hsn hln I
      have c0 := hc 0 (by omega)
      have c1 := hc 1 (by omega)
      have c2 := hc 2 (by omega)
      obtain ⟨⟨lA, lN, lC, ll⟩, xt, xv⟩ := x
      simp only [EntR.cells, Sl.val, List.getElem?_cons_zero, List.getElem?_cons_succ, Nat.add_zero] at c0 c1 c2 hlb hll hf1 hf2
      have hb4 : Below wr.heap.size wr (wr.alloc (.cells #[.slice lA lN lC, .int .i64 xt, .int .u64 (xv : Int)] 197)) := (Below.refl _ _).alloc (Nat.le_refl _) _
      have hY4 := Whole1.new wr 197 #[.slice lA lN lC, .int .i64 xt, .int .u64 (xv : Int)]
      obtain ⟨w4, hw4⟩ : ∃ w4, wr.alloc (.cells #[.slice lA lN lC, .int .i64 xt, .int .u64 (xv : Int)] 197) = w4 := ⟨_, rfl⟩
      obtain ⟨Y, hY⟩ : ∃ Y, wr.heap.size = Y := ⟨_, rfl⟩
      rw [hw4] at hb4 hY4
      rw [hY] at hY4
      have HP4 := hidden (hP.out.on hb4)
      have HY4 := hidden hY4
      have HLB := hidden (own_below hlb hb4 (Nat.le_refl _))
      have HLL := hidden hll
      obtain ⟨lA', lC', e3, _, hlr⟩ := own_shape HLB.out
      injection e3 with e3 e6 e4
      subst e3 e4
      have S2 := hidden (renc_any lA lN lC ll w4 ⟨hlr, hll, hf1, hf2⟩)
      have HSN := hidden hsn
      have HT := hidden hT.out
      have HN := hidden hN.out
      have HR := hidden hR.out
      have HI := hidden I
      have HW4 := hidden hw4
      have HYY := hidden hY
      have d0 := hY4.cell 0
      clear hBr hrow hx hxm hc hlb hll hf1 hf2 hsn hb4 hY4 hw4 hY hlr e5 e6 hP hT hN hR I htk
      go_upto_region 8 with (fail)
      rw [HW4.out, HYY.out]
      clear c0 c1 c2
      go_wp2_with fail
      refine S2.out.mono ?_
      rintro e w5 ⟨rfl, b5⟩
      have HP5 := hidden (HP4.out.on b5)
      have HY5 := hidden (HY4.out.below b5 HY4.out.lt)
      have HLB5 := hidden (own_below HLB.out b5 (Nat.le_refl _))
      have e0 := HY5.out.cell 0
      have e1 := HY5.out.cell 1
      have e2 := HY5.out.cell 2
      clear b5 HP4 HY4 HLB S2 d0
      obtain ⟨eb, heb⟩ : ∃ eb, (encLb ll).1 = eb := ⟨_, rfl⟩
      obtain ⟨er, her⟩ : ∃ er, (encLb ll).2 = er := ⟨_, rfl⟩
      rw [heb, her]
      have HER := hidden her
      clear her heb
      obtain ⟨Av, cv, ev, hcv, _⟩ := own_shape HP5.out.ver
      subst ev
      have hver := HP5.out.ver
      rw [hln.1] at hver HP5
      obtain ⟨hln1, hln2, hln3, hln4⟩ := hln
      have hsz5 := HP5.out.rc.below.size
      by_cases her0 : er = 0
      · subst her0
        by_cases hbad : xt < 0 ∨ 1125899906842624 < xt
        · have hen : entE (EntR.p ⟨⟨lA, lN, lC, ll⟩, xt, xv⟩) = 91 := by
            simp only [entE, EntR.p, HER.out, ne_eq, not_true_eq_false, if_false, hbad, if_true]
          have hfr := Row.fresh w5 3 1 1 [.int .i64 91] rfl
          rcases hbad with hbad | hbad
          all_goals
            go_wp2_with (at_builtin; refine wpList_app _ rfl _ _ 127 rfl w1.heap.size 3 iI _ 1 8 Tryz.underlying127 iI0 iI1 iI2 iI3 rfl (by decide) _ _ _ rfl (hver.alloc _) _ _ _ _ _ rfl hfr (by simp [Value.oneCell']) (by unfold maxLen; omega) (by omega) (by simp; omega) ?_; intro v6 w6 hown6 hg6 hat6)
            have h6 := ((HP5.out.on ((Below.refl w5.heap.size w5).alloc (Nat.le_refl _) (.cells #[.int .i64 91] 3))).verdict (by rw [hln1]; exact hown6) hg6).1
            refine ⟨⟨k + 1, lv, nv, pv, T, L, by simp, HLT.out, ?_, ?_, ?_, HR⟩, ?_⟩
            · rw [HSN.out, planStep_bad (by rw [hen]; decide), hen]
              exact hidden h6
            · rw [HSN.out, planStep_bad (by rw [hen]; decide)]
              exact HT
            · rw [HSN.out, planStep_bad (by rw [hen]; decide)]
              exact HN
            · have := HLT.out; simp only [intOf]; omega
        · have hb0 : ¬ xt < 0 := fun e => hbad (.inl e)
          have hb2 : ¬ 1125899906842624 < xt := fun e => hbad (.inr e)
          have hen : entE (EntR.p ⟨⟨lA, lN, lC, ll⟩, xt, xv⟩) = 0 := by
            simp only [entE, EntR.p, HER.out, ne_eq, not_true_eq_false, if_false, hbad]
          have hTE : T.map (fun x => x.lab.l) = s.T.map (·.1) := by rw [← HT.out, List.map_map]; rfl
          have hTl : T.length = s.T.length := by have := congrArg List.length HT.out; simpa using this
          have hval : ∀ x ∈ T, x.lab.n ≤ 8 := fun x hx => by
            have h1 := HI.out.sets
            simp only [List.map_nil, List.nil_append] at h1
            have h3 := valid_small (HI.out.val x.lab.l (by rw [← h1, ← hTE]; exact List.mem_map.2 ⟨x, hx, rfl⟩))
            have h4 := (HP5.out.labs x hx).2
            omega
          obtain ⟨lA', lC', e3, _, hlr⟩ := own_shape HLB5.out
          injection e3 with e3 e6 e4
          subst e3 e4
          have S5 := hidden (find18_any H lv T ll lA lN lC lb w1.heap.size w5 HP5.out.head HP5.out.list HP5.out.labs hlr HLL.out hval (by simp only [List.length_nil] at hln4; omega))
          rw [hTE] at S5
          have HTE := hidden hTE
          have HEN := hidden hen
          have HTL := hidden hTl
          obtain ⟨Al, cl, rfl, _, _⟩ := own_shape HP5.out.list
          clear hTE hval hlr e6 hTl hen
          go_upto_region 13 with (fail)
          go_wp2_with fail
          refine S5.out.mono ?_
          rintro e w6 ⟨rfl, b6⟩
          have HP6 := hidden (HP5.out.on b6)
          have HY6 := hidden (HY5.out.below b6 HY5.out.lt)
          have HLB6 := hidden (own_below HLB5.out b6 (Nat.le_refl _))
          have e0 := HY6.out.cell 0
          have e1 := HY6.out.cell 1
          have e2 := HY6.out.cell 2
          have h0 := HP6.out.head.cell 0
          clear b6 HP5 HY5 HLB5 S5 hver hsz5
          have HNL := hidden hln4
          simp only [List.length_nil, Nat.zero_add] at hln4
          cases hat : atE (s.T.map (·.1)) ll with
          | none =>
            have hf : fndE (s.T.map (·.1)) ll = -1 := by rw [fndE, hat]
            rw [hf]
            have HAT := hidden hat
            clear hf hat
            go_upto_region 14 with (fail)
            go_quiet (fail)
            obtain ⟨w7, hw7⟩ : ∃ w7, w6.drewN nq = w7 := ⟨_, rfl⟩
            have HP7 := hidden (HP6.out.on (below_drewN (Below.refl w6.heap.size w6) nq))
            have HY7 := hidden (HY6.out.drewN nq)
            have HLB7 := hidden (own_drewN HLB6.out nq)
            rw [hw7] at HP7 HY7 HLB7 ⊢
            clear hw7 HP6 HY6 HLB6 e0 e1 e2 h0
            have hba : Below w7.heap.size w7 (w7.alloc (.cells #[.slice lA lN lC, .int .i64 (-1), .slice none 0 0, .slice none 0 0, .slice none 0 0, .slice none 0 0] 153)) := (Below.refl _ _).alloc (Nat.le_refl _) _
            have HPA := hidden (HP7.out.on hba.drew)
            have HYA := hidden (HY7.out.alloc (.cells #[.slice lA lN lC, .int .i64 (-1), .slice none 0 0, .slice none 0 0, .slice none 0 0, .slice none 0 0] 153)).drew
            have HLBA := hidden (own_below HLB7.out hba.drew (Nat.le_refl _))
            have h0 := HP7.out.head.cell 0
            have h0a := (HP7.out.head.alloc (.cells #[.slice lA lN lC, .int .i64 (-1), .slice none 0 0, .slice none 0 0, .slice none 0 0, .slice none 0 0] 153)).cell 0
            have e0 := HY7.out.cell 0
            have e0a := (HY7.out.alloc (.cells #[.slice lA lN lC, .int .i64 (-1), .slice none 0 0, .slice none 0 0, .slice none 0 0, .slice none 0 0] 153)).cell 0
            have hla := HPA.out.list
            have hsA := HPA.out.rc.below.size
            clear hba
            go_upto_region 18 with (fail)
            have hTk : T.length ≤ k := by have := HTL.out; omega
            have T' := fun (ops : Array Oper) (o : Oper) (a : Act) (K : Act → World → Prop) (Q : Exit → Act → World → Prop) (E : Prop) (hg : o.guard = none) (s1 s2 : Operand) (ho : o.op = .call { callee := .builtin .append, args := #[s1, s2], argTypes := #[48, 48] }) (hs : a.eval s1 = .slice Al T.length cl) (hx : a.eval s2 = .slice (some ⟨w7.heap.size, 0, none⟩) 1 1) h => step_appA (P := Tryz.prog) (ops := ops) (o := o) (a := a) (K := K) (Q := Q) (E := E) ((w7.alloc (.cells #[.slice lA lN lC, .int .i64 (-1), .slice none 0 0, .slice none 0 0, .slice none 0 0, .slice none 0 0] 153)).drew) hg s1 s2 48 ho w1.heap.size 153 iS _ 6 128 Tryz.underlying48 iS0 iS1 iS2 iS3 rfl (by decide) _ _ _ hs hla _ _ _ _ _ hx (Row.fresh w7 153 6 1 [.slice lA lN lC, .int .i64 (-1), .slice none 0 0, .slice none 0 0, .slice none 0 0, .slice none 0 0] rfl).drew (by simp [Value.oneCell']) (by unfold maxLen; omega) (by omega) hsA h
            go_cut [] (fun wx => ∃ v9, Hid (RPl w1 wx lb H (H + 1) v9 nv pv (.slice Av k cv) (T ++ [⟨⟨lA, lN, lC, ll⟩, -1⟩]) L s.P s.V) ∧ Hid (Whole1 wx Y 197 #[.slice lA lN lC, .int .i64 xt, .int .u64 (xv : Int)]))
            case first =>
              go_region_law (refine T' _ _ _ _ _ _ rfl _ _ rfl rfl rfl ?_; intro v8 w8 hown8 hg8 hat8; obtain ⟨A8, c8, rfl, _, _⟩ := own_shape hown8; obtain ⟨hH8, hP8, ht8⟩ := HPA.out.trial (x := ⟨⟨lA, lN, lC, ll⟩, -1⟩) ⟨HLBA.out, HLL.out⟩ hown8 hg8; have f8 := hH8.free 0; have o8 := hH8.cell 0; have HP8 := hidden hP8; have HY8 := hidden (ht8.whole HYA.out (.inr (by decide))); clear hH8 hP8 ht8 hown8 hg8)
              all_goals
                go_wp2_with fail
                go_meet
                exact ⟨_, HP8, HY8⟩
            case rest =>
              obtain ⟨v9, HP9, HY9⟩ := hcut
              obtain ⟨Av9, cv9, rfl, _, _⟩ := own_shape HP9.out.list
              obtain ⟨nA, nc, rfl, _, _⟩ := own_shape HP9.out.rc.news.row
              obtain ⟨l9, hl9⟩ : ∃ l, L.length = l := ⟨_, rfl⟩
              have hl9k : l9 ≤ k := by have h1 := congrArg List.length HN.out; rw [List.length_map, hl9] at h1; omega
              rw [hl9] at HP9
              have hr9 := HP9.out.rc.rec_
              have q0 := hr9.cell 0
              have e0 := HY9.out.cell 0
              have hfr := Row.fresh wc 202 2 1 [.int .i64 (T.length : Int), .slice lA lN lC] rfl
              have hnr := HP9.out.rc.news.row
              rw [hl9] at hnr
              have HL9 := hidden hl9
              have hs9 := HP9.out.rc.below.size
              have HLBn := hidden (show wc.ownsRow lb 167 2 (.slice lA lN lC) lN (ll.flatMap Lbl.cells) from (HP9.out.labs ⟨⟨lA, lN, lC, ll⟩, -1⟩ (by simp)).1)
              clear hr9 hl9 h0 h0a e0a hla hsA
              go_upto_region 20 with (at_builtin; refine wpList_app _ rfl _ _ 122 rfl w1.heap.size 202 iN _ 2 32 Tryz.underlying122 iN0 iN1 iN2 iN3 rfl (by decide) _ _ _ rfl (hnr.alloc _) _ _ _ _ _ rfl hfr (by simp [Value.oneCell']) (by unfold maxLen; omega) (by omega) (by rw [World.size_alloc]; omega) ?_; intro v10 w10 hown10 hg10 hat10; obtain ⟨A10, c10, rfl, _, _⟩ := own_shape hown10; obtain ⟨hR10, hP10, ht10⟩ := (HP9.out.on ((Below.refl wc.heap.size wc).alloc (Nat.le_refl _) (.cells #[.int .i64 (T.length : Int), .slice lA lN lC] 202))).newS (x := ⟨(T.length : Int), ⟨lA, lN, lC, ll⟩⟩) ⟨HLBn.out.alloc _, HLL.out⟩ (by rw [HL9.out]; exact hown10) hg10; have f10 := hR10.free 0; have o10 := hR10.cell 0; have HP10 := hidden hP10; have HY10 := hidden (ht10.whole (HY9.out.alloc (.cells #[.int .i64 (T.length : Int), .slice lA lN lC] 202)) (.inr (by decide))); clear hR10 hP10 ht10 hown10 hg10)
              obtain ⟨wz, hwz⟩ : ∃ wz, w10.setCell ⟨H + 1, 0, none⟩ (.slice A10 (l9 + 1) c10) = wz := ⟨_, rfl⟩
              rw [hwz] at HP10 HY10 ⊢
              clear hwz
              have HTZ := hidden (show (T ++ [(⟨⟨lA, lN, lC, ll⟩, -1⟩ : TrR)]).map TrR.p = s.T ++ [(ll, -1)] by rw [List.map_append, HT.out]; rfl)
              have HMz := hidden (show MidS s ll T.length ((T ++ [(⟨⟨lA, lN, lC, ll⟩, -1⟩ : TrR)]).map TrR.p) ((L ++ [(⟨(T.length : Int), ⟨lA, lN, lC, ll⟩⟩ : NewQ)]).map fun x => x.lab.l) from .inr ⟨HAT.out, HTL.out, HTZ.out, by rw [List.map_append, HN.out]; rfl⟩)
              have HLz := hidden (show ¬ xt ≤ lastT ((T ++ [(⟨⟨lA, lN, lC, ll⟩, -1⟩ : TrR)]).map TrR.p) T.length by
                rw [HTZ.out, HTL.out, lastT_at (p := (ll, -1)) (by simp)]
                show ¬ xt ≤ -1
                omega)
              have HRz := hidden (show ∀ (i : Nat) (x : NewQ), (L ++ [(⟨(T.length : Int), ⟨lA, lN, lC, ll⟩⟩ : NewQ)])[i]? = some x → x.ref = (i : Int) from fun i x hx => by
                rcases Nat.lt_or_ge i L.length with hi | hi
                · rw [List.getElem?_append_left hi] at hx
                  exact HR.out i x hx
                · rw [List.getElem?_append_right hi] at hx
                  obtain ⟨h0, e⟩ := List.getElem?_eq_some_iff.1 hx
                  have hi2 : i = L.length := by simp at h0; omega
                  subst hi2
                  simp only [Nat.sub_self, List.getElem_cons_zero] at e
                  rw [← e]
                  have h1 := HTL.out
                  have h2 := congrArg List.length HN.out
                  rw [List.length_map] at h2
                  show (T.length : Int) = (L.length : Int)
                  omega)
              obtain ⟨Tz, hTz⟩ : ∃ t, T ++ [(⟨⟨lA, lN, lC, ll⟩, -1⟩ : TrR)] = t := ⟨_, rfl⟩
              obtain ⟨Lz, hLz⟩ : ∃ t, L ++ [(⟨(T.length : Int), ⟨lA, lN, lC, ll⟩⟩ : NewQ)] = t := ⟨_, rfl⟩
              have hnk : T.length ≤ k := hTk
              obtain ⟨nn, hnn⟩ : ∃ nn, T.length = nn := ⟨_, rfl⟩
              rw [hTz, hLz] at HP10 HMz
              rw [hTz] at HLz
              rw [hLz] at HRz
              rw [hnn] at HMz HLz hnk ⊢
              have HPz := HP10
              have HYz := HY10
              obtain ⟨nz, hnz⟩ : ∃ nz, Tz.length = nz := ⟨_, rfl⟩
              rw [hnz] at HPz
              clear hTz hLz hnn HP10 HY10 HP9 HY9 HTZ HAT HL9 HLBn HTL HT HN HR
              have hnT : nn < Tz.length := by have := HMz.out.lt; rwa [List.length_map] at this
              obtain ⟨yz, hyz⟩ : ∃ y, Tz[nn]? = some y := ⟨_, List.getElem?_eq_getElem hnT⟩
              have hyl : yz.lab.l = ll := by
                have h1 := HMz.out.at_
                rw [List.getElem?_map, List.getElem?_map, hyz] at h1
                exact Option.some.inj h1
              obtain ⟨gz, csz, hgz, hwz, hsz, hPt, htt⟩ := HPz.out.time hnz hyz xt
              cases hgz
              have z0 := HPz.out.head.cell 0
              have z1 := HYz.out.cell 1
              have zc := (hwz.cell (nn * 6 + 1)).trans (Array.getElem?_eq_getElem hsz)
              have zf := hwz.free (nn * 6 + 1)
              have zn0 : (0 : Int) ≤ (nn : Int) := by omega
              have zn1 : (nn : Int) < (nz : Int) := by omega
              have HPt := hidden hPt
              have HYt := hidden (htt.whole HYz.out (.inr (by decide)))
              have HYL := hidden hyl
              have HNZ := hidden hnz
              clear hnT hwz hPt htt hyz hyl hnz
              go_region
              obtain ⟨wt, hwt⟩ : ∃ wt, (wz.setCell ⟨gz, nn * 6 + 1, none⟩ (.int .i64 xt)).drew = wt := ⟨_, rfl⟩
              have HPt := hidden (HPt.out.on (Below.refl _ _).drew)
              have HYt := hidden HYt.out.drew
              rw [hwt] at HPt HYt ⊢
              clear hwt z0 z1 zc zf
              obtain ⟨pA, pc, rfl, _, _⟩ := own_shape HPt.out.rc.pts
              obtain ⟨pl, hpl⟩ : ∃ p, s.P.length = p := ⟨_, rfl⟩
              have hplk : pl ≤ k := by omega
              have hpr := HPt.out.rc.pts
              rw [hpl] at HPt hpr
              have r1 := HPt.out.rc.rec_.cell 1
              have e1 := HYt.out.cell 1
              have e2 := HYt.out.cell 2
              have hst := HPt.out.rc.below.size
              have hfr := Row.fresh wt 203 3 1 [.int .i64 (nn : Int), .int .i64 xt, .int .u64 (xv : Int)] rfl
              have HPL := hidden hpl
              clear hpl
              go_upto_region 22 with (at_builtin; refine wpList_app _ rfl _ _ 123 rfl w1.heap.size 203 iP _ 3 24 Tryz.underlying123 iP0 iP1 iP2 iP3 rfl (by decide) _ _ _ rfl (hpr.alloc _) _ _ _ _ _ rfl hfr (by simp [Value.oneCell']) (by unfold maxLen; omega) (by omega) (by rw [World.size_alloc]; omega) ?_; intro v11 w11 hown11 hg11 hat11; obtain ⟨A11, c11, rfl, _, _⟩ := own_shape hown11; obtain ⟨hR11, hP11, ht11⟩ := (HPt.out.on ((Below.refl wt.heap.size wt).alloc (Nat.le_refl _) (.cells #[.int .i64 (nn : Int), .int .i64 xt, .int .u64 (xv : Int)] 203))).point (x := ⟨(nn : Int), xt, xv⟩) (by rw [HPL.out]; exact hown11) hg11; have f11 := hR11.free 1; have o11 := hR11.cell 1; have HP11 := hidden hP11; clear hR11 hP11 ht11 hown11 hg11)
              obtain ⟨wu, hwu⟩ : ∃ wu, w11.setCell ⟨H + 1, 1, none⟩ (.slice A11 (pl + 1) c11) = wu := ⟨_, rfl⟩
              rw [hwu] at HP11 ⊢
              have hvu := HP11.out.ver
              rw [hln1] at hvu
              have hsu := HP11.out.rc.below.size
              have hfu := Row.fresh wu 3 1 1 [.int .i64 0] rfl
              clear hwu hfr hpr r1 e1 e2 hst
              go_wp2_with (at_builtin; refine wpList_app _ rfl _ _ 127 rfl w1.heap.size 3 iI _ 1 8 Tryz.underlying127 iI0 iI1 iI2 iI3 rfl (by decide) _ _ _ rfl (hvu.alloc _) _ _ _ _ _ rfl hfu (by simp [Value.oneCell']) (by unfold maxLen; omega) (by omega) (by rw [World.size_alloc]; omega) ?_; intro v12 w12 hown12 hg12 hat12)
              have h12 := ((HP11.out.on ((Below.refl wu.heap.size wu).alloc (Nat.le_refl _) (.cells #[.int .i64 0] 3))).verdict (by rw [hln1]; exact hown12) hg12).1
              have hst := planStep_new HEN.out HMz.out HLz.out
              have eP : s.P ++ [(⟨(nn : Int), xt, xv⟩ : PntR)] = (planB [] ((xs.take (k + 1)).map EntR.p)).P := by rw [HSN.out, hst] <;> rfl
              have eV : s.V ++ [0] = (planB [] ((xs.take (k + 1)).map EntR.p)).V := by rw [HSN.out, hst]
              have HT9 := hidden (show (Tz.set nn ⟨yz.lab, xt⟩).map TrR.p = (planB [] ((xs.take (k + 1)).map EntR.p)).T by
                rw [HSN.out, hst, List.map_set]
                show (Tz.map TrR.p).set nn (yz.lab.l, xt) = _
                rw [HYL.out] <;> rfl)
              have HN9 := hidden (show Lz.map (fun x => x.lab.l) = (planB [] ((xs.take (k + 1)).map EntR.p)).N by rw [HSN.out, hst])
              rw [eP, eV] at h12
              exact ⟨⟨k + 1, _, _, _, _, Lz, by simp, HLT.out, hidden h12, HT9, HN9, HRz⟩, by have := HLT.out; simp only [intOf]; omega⟩
          | some nn =>
            have hf : fndE (s.T.map (·.1)) ll = (nn : Int) := by rw [fndE, hat]
            rw [hf]
            have hat2 := atE_some hat
            rw [← HTE.out, List.getElem?_map] at hat2
            obtain ⟨y, hy, hyl⟩ := Option.map_eq_some_iff.1 hat2
            have hnT := (List.getElem?_eq_some_iff.1 hy).1
            obtain ⟨A', c', e3, _, hrow⟩ := own_shape HP6.out.list
            injection e3 with e3 _ e4
            subst e3 e4
            obtain ⟨gl, ol, y', rfl, _, hy', hcl⟩ := row_at (enc := TrR.cells) (k := 6) (fun _ => rfl) hrow rfl nn hnT
            obtain rfl : y' = y := Option.some.inj (hy'.symm.trans hy)
            have hlast : lastT s.T nn = y'.mx := lastT_at (p := y'.p) (by rw [← HT.out, List.getElem?_map, hy]; rfl)
            have c1 := hcl 1 (by omega)
            simp only [TrR.cells, List.getElem?_cons_zero, List.getElem?_cons_succ] at c1
            obtain ⟨ylab, ymx⟩ := y'
            simp only at c1 hlast hyl
            have HAT := hidden hat
            have HYT := hidden hy
            have HLA := hidden hlast
            have n0 : (0 : Int) ≤ (nn : Int) := by omega
            have n1 : (nn : Int) < (T.length : Int) := by omega
            clear hf hat hat2 hy hy' hrow hcl hlast
            by_cases hle : xt ≤ ymx
            · go_upto_region 14 with (fail)
              go_quiet (fail)
              obtain ⟨w7, hw7⟩ : ∃ w7, w6.drewN nq = w7 := ⟨_, rfl⟩
              have HP7 := hidden (HP6.out.on (below_drewN (Below.refl w6.heap.size w6) nq))
              have HY7 := hidden (HY6.out.drewN nq)
              have HLB7 := hidden (own_drewN HLB6.out nq)
              rw [hw7] at HP7 HY7 HLB7 ⊢
              clear hw7 HP6 HY6 HLB6 e0 e1 e2 h0
              have hver := HP7.out.ver
              rw [hln1] at hver
              have hsz7 := HP7.out.rc.below.size
              have hfr := Row.fresh w7 3 1 1 [.int .i64 270] rfl
              go_wp2_with (at_builtin; refine wpList_app _ rfl _ _ 127 rfl w1.heap.size 3 iI _ 1 8 Tryz.underlying127 iI0 iI1 iI2 iI3 rfl (by decide) _ _ _ rfl (hver.alloc _) _ _ _ _ _ rfl hfr (by simp [Value.oneCell']) (by unfold maxLen; omega) (by omega) (by simp; omega) ?_; intro v8 w8 hown8 hg8 hat8)
              have h8 := ((HP7.out.on ((Below.refl w7.heap.size w7).alloc (Nat.le_refl _) (.cells #[.int .i64 270] 3))).verdict (by rw [hln1]; exact hown8) hg8).1
              have hst := planStep_old HEN.out (.inl ⟨HAT.out, rfl, rfl⟩ : MidS s ll nn s.T s.N) (show xt ≤ lastT s.T nn by rw [HLA.out]; exact hle)
              refine ⟨⟨k + 1, .slice (some ⟨gl, ol, none⟩) T.length cl, nv, pv, T, L, by simp, HLT.out, ?_, ?_, ?_, HR⟩, ?_⟩
              · rw [HSN.out, hst]
                exact hidden h8
              · rw [HSN.out, hst]
                exact HT
              · rw [HSN.out, hst]
                exact HN
              · have := HLT.out; simp only [intOf]; omega
            · go_upto_region 14 with (fail)
              go_quiet (fail)
              obtain ⟨w7, hw7⟩ : ∃ w7, w6.drewN nq = w7 := ⟨_, rfl⟩
              have HP7 := hidden (HP6.out.on (below_drewN (Below.refl w6.heap.size w6) nq))
              have HY7 := hidden (HY6.out.drewN nq)
              have HLB7 := hidden (own_drewN HLB6.out nq)
              rw [hw7] at HP7 HY7 HLB7 ⊢
              clear hw7 HP6 HY6 HLB6 e0 e1 e2 h0
              have HLE := hidden (show ¬ xt ≤ lastT (T.map TrR.p) nn by rw [HT.out, HLA.out]; omega)
              have HMS := hidden (show MidS s ll nn (T.map TrR.p) (L.map fun x => x.lab.l) from .inl ⟨HAT.out, HT.out, HN.out⟩)
              go_upto_region 20 with (fail)
              obtain ⟨nz, hnz⟩ : ∃ n, T.length = n := ⟨_, rfl⟩
              have hnk : nn ≤ k := by have := HTL.out; omega
              have HPz := HP7
              have HYz := HY7
              have HMz := HMS
              have HLz := HLE
              have HRz := HR
              rw [hnz] at HPz
              obtain ⟨wz, hwz⟩ : ∃ wz, w7 = wz := ⟨_, rfl⟩
              obtain ⟨Tz, hTz⟩ : ∃ t, T = t := ⟨_, rfl⟩
              obtain ⟨Lz, hLz⟩ : ∃ t, L = t := ⟨_, rfl⟩
              rw [hwz] at HPz HYz ⊢
              rw [hTz] at HPz HMz HLz hnz
              rw [hLz] at HPz HMz HRz
              clear hwz hTz hLz HP7 HY7 HMS HLE HAT HYT HLA HTL HT HN HR c1 n0 n1
              have hnT : nn < Tz.length := by have := HMz.out.lt; rwa [List.length_map] at this
              obtain ⟨yz, hyz⟩ : ∃ y, Tz[nn]? = some y := ⟨_, List.getElem?_eq_getElem hnT⟩
              have hyl : yz.lab.l = ll := by
                have h1 := HMz.out.at_
                rw [List.getElem?_map, List.getElem?_map, hyz] at h1
                exact Option.some.inj h1
              obtain ⟨gz, csz, hgz, hwz, hsz, hPt, htt⟩ := HPz.out.time hnz hyz xt
              cases hgz
              have z0 := HPz.out.head.cell 0
              have z1 := HYz.out.cell 1
              have zc := (hwz.cell (nn * 6 + 1)).trans (Array.getElem?_eq_getElem hsz)
              have zf := hwz.free (nn * 6 + 1)
              have zn0 : (0 : Int) ≤ (nn : Int) := by omega
              have zn1 : (nn : Int) < (nz : Int) := by omega
              have HPt := hidden hPt
              have HYt := hidden (htt.whole HYz.out (.inr (by decide)))
              have HYL := hidden hyl
              have HNZ := hidden hnz
              clear hnT hwz hPt htt hyz hyl hnz
              go_region
              obtain ⟨wt, hwt⟩ : ∃ wt, (wz.setCell ⟨gl, nn * 6 + 1, none⟩ (.int .i64 xt)).drew = wt := ⟨_, rfl⟩
              have HPt := hidden (HPt.out.on (Below.refl _ _).drew)
              have HYt := hidden HYt.out.drew
              rw [hwt] at HPt HYt ⊢
              clear hwt z0 z1 zc zf
              obtain ⟨pA, pc, rfl, _, _⟩ := own_shape HPt.out.rc.pts
              obtain ⟨pl, hpl⟩ : ∃ p, s.P.length = p := ⟨_, rfl⟩
              have hplk : pl ≤ k := by omega
              have hpr := HPt.out.rc.pts
              rw [hpl] at HPt hpr
              have r1 := HPt.out.rc.rec_.cell 1
              have e1 := HYt.out.cell 1
              have e2 := HYt.out.cell 2
              have hst := HPt.out.rc.below.size
              have hfr := Row.fresh wt 203 3 1 [.int .i64 (nn : Int), .int .i64 xt, .int .u64 (xv : Int)] rfl
              have HPL := hidden hpl
              clear hpl
              go_upto_region 22 with (at_builtin; refine wpList_app _ rfl _ _ 123 rfl w1.heap.size 203 iP _ 3 24 Tryz.underlying123 iP0 iP1 iP2 iP3 rfl (by decide) _ _ _ rfl (hpr.alloc _) _ _ _ _ _ rfl hfr (by simp [Value.oneCell']) (by unfold maxLen; omega) (by omega) (by rw [World.size_alloc]; omega) ?_; intro v11 w11 hown11 hg11 hat11; obtain ⟨A11, c11, rfl, _, _⟩ := own_shape hown11; obtain ⟨hR11, hP11, ht11⟩ := (HPt.out.on ((Below.refl wt.heap.size wt).alloc (Nat.le_refl _) (.cells #[.int .i64 (nn : Int), .int .i64 xt, .int .u64 (xv : Int)] 203))).point (x := ⟨(nn : Int), xt, xv⟩) (by rw [HPL.out]; exact hown11) hg11; have f11 := hR11.free 1; have o11 := hR11.cell 1; have HP11 := hidden hP11; clear hR11 hP11 ht11 hown11 hg11)
              obtain ⟨wu, hwu⟩ : ∃ wu, w11.setCell ⟨H + 1, 1, none⟩ (.slice A11 (pl + 1) c11) = wu := ⟨_, rfl⟩
              rw [hwu] at HP11 ⊢
              have hvu := HP11.out.ver
              rw [hln1] at hvu
              have hsu := HP11.out.rc.below.size
              have hfu := Row.fresh wu 3 1 1 [.int .i64 0] rfl
              clear hwu hfr hpr r1 e1 e2 hst
              go_wp2_with (at_builtin; refine wpList_app _ rfl _ _ 127 rfl w1.heap.size 3 iI _ 1 8 Tryz.underlying127 iI0 iI1 iI2 iI3 rfl (by decide) _ _ _ rfl (hvu.alloc _) _ _ _ _ _ rfl hfu (by simp [Value.oneCell']) (by unfold maxLen; omega) (by omega) (by rw [World.size_alloc]; omega) ?_; intro v12 w12 hown12 hg12 hat12)
              have h12 := ((HP11.out.on ((Below.refl wu.heap.size wu).alloc (Nat.le_refl _) (.cells #[.int .i64 0] 3))).verdict (by rw [hln1]; exact hown12) hg12).1
              have hst := planStep_new HEN.out HMz.out HLz.out
              have eP : s.P ++ [(⟨(nn : Int), xt, xv⟩ : PntR)] = (planB [] ((xs.take (k + 1)).map EntR.p)).P := by rw [HSN.out, hst] <;> rfl
              have eV : s.V ++ [0] = (planB [] ((xs.take (k + 1)).map EntR.p)).V := by rw [HSN.out, hst]
              have HT9 := hidden (show (Tz.set nn ⟨yz.lab, xt⟩).map TrR.p = (planB [] ((xs.take (k + 1)).map EntR.p)).T by
                rw [HSN.out, hst, List.map_set]
                show (Tz.map TrR.p).set nn (yz.lab.l, xt) = _
                rw [HYL.out] <;> rfl)
              have HN9 := hidden (show Lz.map (fun x => x.lab.l) = (planB [] ((xs.take (k + 1)).map EntR.p)).N by rw [HSN.out, hst])
              rw [eP, eV] at h12
              exact ⟨⟨k + 1, _, _, _, _, Lz, by simp, HLT.out, hidden h12, HT9, HN9, HRz⟩, by have := HLT.out; simp only [intOf]; omega⟩
      · have hen : entE (EntR.p ⟨⟨lA, lN, lC, ll⟩, xt, xv⟩) = er := by
          simp only [entE, EntR.p, HER.out, ne_eq, her0, not_false_eq_true, if_true]
        have hne : (er != 0) = true := by simpa using her0
        have heq : (er == 0) = false := by simpa using her0
        have hfr := Row.fresh w5 3 1 1 [.int .i64 er] rfl
        go_wp2_with (at_builtin; refine wpList_app _ rfl _ _ 127 rfl w1.heap.size 3 iI _ 1 8 Tryz.underlying127 iI0 iI1 iI2 iI3 rfl (by decide) _ _ _ rfl (hver.alloc _) _ _ _ _ _ rfl hfr (by simp [Value.oneCell']) (by unfold maxLen; omega) (by omega) (by simp; omega) ?_; intro v6 w6 hown6 hg6 hat6)
        have h6 := ((HP5.out.on ((Below.refl w5.heap.size w5).alloc (Nat.le_refl _) (.cells #[.int .i64 er] 3))).verdict (by rw [hln1]; exact hown6) hg6).1
        refine ⟨⟨k + 1, lv, nv, pv, T, L, by simp, HLT.out, ?_, ?_, ?_, HR⟩, ?_⟩
        · rw [HSN.out, planStep_bad (by rw [hen]; exact her0), hen]
          exact hidden h6
        · rw [HSN.out, planStep_bad (by rw [hen]; exact her0)]
          exact HT
        · rw [HSN.out, planStep_bad (by rw [hen]; exact her0)]
          exact HN
        · have := HLT.out; simp only [intOf]; omega
    · obtain rfl : n = k := by omega
      have hl : xs.take n = xs := List.take_of_length_le (by rw [HLN.out]; exact Nat.le_refl _)
      rw [hl] at hP hN
      have hz := HR0.out.below hP.out.rc.below HR0.out.lt
      obtain ⟨An, cn, rfl, _, _⟩ := own_shape hP.out.rc.news.row
      obtain ⟨Ap, cp, rfl, _, _⟩ := own_shape hP.out.rc.pts
      obtain ⟨l', hl'⟩ : ∃ l', L.length = l' := ⟨_, rfl⟩
      obtain ⟨p', hp'⟩ : ∃ p', (planB [] (xs.map EntR.p)).P.length = p' := ⟨_, rfl⟩
      rw [hl', hp'] at hP
      have HPE := hidden hP.out
      obtain ⟨B, hB⟩ : ∃ B, w.heap.size = B := ⟨_, rfl⟩
      rw [hB] at hz
      have r0 := hP.out.rc.rec_.cell 0
      have r1 := hP.out.rc.rec_.cell 1
      have r2 := hP.out.rc.rec_.cell 2
      have z0 := hz.cell 0
      have z1 := hz.cell 1
      have z2 := hz.cell 2
      have y0 := hz.free 0
      have y1 := (hz.put 0 (.slice An l' cn)).free 1
      have y2 := ((hz.put 0 (.slice An l' cn)).put 1 (.slice Ap p' cp)).free 2
      have z1b := (hz.put 0 (.slice An l' cn)).cell 1
      have z2b := ((hz.put 0 (.slice An l' cn)).put 1 (.slice Ap p' cp)).cell 2
      have hzz := ((hz.put 0 (.slice An l' cn)).put 1 (.slice Ap p' cp)).put 2 (.slice none 0 0)
      have ht3 : Turn 0 [126] false wr _ := ((Turn.put hz (Nat.zero_le _) (by simp) 0 (.slice An l' cn)).trans (Turn.put (hz.put 0 (.slice An l' cn)) (Nat.zero_le _) (by simp) 1 (.slice Ap p' cp))).trans (Turn.put ((hz.put 0 (.slice An l' cn)).put 1 (.slice Ap p' cp)) (Nat.zero_le _) (by simp) 2 (.slice none 0 0))
      have HT3 := hidden ht3
      have HZZ := hidden hzz
      have HL' := hidden hl'
      have HP' := hidden hp'
      have HNF := hidden hN.out
      have HRF := hidden hR.out
      have HB9 := hidden (show Below w.heap.size w wr from HB1.out.trans (HPE.out.rc.below.mono HB1.out.size))
      have HBB := hidden hB
      clear hz hP ht3 hzz hl' hp' hl hN hR hT
      go_wp2_with fail
      rw [HBB.out]
      go_wp2_with fail
      have d0 := HZZ.out.cell 0
      have d1 := HZZ.out.cell 1
      have d2 := HZZ.out.cell 2
      have hs1 := HB1.out.size
      refine bodyPost_ret (v := .tuple #[.agg #[.slice An l' cn, .slice Ap p' cp, .slice none 0 0], u8]) (by simp [results, Tryz.results36, go_sem, d0, d1, d2]) rfl ⟨_, _, _, L, rfl, ?_, HNF.out, HRF.out, ?_, own_more (HT3.out.own HPE.out.ver (.inl (by decide))) hs1, ?_⟩
      · have h1 := HPE.out.rc.news
        exact ⟨own_more (HT3.out.own (by rw [HL'.out]; have := h1.row; rwa [HL'.out] at this) (.inl (by decide))) hs1, fun x hx => ⟨HT3.out.own (h1.labs x hx).1 (.inl (by decide)), (h1.labs x hx).2⟩⟩
      · exact own_more (HT3.out.own (by have := HPE.out.rc.pts; rwa [HP'.out] at this ⊢) (.inl (by decide))) hs1
      · rw [HBB.out] at HB9 ⊢
        exact ((HB9.out.setCell (p := ⟨B, 0, none⟩) (Nat.le_refl B) _).setCell (p := ⟨B, 1, none⟩) (Nat.le_refl B) _).setCell (p := ⟨B, 2, none⟩) (Nat.le_refl B) _
end Go.Proofs.YthncochjhbmceaaGreat
