/- head.Plan, walked. Condition: the head is one, the batch is within the reach. A plan's record, and Apply of it. Condition: the head is one that plans made, the plan is its own. head.Raw over all times, walked. Condition: the head is one, its samples' times are within the range. -/
import Derived.Test.YthncochjhbmceaaGreatPka60d5f75
import Derived.Test.YthncochjhbmceaaGreatPkb025935b
import Derived.Test.YthncochjhbmceaaGreatPk2894c5a7
import Derived.Test.YthncochjhbmceaaGreatPk749e0937
namespace Go.Proofs.YthncochjhbmceaaGreat
set_option maxRecDepth 100000
open Go.RowKit

set_option maxHeartbeats 12800000 in
theorem hed_plan (A : Option Addr) (n c : Nat) (xs : List EntR) (w : World) {base h : Nat} {E : List (List Lbl)} {X : List HsR} (hh : Hed w base h E X) (hB : EntF w A n xs) (hE : E.length + n ≤ 2097152) :
    Calls Tryz.prog 8 #[.pointer (some ⟨h, 0, none⟩), .slice A n c] w fun e w' => PlanAns w E.length (planB (T0 E X) (xs.map EntR.p)) e w' := by
  obtain ⟨iE, iE0, iE1, iE2, iE3⟩ := info_parts infoErr
  obtain ⟨w0, hw0⟩ : ∃ w0, w.alloc (.cells #[.slice none 0 0, .slice none 0 0, .slice none 0 0] 31) = w0 := ⟨_, rfl⟩
  have hb0 : Below w.heap.size w w0 := hw0 ▸ (Below.refl _ _).alloc (Nat.le_refl _) _
  have hR0 : Whole1 w0 w.heap.size 31 #[.slice none 0 0, .slice none 0 0, .slice none 0 0] := hw0 ▸ Whole1.new _ _ _
  have hs0 : w0.heap.size = w.heap.size + 1 := by rw [← hw0]; simp
  have HH := hidden (hh.below hb0)
  have HBB := hidden (hB.on hb0)
  have hnf := hB.few
  have HB0 := hidden hb0
  have HR0 := hidden hR0
  have HW0 := hidden hw0
  have HS0 := hidden hs0
  have S1 := hidden (fun W (hW : w0.heap.size ≤ W.heap.size) => idx_new W hW)
  have HLR0 := hidden (show LastR [] E.length (X.map HsR.mx) (planB (T0 E X) []).T from lastR_start (by obtain ⟨_, _, k⟩ := hh; exact k.len))
  have mk := mkLast
  clear hh hB hw0 hb0 hR0 hs0
  go_enter Tryz.func8, Tryz.ntmps8
  go_wp2_with fail
  rw [HW0.out, ← HS0.out]
  refine (S1.out _ (by simp)).mono ?_
  rintro e w1 ⟨p, rfl, hi, b1⟩
  have hw1 := ((Whole1.new w0 31 #[.slice none 0 0, .slice none 0 0, .slice none 0 0]).below b1 (by simp)).alloc (.map #[] 0)
  have hb1 : Below w0.heap.size w0 (w1.alloc (.map #[] 0)) := (((Below.refl w0.heap.size w0).alloc (Nat.le_refl _) _).trans (b1.mono (by simp))).alloc (by have := b1.size; simp at this; omega) _
  have HS := hidden (show PlanG w0 (w1.alloc (.map #[] 0)) w0.heap.size p w1.heap.size E.length (.slice none 0 0) (.slice none 0 0) (.slice none 0 0) [] [] [] [] [] [] from
    ⟨hw1, ⟨World.ownsRow_nil _ _ _ _, rfl, by simp, by simp⟩, World.ownsRow_nil _ _ _ _, World.ownsRow_nil _ _ _ _, hi.apart, mapV_made _ _, hb1, Nat.le_refl _⟩)
  have hq0 : w0.heap.size ≤ w1.heap.size := by have := b1.size; simp at this; omega
  clear hi b1 hw1 hb1 S1
  go_wp2_with fail
  obtain ⟨R, hR⟩ : ∃ R, w0.heap.size = R := ⟨_, rfl⟩
  obtain ⟨q, hq⟩ : ∃ q, w1.heap.size = q := ⟨_, rfl⟩
  obtain ⟨w2, hw2⟩ : ∃ w2, w1.alloc (.map #[] 0) = w2 := ⟨_, rfl⟩
  have HSx : Hid (PlanG w0 w2 R p q E.length (.slice none 0 0) (.slice none 0 0) (.slice none 0 0) [] [] [] [] [] []) := by rw [← hR, ← hq, ← hw2]; exact HS
  have HS := HSx
  have hq0 : w0.heap.size ≤ q := hq ▸ hq0
  have HRW := hidden hR
  rw [hR, hq, hw2]
  clear HSx hR hq hw2 mk
  go_loopw [7, 27] (fun vv vi wr => ∃ (k : Nat) (nv pv : Value) (L : List NewQ) (m : List (Value × Value)), vi = .int .i64 k ∧ k ≤ n ∧ Hid (PlanG w0 wr R p q E.length vv nv pv (planB (T0 E X) ((xs.take k).map EntR.p)).N (planB (T0 E X) ((xs.take k).map EntR.p)).N L (planB (T0 E X) ((xs.take k).map EntR.p)).P (planB (T0 E X) ((xs.take k).map EntR.p)).V m) ∧ Hid (LastR m E.length (X.map HsR.mx) (planB (T0 E X) ((xs.take k).map EntR.p)).T)) (fun _ vi _ => n - (intOf vi).toNat)
  case atStart => exact ⟨0, .slice none 0 0, .slice none 0 0, [], [], rfl, Nat.zero_le _, HS, hidden HLR0.out⟩
  case round =>
    obtain ⟨k, nv, pv, L, m, rfl, hk, hP, hLR⟩ := hrel
    have k0 : (0 : Int) ≤ (k : Int) := by omega
    by_cases hlt : k < n
    · have k1 : (k : Int) < (n : Int) := by omega
      have fwk : IntKind.i64.wrap ((k : Int) + 1) = (k : Int) + 1 := Go.IntWalk.i64_in _ (by omega)
      have hBr := HBB.out.on hP.out.below
      obtain ⟨g, o, x, rfl, hg, hx, hc⟩ := row_at (enc := EntR.cells) (k := 3) (fun _ => rfl) hBr.row hBr.len k hlt
      have hxm := List.mem_of_getElem? hx
      have hlb := HBB.out.labs x hxm
      have hok := HBB.out.ok x hxm
      have hsn := entP_snoc hx (T0 E X)
      have hln := planB_lens (T0 E X) ((xs.take k).map EntR.p)
      have hse := planB_sets (T0 E X) ((xs.take k).map EntR.p)
      have htk : ((xs.take k).map EntR.p).length = k := by have := hBr.len; rw [List.length_map, List.length_take]; omega
      rw [htk] at hln
      generalize planB (T0 E X) ((xs.take k).map EntR.p) = s at hP hLR hsn hln hse
      have HSE := hidden hse
      clear hse
      have HLR := hidden hLR.out
      have c0 := hc 0 (by omega)
      have c1 := hc 1 (by omega)
      have c2 := hc 2 (by omega)
      obtain ⟨⟨lA, lN, lC, ll⟩, xt, xv⟩ := x
      simp only [EntR.cells, Sl.val, List.getElem?_cons_zero, List.getElem?_cons_succ, Nat.add_zero] at c0 c1 c2 hlb hok
      have hb1 : Below wr.heap.size wr (wr.alloc (.cells #[.slice lA lN lC, .int .i64 xt, .int .u64 (xv : Int)] 93)) := (Below.refl _ _).alloc (Nat.le_refl _) _
      have hw1 := Whole1.new wr 93 #[.slice lA lN lC, .int .i64 xt, .int .u64 (xv : Int)]
      obtain ⟨w3, hw3⟩ : ∃ w3, wr.alloc (.cells #[.slice lA lN lC, .int .i64 xt, .int .u64 (xv : Int)] 93) = w3 := ⟨_, rfl⟩
      rw [hw3] at hb1 hw1
      have d0 := hw1.cell 0
      have d1 := hw1.cell 1
      rw [← hw3] at d0 d1
      have HP3 := hidden (hP.out.on hb1)
      have HW3 := hidden hw1
      have HLB := hidden hlb
      have HSN := hidden hsn
      have HW := hidden hw3
      have S2 := hidden (lenc_any lA lN lC ll w3 (hlb.1.on HP3.out.below) hlb.2)
      clear hb1 hw1 hw3 hBr hx hxm hlb hsn hc hP
      go_wp2_with fail
      rw [HW.out]
      refine S2.out.mono ?_
      rintro e w4 ⟨rfl, b4⟩
      have HP4 := hidden (HP3.out.on b4)
      obtain ⟨Y, hY⟩ : ∃ Y, wr.heap.size = Y := ⟨_, rfl⟩
      have hw4 := HW3.out.below b4 HW3.out.lt
      rw [hY] at hw4 ⊢
      have HW4 := hidden hw4
      have e0 := hw4.cell 0
      have e1 := hw4.cell 1
      have e2 := hw4.cell 2
      clear b4 hw4 HP3 HW3 S2 c0 c1 c2 d0 d1 HW hY
      obtain ⟨eb, heb⟩ : ∃ eb, (encLb ll).1 = eb := ⟨_, rfl⟩
      obtain ⟨er, her⟩ : ∃ er, (encLb ll).2 = er := ⟨_, rfl⟩
      rw [heb, her]
      have HER := hidden her
      clear her heb
      obtain ⟨Av, cv, ev, hcv, _⟩ := own_shape HP4.out.ver
      subst ev
      have hver := HP4.out.ver
      rw [hln.1] at hver HP4
      obtain ⟨hln1, hln2, hln3, hln4⟩ := hln
      have hsz4 := HP4.out.below.size
      by_cases her0 : er = 0
      · subst her0
        by_cases hbad : xt < 0 ∨ 1125899906842624 < xt
        · have hen : entE (EntR.p ⟨⟨lA, lN, lC, ll⟩, xt, xv⟩) = 91 := by
            simp only [entE, EntR.p, HER.out, ne_eq, not_true_eq_false, if_false, hbad, if_true]
          have hfr := Row.fresh w4 41 1 1 [.int .i64 91] rfl
          rcases hbad with hbad | hbad
          all_goals
            go_wp2_with (at_builtin; refine wpList_app _ rfl _ _ 38 rfl w0.heap.size 41 iE _ 1 8 Tryz.underlying38 iE0 iE1 iE2 iE3 rfl (by decide) _ _ _ rfl (hver.alloc _) _ _ _ _ _ rfl hfr (by simp [Value.oneCell']) (by unfold maxLen; omega) (by omega) (by simp; omega) ?_; intro v5 w5 hown5 hg5 hat5)
            have h5 := (HP4.out.on ((Below.refl w4.heap.size w4).alloc (Nat.le_refl _) (.cells #[.int .i64 91] 41))).verdict (by rw [hln1]; exact hown5) hg5
            refine ⟨⟨k + 1, nv, pv, L, m, by simp, by omega, ?_, ?_⟩, ?_⟩
            · rw [HSN.out, planStep_bad (by rw [hen]; decide), hen]
              exact hidden h5
            · rw [HSN.out, planStep_bad (by rw [hen]; decide)]
              exact HLR
            · simp only [intOf]; omega
        · have hb0 : ¬ xt < 0 := fun e => hbad (.inl e)
          have hb2 : ¬ 1125899906842624 < xt := fun e => hbad (.inr e)
          have hh4 := HH.out.below HP4.out.below
          have hlb4 := HLB.out.1.on HP4.out.below
          have HL4 := hidden hlb4
          obtain ⟨ip, sv, hh4⟩ := hh4
          have ch0 := hh4.blk.cell 0
          have S3 := fun W (hW : Below w4.heap.size w4 W) => idx_find lA lN lC ll W (hh4.idx.below hW) (hlb4.on hW) HLB.out.2
          have HH4 := hidden hh4
          obtain ⟨rK, hrK⟩ : ∃ r, atE E ll = r := ⟨_, rfl⟩
          rw [hrK] at S3
          have S3 := hidden S3
          have HRK := hidden hrK
          clear hh4 hlb4 hrK
          go_upto_region 15 with (fail)
          go_cut [14, 15] (fun vn vk wx => vn = .int .i64 ((rK.getD 0 : Nat) : Int) ∧ vk = .bool rK.isSome ∧ Hid (PlanG w0 wx R p q E.length (.slice Av k cv) nv pv s.N s.N L s.P s.V m) ∧ Hid (HedB wx base h ip sv E X) ∧ Hid (Below w4.heap.size w4 wx))
          case first =>
            go_region_law (first
              | (go_simp; go_at_call 29; refine (S3.out _ (Below.refl _ _).drew).mono ?_; rintro e w5 ⟨rfl, b5⟩; have HP5 := hidden (HP4.out.on ((Below.refl _ _).drew.trans b5)); have HH5 := hidden (HH4.out.below ((Below.refl _ _).drew.trans b5)); have HB5 := hidden ((Below.refl w4.heap.size w4).drew.trans b5)))
            all_goals
              go_wp2_with fail
              go_meet
              exact ⟨rfl, rfl, HP5, HH5, HB5⟩
          case rest =>
            obtain ⟨rfl, rfl, HP5, HH5, HB5⟩ := hcut
            clear e0 e1 e2 ch0 S3 HP4 HH4
            have HW5 := hidden (HW4.out.below HB5.out HW4.out.lt)
            have hw5 := HW5.out
            have e0 := hw5.cell 0
            have e1 := hw5.cell 1
            have e2 := hw5.cell 2
            have ch0 := HH5.out.blk.cell 0
            have ch1 := HH5.out.blk.cell 1
            clear hw5 HW4
            go_upto_if 65 with (fail)
            go_cut [14] (fun vn wx => ∃ (nn : Nat) (nv' : Value) (L' : List NewQ) (m' : List (Value × Value)) (T' : List (List Lbl × Int)) (N' : List (List Lbl)), vn = .int .i64 (nn : Int) ∧ Hid (MidS s ll nn T' N') ∧ Hid (PlanG w0 wx R p q E.length (.slice Av k cv) nv' pv N' N' L' s.P s.V m') ∧ Hid (LastR m' E.length (X.map HsR.mx) T') ∧ Hid (atV m' (.int .i64 (nn : Int)) = some (.int .i64 (lastT T' nn))) ∧ Hid (Whole1 wx Y 93 #[.slice lA lN lC, .int .i64 xt, .int .u64 (xv : Int)]))
            case first =>
              have hT0 : (T0 E X).map (·.1) = E := by
                unfold T0
                rw [List.map_fst_zip (by rw [List.length_map, HH5.out.len]; exact Nat.le_refl _)]
              cases rK with
              | some j =>
                have hatj := HRK.out
                have hjE : j < E.length := (List.getElem?_eq_some_iff.1 (atE_some hatj)).1
                have hat : atE (s.T.map (·.1)) ll = some j := by rw [HSE.out, hT0, atE_app, hatj]; rfl
                have hjT : j < s.T.length := by have := (List.getElem?_eq_some_iff.1 (atE_some hat)).1; simpa using this
                rcases HLR.out j hjT with hm | ⟨hm, _, hmx⟩
                · have hlk := last_look HP5.out.last (j : Int) true
                  rw [hm] at hlk
                  simp only [if_true, Option.getD_some, Option.isSome_some] at hlk ⊢
                  go_wp2_with fail
                  go_meet
                  exact ⟨j, _, _, _, _, _, rfl, hidden (.inl ⟨hat, rfl, rfl⟩), HP5, HLR, hidden hm, HW5⟩
                · have hlk := last_look HP5.out.last (j : Int) true
                  rw [hm] at hlk
                  simp only [if_true, Option.getD_none, Option.getD_some, Option.isSome_none, Option.isSome_some] at hlk ⊢
                  obtain ⟨As, cs, rfl, _, hrow⟩ := own_shape HH5.out.row
                  rw [List.map_eq_flatMap] at hrow
                  obtain ⟨gs, os, x, rfl, _, hx, hcx⟩ := row_at (enc := fun x : HsR => [x.ptr]) (k := 1) (fun _ => rfl) hrow rfl j (by rw [HH5.out.len]; exact hjE)
                  have hxb := (HH5.out.at_ x (List.mem_of_getElem? hx)).blk
                  rw [List.getElem?_map, hx] at hmx
                  obtain ⟨xb, xmx, xgv, xgo, xsv, xsm⟩ := x
                  obtain rfl : xmx = lastT s.T j := by simpa using hmx
                  have hX := HH5.out.len
                  have xc0 := hxb.cell 0
                  have cx0 := hcx 0 (by omega)
                  simp only [HsR.ptr, HsR.cells, List.getElem?_cons_zero, Nat.add_zero, Nat.mul_one] at cx0 xc0
                  obtain ⟨w6, hrun, hm6, hg6, hz6⟩ := last_store HP5.out.last (j : Int) (.int .i64 (lastT s.T j))
                  have HP6 := hidden (HP5.out.put hq0 hm6 hg6)
                  have HW6 := hidden ((show Turn 0 [] true wc w6 from Turn.of_map HP5.out.last (Nat.zero_le _) hg6).whole HW5.out (.inr (by simp)))
                  have HM6 := hidden (HLR.out.put_same hjT)
                  clear hm6 hg6 hrow hcx hxb hmx hx
                  go_wp2_with fail
                  go_meet
                  exact ⟨j, _, _, _, _, _, rfl, hidden (.inl ⟨hat, rfl, rfl⟩), HP6, HM6, hidden (atV_put_same _ _ _), HW6⟩
              | none =>
                have hlb5 := HL4.out.on HB5.out
                have S4 := idx_find lA lN lC ll wc HP5.out.fresh.idx hlb5 HLB.out.2
                obtain ⟨rM, hrM⟩ : ∃ r, atE s.N ll = r := ⟨_, rfl⟩
                rw [hrM] at S4
                have S4 := hidden S4
                have HRM := hidden hrM
                clear hlb5 hrM
                simp only [Option.getD_none, Option.isSome_none]
                go_wp2_with fail
                refine S4.out.mono ?_
                rintro e w6 ⟨rfl, b6⟩
                have HP6 := hidden (HP5.out.on b6)
                have HH6 := hidden (HH5.out.below b6)
                have HW6 := hidden (HW5.out.below b6 HW5.out.lt)
                have HTL := hidden (show s.T.length = E.length + s.N.length by have := congrArg List.length HSE.out; rw [hT0] at this; simpa using this)
                obtain ⟨nT, hnT⟩ : ∃ nT, s.T.length = nT := ⟨_, rfl⟩
                have HNT := hidden hnT
                clear hln4 hnT
                clear S4 HP5 HH5 HW5 e0 e1 e2 ch0 ch1
                cases rM with
                | some i =>
                  have hati := HRM.out
                  have hiN : i < s.N.length := (List.getElem?_eq_some_iff.1 (atE_some hati)).1
                  have hat : atE (s.T.map (·.1)) ll = some (E.length + i) := by rw [HSE.out, hT0, atE_app, HRK.out, hati]; rfl
                  have S5 := hidden (hed_len w6 ⟨ip, sv, HH6.out⟩)
                  have fw1 : IntKind.i64.wrap ((E.length : Int) + (i : Int)) = ((E.length + i : Nat) : Int) := by rw [Go.IntWalk.i64_in _ (by omega)]; simp
                  rcases HLR.out (E.length + i) (by have := HTL.out; omega) with hm | ⟨_, hm, _⟩
                  · simp only [Option.getD_some, Option.isSome_some]
                    go_wp2_with fail
                    refine S5.out.mono ?_
                    rintro e w7 ⟨rfl, rfl⟩
                    go_wp2_with fail
                    go_meet
                    exact ⟨E.length + i, _, _, _, _, _, rfl, hidden (.inl ⟨hat, rfl, rfl⟩), HP6, HLR, hidden hm, HW6⟩
                  · exact absurd hm (by omega)
                | none =>
                  have hat : atE (s.T.map (·.1)) ll = none := by rw [HSE.out, hT0, atE_app, HRK.out, HRM.out]; rfl
                  have hae : addE s.N ll = ((((s.N.length : Nat) : Int), true, 0), s.N ++ [ll]) := by
                    unfold addE
                    rw [HER.out, if_neg (by simp), HRM.out]
                  have S5 := hidden (idx_addQ q m lA lN lC ll w6 HP6.out.fresh HP6.out.last (HLB.out.1.o HP6.out.below) HLB.out.2 HP6.out.below.size (by omega))
                  have hw6 := HW6.out
                  have e0 := hw6.cell 0
                  clear hw6
                  simp only [Option.getD_none, Option.isSome_none]
                  go_wp2_with fail
                  refine S5.out.mono ?_
                  rw [hae]
                  rintro e w7 ⟨rfl, hf7, ht7⟩
                  have HP7 := hidden (HP6.out.added hf7 ht7)
                  have HH7 := hidden (HH.out.below HP7.out.below)
                  have HW7 := hidden (ht7.t.whole HW6.out (.inr (by decide)))
                  have S6 := hidden (hed_len w7 HH7.out)
                  have S7 := idx_len w7 HP7.out.fresh.idx
                  obtain ⟨N1, hN1⟩ : ∃ N1, (s.N ++ [ll]).length = N1 := ⟨_, rfl⟩
                  rw [hN1] at S7
                  have S7 := hidden S7
                  rw [List.length_append, List.length_singleton] at hN1
                  have fw1 : IntKind.i64.wrap ((E.length : Int) + (N1 : Int)) = (E.length : Int) + (N1 : Int) := Go.IntWalk.i64_in _ (by omega)
                  have fw2 : IntKind.i64.wrap ((E.length : Int) + (N1 : Int) - 1) = ((nT : Nat) : Int) := by have := HTL.out; have := HNT.out; rw [Go.IntWalk.i64_in _ (by omega)]; omega
                  obtain ⟨w8, hrun, hm8, hg8, hz8⟩ := last_store HP7.out.last ((nT : Nat) : Int) (.int .i64 (-1))
                  have HP8 := hidden (HP7.out.put hq0 hm8 hg8)
                  have HW8 := hidden ((show Turn 0 [] true w7 w8 from Turn.of_map HP7.out.last (Nat.zero_le _) hg8).whole HW7.out (.inr (by simp)))
                  have HM8 := HLR.out.put_new (l := ll) (t := -1)
                  rw [HNT.out] at HM8
                  have HM8 := hidden HM8
                  clear e0 hf7 ht7 S5 HP6 HH6 HW6 hm8 hg8 HP7 HW7
                  go_wp2_with fail
                  refine S6.out.mono ?_
                  rintro e w7 ⟨rfl, rfl⟩
                  go_wp2_with fail
                  refine S7.out.mono ?_
                  rintro e w7 ⟨rfl, rfl⟩
                  go_upto_region 26 with (fail)
                  obtain ⟨iN, iN0, iN1, iN2, iN3⟩ := info_parts infoNew
                  obtain ⟨An, cn, rfl, hcn, _⟩ := own_shape HP8.out.news.row
                  have hLN : L.length = s.N.length := by have := congrArg List.length HP8.out.news.sets; simpa using this
                  have hr8 := HP8.out.rec_
                  have hw8 := HW8.out
                  have r0 := hr8.cell 0
                  have r1 := hr8.cell 1
                  have e0 := hw8.cell 0
                  have hlen := HLB.out.1.len
                  have hfit := HLB.out.1.fit
                  have SC := hidden (ClnLbl.cloneO_any lA lN lC ll w8.drew ((HLB.out.1.on HP8.out.below).on (Below.refl _ _).drew).row hlen (by omega))
                  clear hr8 hw8
                  have HLT := hidden (show lastT (s.T ++ [(ll, -1)]) nT = -1 from lastT_at (p := (ll, -1)) (by rw [← HNT.out]; simp))
                  have hpos : 0 < lN := by have := valid_pos (enc_fit.1 HER.out); omega
                  have hsz8 := HP8.out.below.size
                  have hLk : L.length ≤ k := by omega
                  have HLN := hidden hLN
                  clear hLN hN1
                  have SC := hidden SC
                  go_region_law (first
                    | (go_simp; go_at_call 32; refine SC.out.mono ?_; rintro e w3 ⟨⟨zA, zn, zc, zl⟩, rfl, hzl, hzn, _, _, b3, ho3⟩; obtain rfl : ll = zl := hzl.symm; obtain rfl : lN = zn := hzn.symm; simp only [Sl.val] at ho3 ⊢; have HO3 := hidden (own_more (ho3 hpos) (base' := w0.heap.size) hsz8); have hB3 := HP8.out.on ((Below.refl _ _).drew.trans b3); have q0 := hB3.rec_.cell 0; have q0a := (hB3.rec_.alloc (.cells #[.int .i64 (nT : Int), .slice zA lN zc] 113)).cell 0; have HB3 := hidden hB3; have hb3s := b3.size; have HBB3 := hidden b3; have T := fun (ops : Array Oper) (o : Oper) (a : Act) (K : Act → World → Prop) (Q : Exit → Act → World → Prop) (E : Prop) (hg : o.guard = none) (s1 s2 : Operand) (ho : o.op = .call { callee := .builtin .append, args := #[s1, s2], argTypes := #[27, 27] }) (hs : a.eval s1 = .slice An L.length cn) (hx : a.eval s2 = .slice (some ⟨w3.heap.size, 0, none⟩) 1 1) h => step_appA (P := Tryz.prog) (ops := ops) (o := o) (a := a) (K := K) (Q := Q) (E := E) (w3.alloc (.cells #[.int .i64 (nT : Int), .slice zA lN zc] 113)) hg s1 s2 27 ho w0.heap.size 113 iN _ 2 32 Tryz.underlying27 iN0 iN1 iN2 iN3 rfl (by decide) _ _ _ hs (HB3.out.news.row.alloc _) _ _ _ _ _ hx (Row.fresh w3 113 2 1 [.int .i64 (nT : Int), .slice zA lN zc] rfl) (by simp [Value.oneCell']) (by unfold maxLen; omega) (by omega) (by rw [World.size_alloc]; have e3 : w8.drew.heap.size = w8.heap.size := rfl; omega) h)
                    | (refine T _ _ _ _ _ _ rfl _ _ rfl rfl rfl ?_; intro v10 w10 hown10 hg10 hat10; obtain ⟨A10, c10, rfl, hc10, _⟩ := own_shape hown10; obtain ⟨hp10, hPG⟩ := (HP8.out.on (((Below.refl w8.heap.size w8).drew.trans HBB3.out).alloc hb3s (.cells #[.int .i64 (nT : Int), .slice zA lN zc] 113))).newS (x := ⟨(nT : Int), ⟨zA, lN, zc, ll⟩⟩) (by have := HTL.out; have := HNT.out; have := HLN.out; show (nT : Int) = ((E.length + L.length : Nat) : Int); omega) (HO3.out.alloc _) hlen hown10 hg10; have r0 := hp10.cell 0; have f0 := hp10.free 0; have HPG := hidden hPG; have hb10 := ((Below.refl w8.heap.size w8).drew.trans HBB3.out).alloc hb3s (.cells #[.int .i64 (nT : Int), .slice zA lN zc] 113); have HWG := hidden ((show Turn w0.heap.size [31] false w10 _ from Turn.put hp10 HP8.out.rb (by simp) 0 (.slice A10 (L.length + 1) c10)).whole ((show Turn w0.heap.size [113] false _ w10 from Turn.of_own (HP8.out.on hb10).news.row (Nat.le_refl _) (by simp) hg10).whole (HW8.out.below hb10 HW8.out.lt) (.inr (by decide))) (.inr (by decide)))))
                  all_goals
                    go_wp2_with fail
                    go_meet
                    exact ⟨nT, _, _, _, _, _, rfl, hidden (.inr ⟨hat, HNT.out.symm, rfl, rfl⟩), HPG, HM8, hidden (by rw [HLT.out]; exact atV_put_same _ _ _), HWG⟩
            case rest =>
              obtain ⟨nn, nv9, L9, m9, T9, N9, rfl, HMS, HP9, HLR9, HAT, HW9⟩ := hcut
              clear HP5 HH5 HB5 HW5 e0 e1 e2 ch0 ch1 HLR
              have hw9 := HW9.out
              have e1 := hw9.cell 1
              have e2 := hw9.cell 2
              have hlk := last_look HP9.out.last (nn : Int) false
              rw [HAT.out] at hlk
              obtain ⟨lv, hlv⟩ : ∃ lv, lastT T9 nn = lv := ⟨_, rfl⟩
              rw [hlv] at hlk
              have HLV := hidden hlv
              simp only [Option.getD_some, Bool.false_eq_true, if_false] at hlk
              have hver9 := HP9.out.ver
              rw [hln1] at hver9
              have hsz9 := HP9.out.below.size
              clear hw9 hlv hver hln4
              by_cases hle : xt ≤ lv
              · have hfr := Row.fresh wc 41 1 1 [.int .i64 270] rfl
                go_wp2_with (at_builtin; refine wpList_app _ rfl _ _ 38 rfl w0.heap.size 41 iE _ 1 8 Tryz.underlying38 iE0 iE1 iE2 iE3 rfl (by decide) _ _ _ rfl (hver9.alloc _) _ _ _ _ _ rfl hfr (by simp [Value.oneCell']) (by unfold maxLen; omega) (by omega) (by simp; omega) ?_; intro v10 w10 hown10 hg10 hat10)
                have hen : entE (EntR.p ⟨⟨lA, lN, lC, ll⟩, xt, xv⟩) = 0 := by
                  simp only [entE, EntR.p, HER.out, ne_eq, not_true_eq_false, if_false, hbad]
                have hst := planStep_old hen HMS.out (show xt ≤ lastT T9 nn by rw [HLV.out]; exact hle)
                have h5 := (HP9.out.on ((Below.refl wc.heap.size wc).alloc (Nat.le_refl _) (.cells #[.int .i64 270] 41))).verdict (by rw [hln1]; exact hown10) hg10
                refine ⟨⟨k + 1, nv9, pv, L9, m9, by simp, by omega, ?_, ?_⟩, ?_⟩
                · rw [HSN.out, hst]
                  exact hidden h5
                · rw [HSN.out, hst]
                  exact HLR9
                · simp only [intOf]; omega
              · obtain ⟨iP, iP0, iP1, iP2, iP3⟩ := info_parts infoPnt
                obtain ⟨w11, hrun, hm11, hg11, hz11⟩ := last_store HP9.out.last (nn : Int) (.int .i64 xt)
                have HP11 := hidden (HP9.out.put hq0 hm11 hg11)
                have HW11 := hidden ((show Turn 0 [] true wc w11 from Turn.of_map HP9.out.last (Nat.zero_le _) hg11).whole HW9.out (.inr (by simp)))
                have hver11 := HP11.out.ver
                rw [hln1] at hver11
                have hsz11 := HP11.out.below.size
                have hfr := Row.fresh w11 41 1 1 [.int .i64 0] rfl
                clear hm11 hg11 hz11 hver9
                go_upto_region 31 with (at_builtin; refine wpList_app _ rfl _ _ 38 rfl w0.heap.size 41 iE _ 1 8 Tryz.underlying38 iE0 iE1 iE2 iE3 rfl (by decide) _ _ _ rfl (hver11.alloc _) _ _ _ _ _ rfl hfr (by simp [Value.oneCell']) (by unfold maxLen; omega) (by omega) (by simp; omega) ?_; intro v12 w12 hown12 hg12 hat12)
                have hb11 := (Below.refl w11.heap.size w11).alloc (Nat.le_refl _) (.cells #[.int .i64 0] 41)
                have HP12 := hidden ((HP11.out.on hb11).verdict (by rw [hln1]; exact hown12) hg12)
                have HW12 := hidden ((show Turn w0.heap.size [41] false _ w12 from Turn.of_own (HP11.out.on hb11).ver (Nat.le_refl _) (by simp) hg12).whole (HW11.out.below hb11 HW11.out.lt) (.inr (by decide)))
                clear hown12 hg12 hver11 hfr hlk hrun e1 e2
                obtain ⟨Ap, cp, rfl, hcp, _⟩ := own_shape HP12.out.pts
                have hr12 := HP12.out.rec_
                have hw12 := HW12.out
                have r1 := hr12.cell 1
                have e1 := hw12.cell 1
                have e2 := hw12.cell 2
                have hsz12 := HP12.out.below.size
                have hfr := Row.fresh w12 115 3 1 [.int .i64 (nn : Int), .int .i64 xt, .int .u64 (xv : Int)] rfl
                clear hr12 hw12
                go_wp2_with (at_builtin; refine wpList_app _ rfl _ _ 28 rfl w0.heap.size 115 iP _ 3 24 Tryz.underlying28 iP0 iP1 iP2 iP3 rfl (by decide) _ _ _ rfl (HP12.out.pts.alloc _) _ _ _ _ _ rfl hfr (by simp [Value.oneCell']) (by unfold maxLen; omega) (by omega) (by simp; omega) ?_; intro v13 w13 hown13 hg13 hat13; obtain ⟨A13, q13, rfl, _, _⟩ := own_shape hown13; obtain ⟨hp13, hPG⟩ := (HP12.out.on ((Below.refl w12.heap.size w12).alloc (Nat.le_refl _) (.cells #[.int .i64 (nn : Int), .int .i64 xt, .int .u64 (xv : Int)] 115))).point (x := ⟨(nn : Int), xt, xv⟩) hown13 hg13; have HPG := hidden hPG; have r3 := hp13.cell 1; have f3 := hp13.free 1)
                have hen : entE (EntR.p ⟨⟨lA, lN, lC, ll⟩, xt, xv⟩) = 0 := by
                  simp only [entE, EntR.p, HER.out, ne_eq, not_true_eq_false, if_false, hbad]
                have hst := planStep_new hen HMS.out (show ¬ xt ≤ lastT T9 nn by rw [HLV.out]; exact hle)
                refine ⟨⟨k + 1, nv9, .slice A13 (s.P.length + 1) q13, L9, putV m9 (.int .i64 (nn : Nat)) (.int .i64 xt), by simp, by omega, ?_, ?_⟩, ?_⟩
                · rw [HSN.out, hst]
                  exact HPG
                · rw [HSN.out, hst]
                  exact hidden (HLR9.out.put_old HMS.out.lt)
                · simp only [intOf]; omega
      · have en : (er != 0) = true := by simpa using her0
        have hen : entE (EntR.p ⟨⟨lA, lN, lC, ll⟩, xt, xv⟩) = er := by
          simp only [entE, EntR.p, HER.out, ne_eq, her0, not_false_eq_true, if_true]
        have hfr := Row.fresh w4 41 1 1 [.int .i64 er] rfl
        go_wp2_with (at_builtin; refine wpList_app _ rfl _ _ 38 rfl w0.heap.size 41 iE _ 1 8 Tryz.underlying38 iE0 iE1 iE2 iE3 rfl (by decide) _ _ _ rfl (hver.alloc _) _ _ _ _ _ rfl hfr (by simp [Value.oneCell']) (by unfold maxLen; omega) (by omega) (by simp; omega) ?_; intro v5 w5 hown5 hg5 hat5)
        have h5 := (HP4.out.on ((Below.refl w4.heap.size w4).alloc (Nat.le_refl _) (.cells #[.int .i64 er] 41))).verdict (by rw [hln1]; exact hown5) hg5
        refine ⟨⟨k + 1, nv, pv, L, m, by simp, by omega, ?_, ?_⟩, ?_⟩
        · rw [HSN.out, planStep_bad (by rw [hen]; exact her0), hen]
          exact hidden h5
        · rw [HSN.out, planStep_bad (by rw [hen]; exact her0)]
          exact HLR
        · simp only [intOf]; omega
    · obtain rfl : n = k := by omega
      have hl : xs.take n = xs := List.take_of_length_le (by rw [HBB.out.len]; exact Nat.le_refl _)
      rw [hl] at hP
      obtain ⟨An, cn, rfl, _, _⟩ := own_shape hP.out.news.row
      obtain ⟨Ap, cp, rfl, _, _⟩ := own_shape hP.out.pts
      have HPF := hidden hP.out
      have hr := hP.out.rec_
      have r0 := hr.cell 0
      have r1 := hr.cell 1
      have r2 := hr.cell 2
      have hz := HR0.out.below hP.out.below HR0.out.lt
      have z0 := hz.cell 0
      have z1 := hz.cell 1
      have z2 := hz.cell 2
      have y0 := hz.free 0
      have y1 := (hz.put 0 (.slice An L.length cn)).free 1
      have y2 := ((hz.put 0 (.slice An L.length cn)).put 1 (.slice Ap (planB (T0 E X) (xs.map EntR.p)).P.length cp)).free 2
      have z1b := (hz.put 0 (.slice An L.length cn)).cell 1
      have z2b := ((hz.put 0 (.slice An L.length cn)).put 1 (.slice Ap (planB (T0 E X) (xs.map EntR.p)).P.length cp)).cell 2
      have hzz := ((hz.put 0 (.slice An L.length cn)).put 1 (.slice Ap (planB (T0 E X) (xs.map EntR.p)).P.length cp)).put 2 (.slice none 0 0)
      have ht3 : Turn w.heap.size [31] false wr _ := ((Turn.put hz (Nat.le_refl _) (by simp) 0 (.slice An L.length cn)).trans (Turn.put (hz.put 0 (.slice An L.length cn)) (Nat.le_refl _) (by simp) 1 (.slice Ap (planB (T0 E X) (xs.map EntR.p)).P.length cp))).trans (Turn.put ((hz.put 0 (.slice An L.length cn)).put 1 (.slice Ap (planB (T0 E X) (xs.map EntR.p)).P.length cp)) (Nat.le_refl _) (by simp) 2 (.slice none 0 0))
      have HT3 := hidden ht3
      have HZZ := hidden hzz
      clear hr hl hP hLR hz hzz ht3
      go_wp2_with fail
      have hB : w.heap.size ≤ w0.heap.size := HB0.out.size
      have d0 := HZZ.out.cell 0
      have d1 := HZZ.out.cell 1
      have d2 := HZZ.out.cell 2
      refine bodyPost_ret (v := .tuple #[.agg #[.slice An L.length cn, .slice Ap (planB (T0 E X) (xs.map EntR.p)).P.length cp, .slice none 0 0], u7]) (by simp [results, Tryz.results8, go_sem, d0, d1, d2]) rfl ⟨_, _, _, L, rfl, ⟨own_more (HT3.out.own HPF.out.news.row (.inl (by decide))) hB, HPF.out.news.sets, HPF.out.news.refs, fun x hx => ⟨own_more (HT3.out.own (HPF.out.news.labs x hx).1 (.inl (by decide))) hB, (HPF.out.news.labs x hx).2⟩⟩, own_more (HT3.out.own HPF.out.pts (.inl (by decide))) hB, own_more (HT3.out.own HPF.out.ver (.inl (by decide))) hB, ?_⟩
      exact (HB0.out.trans (HPF.out.below.mono hB)).trans (HT3.out.below (Nat.le_refl _) (Nat.le_trans hB HPF.out.below.size))
end Go.Proofs.YthncochjhbmceaaGreat

namespace Go.Proofs.YthncochjhbmceaaGreat
set_option maxRecDepth 100000
open Go.RowKit

/-- a plan's record, as it lies -/
structure RecPl (w : World) (base : Nat) (E : List (List Lbl)) (s : PlanS) (r : RecR) : Prop where
  own : RecO w base r
  news : r.news.l.map (fun x => x.lab.l) = s.N
  newsN : r.news.n = s.N.length
  refs : ∀ (i : Nat) (x : NewQ), r.news.l[i]? = some x → x.ref = ((E.length + i : Nat) : Int)
  pts : r.pts.l = s.P
  ptsN : r.pts.n = s.P.length
  gones : r.gones.l = []
theorem RecPl.turn {w w' : World} {base b : Nat} {E : List (List Lbl)} {s : PlanS} {r : RecR} {ts : List TypeId} {mp : Bool} (h : RecPl w base E s r) (t : Turn b ts mp w w') (h1 : 113 ∉ ts) (h2 : 115 ∉ ts) (h3 : 118 ∉ ts) (h4 : 70 ∉ ts) : RecPl w' base E s r :=
  ⟨h.own.turn t h1 h2 h3 h4 (.inr h.gones), h.news, h.newsN, h.refs, h.pts, h.ptsN, h.gones⟩
theorem lbT_of_own {w : World} {base : Nat} {A : Option Addr} {n c : Nat} {l : List Lbl} (h : w.ownsRow base 70 2 (.slice A n c) n (l.flatMap Lbl.cells)) (hl : l.length = n) (hv : validP l) : LbT w A n l := by
  obtain ⟨k1, k2⟩ := valid_small hv
  obtain ⟨A', c', e, _, hr⟩ := own_shape h
  simp only [Value.slice.injEq, true_and] at e
  obtain ⟨rfl, rfl⟩ := e
  refine ⟨⟨hr, hl, by omega, fun x hx => by have := k2 x hx; omega⟩, fun h0 g o e => ?_⟩
  rcases h.2 with ⟨e1, _⟩ | ⟨g', cap, cur, e1, _, h3, _⟩
  · simp only [Value.slice.injEq] at e1
    rw [e1.1] at e; cases e
  · simp only [Value.slice.injEq] at e1
    rw [e1.1] at e
    cases e
    exact ⟨cur, h3⟩
theorem planRec {w0 w : World} {E : List (List Lbl)} {X : List HsR} {xs : List EntR} {nv pv : Value} {L : List NewQ} {s : PlanS} (hn : NewsO w w0.heap.size E.length nv s.N L) (hp : w.ownsRow w0.heap.size 115 3 pv s.P.length (s.P.flatMap PntR.cells))
    (I : PlanI (T0 E X) (xs.map EntR.p) s) (hl : X.length = E.length) (hE : E.length + xs.length ≤ 1048576) (hx : ∀ x ∈ xs, x.v < 18446744073709551616) : ∃ r : RecR, r.val = .agg #[nv, pv, .slice none 0 0] ∧ RecPl w w0.heap.size E s r := by
  obtain ⟨An, cn, rfl, hcn, hrn⟩ := own_shape hn.row
  obtain ⟨Ap, cp, rfl, hcp, hrp⟩ := own_shape hp
  have hNl : L.length = s.N.length := by have := congrArg List.length hn.sets; simpa using this
  have hPl : s.P.length ≤ xs.length := by
    have h1 := I.count
    have h2 := List.countP_le_length (p := fun v : Int => v == 0) (l := s.V)
    have h3 := I.len
    rw [List.length_map] at h3
    omega
  have hfew := I.few
  have hval : ∀ x ∈ L, validP x.lab.l := fun x hx => I.val _ (by rw [← hn.sets]; exact List.mem_map.2 ⟨x, hx, rfl⟩)
  have hlbt : ∀ x ∈ L, LbT w x.lab.A x.lab.n x.lab.l ∧ x.lab.n ≤ x.lab.c := fun x hx => by
    obtain ⟨h1, h2⟩ := hn.labs x hx
    obtain ⟨xr, ⟨lA, lN, lC, ll⟩⟩ := x
    refine ⟨lbT_of_own h1 h2 (hval _ hx), ?_⟩
    obtain ⟨A', c', e, hc, _⟩ := own_shape h1
    simp only [Sl.val, Value.slice.injEq, true_and] at e
    rw [e.2]; exact hc
  have href : ∀ p ∈ s.P, (0 ≤ p.ref ∧ p.ref ≤ 1099511627776) ∧ (0 ≤ p.t ∧ p.t ≤ 1125899906842624) ∧ p.v < 18446744073709551616 := fun p hp => by
    obtain ⟨i, hi⟩ := List.mem_iff_getElem?.1 hp
    obtain ⟨h0, m, hm, _⟩ := ptsOk_at I.pts hi
    have h1 := (List.getElem?_eq_some_iff.1 hm).1
    rw [afterP_len, List.length_append, List.length_map, List.length_replicate] at h1
    have h2 : (T0 E X).length ≤ E.length := by unfold T0; rw [List.length_zip]; omega
    obtain ⟨y, hy, e⟩ := I.vs p hp
    obtain ⟨x, hx1, rfl⟩ := List.mem_map.1 hy
    refine ⟨⟨h0, by omega⟩, I.fit p hp, ?_⟩
    rw [e]; exact hx x hx1
  refine ⟨⟨⟨An, L.length, cn, L⟩, ⟨Ap, s.P.length, cp, s.P⟩, ⟨none, 0, 0, []⟩⟩, rfl, ⟨⟨⟨hcn, rfl, hrn⟩, fun x hx => ⟨(hlbt x hx).1.f, (hlbt x hx).2⟩, fun x hx => ?_, ⟨hcp, rfl, hrp⟩, fun x hx => ?_, ⟨Nat.le_refl _, rfl, Row.nil⟩, by simp, by simp, ?_⟩, hn.row, fun x hx => (hlbt x hx).1, hp, World.ownsRow_nil _ _ _ _, by simp⟩, hn.sets, hNl, hn.refs, rfl, rfl, rfl⟩
  · obtain ⟨i, hi⟩ := List.mem_iff_getElem?.1 hx
    have h1 := hn.refs i x hi
    have h2 : i < L.length := (List.getElem?_eq_some_iff.1 hi).1
    omega
  · have := href x hx
    omega
  · simp only [List.map_nil, List.sum_nil]
    omega
/-- a plan's record fits, if it takes any -/
theorem planFits {w : World} {base : Nat} {E : List (List Lbl)} {X : List HsR} {xs : List EntR} {s : PlanS} {r : RecR} (hr : RecPl w base E s r) (I : PlanI (T0 E X) (xs.map EntR.p) s) (hl : X.length = E.length) (hE : E.length + xs.length ≤ 1048576) (hne : s.P ≠ []) : FitsH E (X.map HsR.mx) r := by
  have h1 : (T0 E X).map (·.1) = E := by unfold T0; exact List.map_fst_zip (by rw [List.length_map, hl]; exact Nat.le_refl _)
  have h2 : (T0 E X).map (·.2) = X.map HsR.mx := by unfold T0; exact List.map_snd_zip (by rw [List.length_map, hl]; exact Nat.le_refl _)
  have hfew := I.few
  have hPl : s.P.length ≤ xs.length := by
    have h1 := I.count
    have h2 := List.countP_le_length (p := fun v : Int => v == 0) (l := s.V)
    have h3 := I.len
    rw [List.length_map] at h3
    omega
  have hp := I.pts
  rw [h2, ← hr.newsN] at hp
  have hnl : r.news.l.length = s.N.length := by have := congrArg List.length hr.news; simpa using this
  refine ⟨⟨fun x hx => ?_, fun x hx => ?_, fun x hx => ?_, ?_⟩, hr.refs, ?_, by rw [hr.pts]; exact hp, fun x hx => ?_⟩
  · obtain ⟨i, hi⟩ := List.mem_iff_getElem?.1 hx
    have h1 := hr.refs i x hi
    have h2 := (List.getElem?_eq_some_iff.1 hi).1
    refine ⟨⟨by omega, by omega⟩, I.val _ (by rw [← hr.news]; exact List.mem_map.2 ⟨x, hx, rfl⟩)⟩
  · rw [hr.pts] at hx
    obtain ⟨i, hi⟩ := List.mem_iff_getElem?.1 hx
    obtain ⟨h0, m, hm, _⟩ := ptsOk_at I.pts hi
    have h1 := (List.getElem?_eq_some_iff.1 hm).1
    rw [afterP_len, List.length_append, List.length_map, List.length_replicate] at h1
    have h2 : (T0 E X).length ≤ E.length := by unfold T0; rw [List.length_zip]; omega
    exact ⟨⟨h0, by omega⟩, I.fit x hx⟩
  · rw [hr.gones] at hx; cases hx
  · have : 0 < s.P.length := by rcases hs : s.P with _ | ⟨a, l⟩; exact absurd hs hne; simp
    rw [hr.ptsN]; omega
  · rw [hr.news, ← h1, ← I.sets]; exact I.nodup
  · rw [hr.gones] at hx; cases hx
theorem t0_of (E : List (List Lbl)) (X : List HsR) : T0 E X = E.zip ((X.map HsR.p).map SerP.mx) := by
  unfold T0
  rw [List.map_map]
  rfl
theorem plan_few {T : List (List Lbl × Int)} {xs : List EntP} {s : PlanS} (I : PlanI T xs s) : s.P.length ≤ xs.length := by
  have h1 := I.count
  have h2 := List.countP_le_length (p := fun v : Int => v == 0) (l := s.V)
  have h3 := I.len
  omega
/-- Apply of a plan's record -/
theorem apply_plan (w : World) {base bo h : Nat} {E : List (List Lbl)} {X : List HsR} (hh : Hed w base h E X) (hbase : base ≤ w.heap.size) {xs : List EntR} {s : PlanS} (r : RecR) (hr : RecPl w bo E s r) (I : PlanI (T0 E X) (xs.map EntR.p) s) (hE : E.length + xs.length ≤ 1048576) (hC : cntP (X.map HsR.p) + xs.length ≤ 1048576) :
    Calls Tryz.prog 9 #[.pointer (some ⟨h, 0, none⟩), r.val] w fun e w' => ∃ X', e = .returned (.int .i64 (if s.P.length = 0 then 150 else 0)) ∧ Hed w' base h (E ++ s.N) X' ∧ X'.map HsR.p = afterS (X.map HsR.p) s ∧ Turn base appT true w w' := by
  have hXE : X.length = E.length := by obtain ⟨_, _, k⟩ := hh; exact k.len
  have hfew := I.few
  have hPl := plan_few I
  rw [List.length_map] at hPl
  by_cases hz : s.P.length = 0
  · have hN : s.N = [] := List.eq_nil_of_length_eq_zero (by omega)
    have hP : s.P = [] := List.eq_nil_of_length_eq_zero hz
    have hno : ¬ fitRec r := fun hf => by
      have h4 := hf.2.2.2
      have h5 := hr.own.at_.gones.2.1
      rw [hr.gones] at h5
      have h6 := hr.newsN
      have h7 := hr.ptsN
      rw [List.length_nil] at h5
      rw [hN, List.length_nil] at h6
      omega
    refine (hed_apply_no h r w hr.own.at_ hno).mono ?_
    rintro e w' ⟨rfl, hb⟩
    refine ⟨X, by rw [if_pos hz], ?_, ?_, Turn.of_below hb _ _ _⟩
    · rw [hN, List.append_nil]; exact hh.below hb
    · unfold afterS
      rw [hN, hP]
      simp [putsP]
  · have hf := planFits hr I hXE hE (fun e => hz (by rw [e]; rfl))
    refine (hed_apply w hh hbase r hr.own hf hr.gones (by rw [hr.newsN]; omega) (by rw [hr.ptsN]; omega)).mono ?_
    rintro e w' ⟨rfl, X', h1, h2, h3⟩
    rw [hr.news] at h1
    refine ⟨X', by rw [if_neg hz], h1, ?_, h3⟩
    rw [h2, hr.newsN, hr.pts]
    rfl
end Go.Proofs.YthncochjhbmceaaGreat

namespace Go.Proofs.YthncochjhbmceaaGreat
set_option maxRecDepth 100000
open Go.RowKit

theorem infoSer : (Tryz.prog.info? 73).map (fun i => (i.zero, i.size, i.bytes)) = some (some (.agg #[.slice none 0 0, .slice none 0 0, .slice none 0 0]), 3, 72) := by kernel_rfl
/-- what is asked of a head that is told -/
structure RawI (S : List SerP) : Prop where
  sm : ∀ s ∈ S, (∀ x ∈ s.sm, 0 ≤ x.t ∧ x.t ≤ 1125899906842624) ∧ s.sm.length ≤ 1048576
  gone : ∀ s ∈ S, (∀ y ∈ s.gone, y.ok) ∧ s.gone.length ≤ 1048576
set_option maxHeartbeats 12800000 in
theorem hed_raw (w : World) {base h : Nat} {E : List (List Lbl)} {X : List HsR} (hh : Hed w base h E X) (_hbase : base ≤ w.heap.size) (hI : RawI (X.map HsR.p)) (hE : E.length ≤ 1048576) :
    Calls Tryz.prog 17 #[.pointer (some ⟨h, 0, none⟩), .int .i64 0, .int .i64 1125899906842624, .slice none 0 0] w fun e w' => ∃ v L, e = .returned v ∧ RawO w' w.heap.size v L ∧ (L.map Ser.q).Perm (rawL E (X.map HsR.p)) ∧ (L.Pairwise fun x y => decide (cmpLs y.lab.l x.lab.l < 0) = false) ∧ Below w.heap.size w w' := by
  obtain ⟨iS, iS0, iS1, iS2, iS3⟩ := info_parts infoSer
  have HH := hidden hh
  have HI := hidden hI
  obtain ⟨w1, hw1⟩ : ∃ w1, (w.alloc (.cells #[.int .i64 0] 2)).alloc (.cells #[.int .i64 1125899906842624] 2) = w1 := ⟨_, rfl⟩
  have hf0 : Whole1 w1 w.heap.size 2 #[.int .i64 0] := by rw [← hw1]; exact (Whole1.new w _ _).alloc _
  have hf1 : Whole1 w1 (w.heap.size + 1) 2 #[.int .i64 1125899906842624] := by rw [← hw1]; have := Whole1.new (w.alloc (.cells #[.int .i64 0] 2)) 2 #[.int .i64 1125899906842624]; rwa [World.size_alloc] at this
  have hb1 : Below w.heap.size w w1 := hw1 ▸ ((Below.refl _ _).alloc (Nat.le_refl _) _).alloc (by simp) _
  have hh1 := hh.below hb1
  obtain ⟨ip, sv, hh1⟩ := hh1
  have HF0 := hidden hf0
  have HF1 := hidden hf1
  have HB1 := hidden hb1
  have HH1 := hidden hh1
  have ch0 := hh1.blk.cell 0
  have S1 := hidden (idx_sel0 w1 hh1.idx hE)
  clear hh hI hf0 hf1 hb1 hh1
  go_enter Tryz.func17, Tryz.ntmps17
  go_wp2_with fail
  refine S1.out.mono ?_
  rintro e w2 ⟨A, c, rfl, hf, b2⟩
  have HSL := hidden hf
  have HF0 := hidden (HF0.out.below b2 HF0.out.lt)
  have HF1 := hidden (HF1.out.below b2 HF1.out.lt)
  have HB2 := hidden (HB1.out.trans (b2.mono HB1.out.size))
  have HH2 := hidden (HH1.out.below b2)
  have HXE := hidden HH2.out.len
  clear S1 hf b2 HH1 HB1 hw1 ch0
  go_wp2_with fail
  go_loopw [9, 27] (fun vo vi wr => ∃ (k : Nat) (L : List Ser), vi = .int .i64 (k : Int) ∧ k ≤ E.length ∧ Hid (RawO wr w2.heap.size vo L) ∧ Hid (L.map Ser.q = rawL (E.take k) ((X.map HsR.p).take k)) ∧ L.length ≤ k ∧ Hid (Below w2.heap.size w2 wr)) (fun _ vi _ => E.length - (intOf vi).toNat)
  case atStart => exact ⟨0, [], rfl, Nat.zero_le _, hidden RawO.nil, hidden (by simp [rawL]), Nat.le_refl _, hidden (Below.refl _ _)⟩
  case round =>
    obtain ⟨k, L, rfl, hk, ho, hq, hLk, hb2⟩ := hrel
    have k0 : (0 : Int) ≤ (k : Int) := by omega
    by_cases hlt : k < E.length
    · have k1 : (k : Int) < (E.length : Int) := by omega
      have HLT := hidden (show k + 1 ≤ E.length from hlt)
      have fwk : IntKind.i64.wrap ((k : Int) + 1) = (k : Int) + 1 := Go.IntWalk.i64_in _ (by omega)
      obtain ⟨e1, he1⟩ : ∃ l, E[k]? = some l := ⟨_, List.getElem?_eq_getElem hlt⟩
      have hsl := HSL.out.on hb2.out
      have hul : (upL E.length)[k]? = some (k : Int) := by simp [upL, hlt]
      obtain ⟨g, o, rfl, hg, hc⟩ := ints_at hsl.row (by omega)
      have ck : wr.cell? ⟨g, o + k, none⟩ = some (.int .i64 (k : Int)) := by
        rw [hc k (by rw [upL_len]; exact hlt), List.getD_eq_getElem?_getD, hul]; rfl
      have hh3 := HH2.out.below hb2.out
      obtain ⟨As, cs, hAs, _, hrow⟩ := own_shape hh3.row
      rw [List.map_eq_flatMap] at hrow
      obtain ⟨gs, os, y, hAs2, _, hy, hcx⟩ := row_at (enc := fun x : HsR => [x.ptr]) (k := 1) (fun _ => rfl) hrow rfl k (by rw [HXE.out]; exact hlt)
      subst hAs2
      subst hAs
      have hym := hh3.at_ y (List.mem_of_getElem? hy)
      have hyI := HI.out.sm y.p (List.mem_map.2 ⟨y, List.mem_of_getElem? hy, rfl⟩)
      have hyG := HI.out.gone y.p (List.mem_map.2 ⟨y, List.mem_of_getElem? hy, rfl⟩)
      have hrt := rawL_take (E := E) (S := X.map HsR.p) (k := k) he1 (by rw [List.getElem?_map, hy]; rfl)
      have ch1 := hh3.blk.cell 1
      have cx0 := hcx 0 (by omega)
      rw [HXE.out] at ch1
      simp only [HsR.ptr, Nat.mul_one, Nat.add_zero, List.getElem?_cons_zero] at cx0
      have hb3 : Below wr.heap.size wr (wr.alloc (.cells #[.pointer (some ⟨y.b, 0, none⟩)] 108)) := (Below.refl _ _).alloc (Nat.le_refl _) _
      have hv3 := Whole1.new wr 108 #[.pointer (some ⟨y.b, 0, none⟩)]
      obtain ⟨w4, hw4⟩ : ∃ w4, wr.alloc (.cells #[.pointer (some ⟨y.b, 0, none⟩)] 108) = w4 := ⟨_, rfl⟩
      obtain ⟨V, hV⟩ : ∃ V, wr.heap.size = V := ⟨_, rfl⟩
      rw [hw4] at hb3 hv3
      rw [hV] at hv3
      have HY4 := hidden (hym.below hb3)
      have HV4 := hidden hv3
      have HO4 := hidden (ho.out.below hb3)
      have HB24 := hidden (hb2.out.trans (hb3.mono hb2.out.size))
      have HF04 := hidden (HF0.out.below HB24.out HF0.out.lt)
      have HF14 := hidden (HF1.out.below HB24.out HF1.out.lt)
      have HRT := hidden hrt
      have HYI := hidden hyI
      have HYG := hidden hyG
      have HE1 := hidden he1
      have HQ := hidden hq.out
      clear hsl hul hc hh3 hrow hcx hym hyI hyG hrt he1 hb3 hv3 ho hb2 hq hy hg
      go_upto_region 8 with (fail)
      clear ck ch1 cx0 hw4 hV
      obtain ⟨yb, ymx, ygv, ygo, ysv, ysm⟩ := y
      have hy4 := HY4.out
      obtain ⟨Ay, cy, hAy, hcy, hrs⟩ := own_shape hy4.smp
      simp only at hAy
      subst hAy
      obtain ⟨Ag, cg, hAg, hcg, hrg⟩ := own_shape hy4.gon
      simp only at hAg
      subst hAg
      simp only at hrs hrg hcy
      have SR1 := hidden (fun W (hW : Below w4.heap.size w4 W) => search_any ysm.length 48 #[.pointer (some ⟨V, 0, none⟩), .pointer (some ⟨w.heap.size, 0, none⟩)] true W (by have := HYI.out.2; simp only [HsR.p] at this; omega) (enters_of Tryz.func48 (by kernel_rfl) rfl) (fun i hi W' hW' => by
        have hb5 := hW.trans (hW'.mono hW.size)
        obtain ⟨z, hz⟩ : ∃ z, ysm[i]? = some z := ⟨_, List.getElem?_eq_getElem hi⟩
        refine (raw1_any i _ z V w.heap.size base 0 W' (HY4.out.below hb5) (HV4.out.below hb5 HV4.out.lt) (HF04.out.below hb5 HF04.out.lt) hz).mono ?_
        rintro e w' ⟨rfl, hb⟩
        have := (HYI.out.1 z (List.mem_of_getElem? hz)).1
        exact ⟨by rw [decide_eq_true this], hb⟩))
      have SR2 := hidden (fun W (hW : Below w4.heap.size w4 W) => search_any ysm.length 49 #[.pointer (some ⟨V, 0, none⟩), .pointer (some ⟨w.heap.size + 1, 0, none⟩)] false W (by have := HYI.out.2; simp only [HsR.p] at this; omega) (enters_of Tryz.func49 (by kernel_rfl) rfl) (fun i hi W' hW' => by
        have hb5 := hW.trans (hW'.mono hW.size)
        obtain ⟨z, hz⟩ : ∃ z, ysm[i]? = some z := ⟨_, List.getElem?_eq_getElem hi⟩
        refine (raw2_any i _ z V (w.heap.size + 1) base 1125899906842624 W' (HY4.out.below hb5) (HV4.out.below hb5 HV4.out.lt) (HF14.out.below hb5 HF14.out.lt) hz).mono ?_
        rintro e w' ⟨rfl, hb⟩
        have := (HYI.out.1 z (List.mem_of_getElem? hz)).2
        exact ⟨by rw [decide_eq_false (by omega)], hb⟩))
      simp only [if_true, Bool.false_eq_true, if_false] at SR1 SR2
      have HRS := hidden hrs
      have HRG := hidden hrg
      have HCY := hidden hcy
      have hy0 := hy4.blk.cell 1
      have hy4' := hy4.blk.cell 4
      have hv4 := HV4.out.cell 0
      simp only [HsR.cells] at hy0 hy4'
      clear hy4 hrs hrg hcy hcg
      go_wp2_with fail
      refine (SR1.out _ (Below.refl _ _)).mono ?_
      rintro e w5 ⟨rfl, b5⟩
      have hy5 := (HY4.out.below b5).blk.cell 4
      have hv5 := (HV4.out.below b5 HV4.out.lt).cell 0
      simp only [HsR.cells] at hy5
      have B5 := hidden b5
      clear hy4' hv4 SR1 b5 hy0
      go_wp2_with fail
      refine (SR2.out _ B5.out).mono ?_
      rintro e w6 ⟨rfl, b6⟩
      have B6 := hidden (B5.out.trans (b6.mono B5.out.size))
      have hy6 := HY4.out.below B6.out
      have hy64 := hy6.blk.cell 4
      have hy61 := hy6.blk.cell 1
      have hv6 := (HV4.out.below B6.out HV4.out.lt).cell 0
      simp only [HsR.cells] at hy64 hy61
      have HRS6 := hidden ((HRS.out.below B6.out).more B6.out.size)
      have HRG6 := hidden ((HRG.out.below B6.out).more B6.out.size)
      clear SR2 b6 hy5 hv5 B5 hy6
      go_upto_region 10 with (fail)
      have hmx : max (0 : Int) (ysm.length : Int) = (ysm.length : Int) := by omega
      have hpos : ¬ ((ysm.length : Int) < 0) := by omega
      have SK := fun (W : World) (hW : Below w6.heap.size w6 W) => keepO_any Ag ygo.length cg ygo Ay ysm.length cy ysm W ((HRG6.out.below hW).more hW.size) rfl (by have := HYG.out.2; simp only [HsR.p] at this; omega) HYG.out.1 ((HRS6.out.below hW).more hW.size) rfl (by have := HYI.out.2; simp only [HsR.p] at this; omega)
      have SK := hidden SK
      have hcy6 : ysm.length ≤ cy := HCY.out
      go_cut [15] (fun vk wx => ∃ A7 c7 R7, vk = .slice A7 (keepP R7 ysm).length c7 ∧ Hid (OfRes ygo R7) ∧ Hid (0 < (keepP R7 ysm).length → wx.ownsRow w6.heap.size 68 2 (.slice A7 (keepP R7 ysm).length c7) (keepP R7 ysm).length ((keepP R7 ysm).flatMap Smp.cells)) ∧ Hid (Below w6.heap.size w6 wx))
      case first =>
        go_region_law (first
          | (go_simp; go_at_call 50; refine (SK.out _ (Below.refl _ _).drew).mono ?_; rintro e w7 ⟨A7, c7, R7, rfl, hR7, hr7, ho7, b7⟩; have HR7 := hidden hR7; have HO7 := hidden ho7; have HB7 := hidden ((Below.refl w6.heap.size w6).drew.trans b7)))
        all_goals
          clear hR7 hr7 ho7 b7
          go_wp2_with fail
          go_meet
          exact ⟨A7, c7, R7, rfl, HR7, HO7, HB7⟩
      case rest =>
        obtain ⟨A7, c7, R7, rfl, HR7, HO7, HB7⟩ := hcut
        clear SK hy64 hy61 hv6 HRS6 HRG6 hmx hpos hcy6
        have hke := keepP_of HR7.out ysm
        have hrt := HRT.out
        have ho7 := HO7.out
        rw [hke] at ho7 ⊢
        have hKl : (keepP ygo ysm).length ≤ 1048576 := by have := HYI.out.2; simp only [HsR.p] at this; exact Nat.le_trans (List.length_filter_le _ _) this
        obtain ⟨K, hK⟩ : ∃ K, keepP ygo ysm = K := ⟨_, rfl⟩
        have HRY := hidden (show 0 < K.length → rawL (E.take (k + 1)) ((X.map HsR.p).take (k + 1)) = rawL (E.take k) ((X.map HsR.p).take k) ++ [(e1, K)] from fun h => by rw [← hK] at h ⊢; exact hrt.trans (if_pos h))
        have HRN := hidden (show ¬ 0 < K.length → rawL (E.take (k + 1)) ((X.map HsR.p).take (k + 1)) = rawL (E.take k) ((X.map HsR.p).take k) from fun h => by rw [← hK] at h; exact hrt.trans (if_neg h))
        rw [hK] at ho7 hKl ⊢
        have HO7 := hidden ho7
        have HB8 := hidden (B6.out.trans (HB7.out.mono B6.out.size))
        have HRO := hidden (HO4.out.below HB8.out)
        have HB2W := hidden (HB24.out.trans (HB8.out.mono HB24.out.size))
        have hnw : w6.heap.size ≤ wc.heap.size := HB7.out.size
        have HNW := hidden (show w2.heap.size ≤ w6.heap.size from Nat.le_trans HB24.out.size B6.out.size)
        clear hke hrt ho7 hnw hK HB8 HO4 HB24 HF04 HF14 HY4 HV4 HB7 B6
        have hh8 := HH2.out.below HB2W.out
        have ch0 := hh8.blk.cell 0
        have S4 := hidden (idx_set k wc hh8.idx HE1.out (by omega))
        clear hh8
        by_cases hz : 0 < K.length
        · have hz2 : (0 : Int) < (K.length : Int) := by omega
          go_wp2_with fail
          refine S4.out.mono ?_
          rintro e w9 ⟨v9, rfl, ho9, b9⟩
          have hvd := HH2.out.idx.valid.1 e1 (List.mem_of_getElem? HE1.out)
          obtain ⟨A9, c9, rfl, hc9, _⟩ := own_shape ho9
          have HRO9 := hidden (HRO.out.below b9)
          have HL9 := hidden (own_more ho9 HB2W.out.size)
          have HVD := hidden hvd
          have HS9 := hidden (own_more (own_below (HO7.out hz) b9 (Nat.le_refl _)) HNW.out)
          have HB2W9 := hidden (HB2W.out.trans (b9.mono HB2W.out.size))
          have HQ2 := hidden (show (L ++ [(⟨⟨A9, e1.length, c9, e1⟩, ⟨A7, K.length, c7, K⟩, Sl.nil⟩ : Ser)]).map Ser.q = rawL (E.take (k + 1)) ((X.map HsR.p).take (k + 1)) by rw [HRY.out hz, List.map_append, HQ.out]; rfl)
          obtain ⟨Av, cv, rfl, _, _⟩ := own_shape HRO9.out.row
          have hfr := Row.fresh w9 73 3 1 [.slice A9 e1.length c9, .slice A7 K.length c7, .slice none 0 0] rfl
          have hba : Below w9.heap.size w9 (w9.alloc (.cells #[.slice A9 e1.length c9, .slice A7 K.length c7, .slice none 0 0] 73)) := (Below.refl _ _).alloc (Nat.le_refl _) _
          have HBA := hidden hba
          clear hvd ho9 b9 S4 hba HRO HB2W HO7
          go_wp2_with (at_builtin; refine wpList_app _ rfl _ _ 57 rfl w2.heap.size 73 iS _ 3 72 Tryz.underlying57 iS0 iS1 iS2 iS3 rfl (by decide) _ _ _ rfl (HRO9.out.row.alloc _) _ _ _ _ _ rfl hfr (by simp [Value.oneCell']) (by unfold maxLen; omega) (by omega) (by have := HB2W9.out.size; simp; omega) ?_; intro v10 w10 hown10 hg10 hat10)
          have ho10 := (HRO9.out.below HBA.out).snoc (x := ⟨⟨A9, e1.length, c9, e1⟩, ⟨A7, K.length, c7, K⟩, Sl.nil⟩) ⟨own_below HL9.out HBA.out (Nat.le_refl _), rfl, HVD.out⟩ ⟨own_below HS9.out HBA.out (Nat.le_refl _), rfl⟩ rfl hown10 hg10
          have hb10 : Below w2.heap.size w2 w10 := (HB2W9.out.trans (HBA.out.mono HB2W9.out.size)).grown hg10 (Nat.le_trans HB2W9.out.size HBA.out.size) (fun q hq => (HRO9.out.row.lt q hq).1)
          refine ⟨⟨k + 1, _, by simp, HLT.out, hidden ho10, HQ2, by rw [List.length_append, List.length_singleton]; omega, hidden hb10⟩, ?_⟩
          simp only [intOf]; omega
        · have hz2 : ¬ (0 : Int) < (K.length : Int) := by omega
          have HQ2 := hidden (show L.map Ser.q = rawL (E.take (k + 1)) ((X.map HsR.p).take (k + 1)) by rw [HRN.out hz]; exact HQ.out)
          go_wp2_with fail
          go_roundw
          case rel => exact ⟨k + 1, L, by go_num, HLT.out, HRO, HQ2, by omega, HB2W⟩
          case measure => have := HLT.out; simp [intOf]; omega
    · obtain rfl : E.length = k := by omega
      have hqe := hq.out
      rw [List.take_of_length_le (Nat.le_refl _), List.take_of_length_le (by rw [List.length_map, HXE.out]; exact Nat.le_refl _)] at hqe
      have HQE := hidden hqe
      have S5 := hidden (rawSort_any _ w2.heap.size L wr ho.out (by omega) hb2.out.size)
      obtain ⟨Av, cv, rfl, _, _⟩ := own_shape ho.out.row
      clear hqe hq
      go_wp2_with fail
      refine S5.out.mono ?_
      rintro e w3 ⟨rfl, S, hS, ho3, hg3⟩
      have HF := hidden (show RawO w3 w.heap.size (.slice Av L.length cv) S ∧ (S.map Ser.q).Perm (rawL E (X.map HsR.p)) ∧ (S.Pairwise fun x y => decide (cmpLs y.lab.l x.lab.l < 0) = false) ∧ Below w.heap.size w w3 from
        ⟨ho3.more HB2.out.size, by rw [← HQE.out]; exact hS.1.map _, hS.2, HB2.out.trans ((hb2.out.grown hg3 hb2.out.size (fun q hq => (ho.out.row.lt q hq).1)).mono HB2.out.size)⟩)
      clear S5 hS ho3 hg3
      go_wp2_with fail
      go_ret
      exact ⟨_, S, rfl, HF.out⟩
end Go.Proofs.YthncochjhbmceaaGreat
