/- head.Plan, walked. Condition: the head is one, the batch is within the reach. -/
import Derived.Test.YthncochjhbmceaaGreatHedPlP
import Derived.Test.YthncochjhbmceaaGreatPkdffa1c1c
namespace Go.Proofs.YthncochjhbmceaaGreat
set_option maxRecDepth 100000
open Go.RowKit

set_option maxHeartbeats 12800000 in
theorem hed_planG (hv : Value) (A : Option Addr) (n c : Nat) (xs : List EntR) (w : World) {base : Nat} {E : List (List Lbl)} {X : List HsR} (hh : (∃ h, hv = .pointer (some ⟨h, 0, none⟩) ∧ Hed w base h E X) ∨ hv = .pointer none ∧ E = [] ∧ X = []) (hB : EntF w A n xs) (hE : E.length + n ≤ 2097152) :
    Calls Tryz.prog 8 #[hv, .slice A n c] w fun e w' => PlanAns w E.length (planB (T0 E X) (xs.map EntR.p)) e w' := by
  obtain ⟨iE, iE0, iE1, iE2, iE3⟩ := info_parts infoErr
  obtain ⟨w0, hw0⟩ : ∃ w0, w.alloc (.cells #[.slice none 0 0, .slice none 0 0, .slice none 0 0] 31) = w0 := ⟨_, rfl⟩
  have hb0 : Below w.heap.size w w0 := hw0 ▸ (Below.refl _ _).alloc (Nat.le_refl _) _
  have hR0 : Whole1 w0 w.heap.size 31 #[.slice none 0 0, .slice none 0 0, .slice none 0 0] := hw0 ▸ Whole1.new _ _ _
  have hs0 : w0.heap.size = w.heap.size + 1 := by rw [← hw0]; simp
  have HBB := hidden (hB.on hb0)
  have hnf := hB.few
  have HB0 := hidden hb0
  have HR0 := hidden hR0
  have HW0 := hidden hw0
  have HS0 := hidden hs0
  have HLR0 := hidden (show LastR [] E.length (X.map HsR.mx) (planB (T0 E X) []).T from lastR_start (by
    rcases hh with ⟨h, rfl, _, _, k⟩ | ⟨_, rfl, rfl⟩
    · exact k.len
    · rfl))
  have HHV := hidden hh
  clear hB hw0 hb0 hR0 hs0 hh
  go_enter Tryz.func8, Tryz.ntmps8
  go_upto_region 3 with (fail)
  rw [HW0.out, ← HS0.out]
  have hRA := Whole1.new w0 31 #[.slice none 0 0, .slice none 0 0, .slice none 0 0]
  have hbA : Below w0.heap.size w0 (w0.alloc (.cells #[.slice none 0 0, .slice none 0 0, .slice none 0 0] 31)) := (Below.refl _ _).alloc (Nat.le_refl _) _
  obtain ⟨wA, hwA⟩ : ∃ wA, w0.alloc (.cells #[.slice none 0 0, .slice none 0 0, .slice none 0 0] 31) = wA := ⟨_, rfl⟩
  obtain ⟨R, hR⟩ : ∃ R, w0.heap.size = R := ⟨_, rfl⟩
  rw [hwA] at hRA hbA ⊢
  rw [hR] at hRA ⊢
  have HRA := hidden hRA
  have HBA := hidden hbA
  have HRW := hidden hR
  clear hRA hbA hwA hR
  have HC := hidden (show (∃ h, hv = .pointer (some ⟨h, 0, none⟩) ∧ Hed wA base h E X) ∨ hv = .pointer none ∧ E = [] ∧ X = [] from by
    rcases HHV.out with ⟨h, e, hh⟩ | h
    · exact .inl ⟨h, e, (hh.below HB0.out).below HBA.out⟩
    · exact .inr h)
  clear HHV
  go_cut [20, 21] (fun _ v21 wx => wx = wA ∧ Hid ((∃ h, hv = .pointer (some ⟨h, 0, none⟩) ∧ Hed wA base h E X ∧ v21 = .bool false) ∨ hv = .pointer none ∧ E = [] ∧ X = [] ∧ v21 = .bool true))
  case first =>
    rcases HC.out with ⟨h, rfl, hh⟩ | ⟨rfl, rfl, rfl⟩
    · have HH := hidden hh
      clear hh HC
      go_wp2_with fail
      go_meet
      exact ⟨rfl, hidden (.inl ⟨h, rfl, HH.out, rfl⟩)⟩
    · clear HC
      go_wp2_with fail
      go_meet
      exact ⟨rfl, hidden (.inr (by simp))⟩
  case rest =>
    revert hcut
    generalize wc = wB
    rintro ⟨rfl, HC⟩
    go_upto_if 4 with (fail)
    go_cut [0, 22] (fun vh _ wx => ∃ h b, vh = .pointer (some ⟨h, 0, none⟩) ∧ Hid (Hed wx b h E X) ∧ Hid (Below wB.heap.size wB wx))
    case first =>
      rcases HC.out with ⟨h, rfl, hh, rfl⟩ | ⟨rfl, rfl, rfl, rfl⟩
      · have HH := hidden hh
        clear hh HC
        go_wp2_with fail
        go_meet
        exact ⟨h, base, rfl, HH, hidden (Below.refl _ _)⟩
      · have S0 := hidden (hed_new wB (base := wB.heap.size) (Nat.le_refl _))
        clear HC
        go_wp2_with fail
        refine S0.out.mono ?_
        rintro e w1 ⟨h, rfl, hh, b1⟩
        have HH := hidden hh
        have HB1 := hidden b1
        clear S0 hh b1
        go_wp2_with fail
        go_meet
        exact ⟨h, _, rfl, HH, HB1⟩
    case rest =>
      revert hcut
      generalize wc = wX
      rintro ⟨h, b, rfl, HH, HBX⟩
      have HRX := hidden (HRA.out.below HBX.out HRA.out.lt)
      have HFR := hidden (fun (W : World) (hg : wX.grownBy W (some R)) => (HH.out.turn (Turn.of_grown hg (fun g e => by cases e; exact ⟨Nat.zero_le _, fun _ => by rw [show wX.heap[R]? = some (.cells _ 31 (0, 0)) from HRX.out]; simp [kindIn]⟩) : Turn 0 [31] false wX W) (by decide) : Hed W b h E X))
      have S1 := hidden (idx_new wX (base := wX.heap.size) (Nat.le_refl _))
      have mk := mkLast
      clear HC
      go_wp2_with fail
      refine S1.out.mono ?_
      rintro e w1 ⟨p, rfl, hi, b1⟩
      have hw1 := (HRX.out.below b1 HRX.out.lt).alloc (.map #[] 0)
      have hbX : Below wX.heap.size wX (w1.alloc (.map #[] 0)) := b1.alloc b1.size _
      have hb0X := HBA.out.trans (HBX.out.mono HBA.out.size)
      have HS := hidden (show PlanG w0 wX (w1.alloc (.map #[] 0)) R p w1.heap.size E.length (.slice none 0 0) (.slice none 0 0) (.slice none 0 0) [] [] [] [] [] [] from
        ⟨hw1, ⟨World.ownsRow_nil _ _ _ _, rfl, by simp, by simp⟩, World.ownsRow_nil _ _ _ _, World.ownsRow_nil _ _ _ _, hi.apart, mapV_made _ _, hb0X.trans (hbX.mono hb0X.size), by rw [HRW.out]; exact Nat.le_refl _, gb_below hbX _, hb0X.size⟩)
      have hq0 : wX.heap.size ≤ w1.heap.size := b1.size
      clear hi b1 hw1 hbX hb0X S1
      go_wp2_with fail
      obtain ⟨q, hq⟩ : ∃ q, w1.heap.size = q := ⟨_, rfl⟩
      obtain ⟨w2, hw2⟩ : ∃ w2, w1.alloc (.map #[] 0) = w2 := ⟨_, rfl⟩
      rw [hq, hw2] at HS
      rw [hq] at hq0
      rw [hq, hw2]
      clear hq hw2 mk
      go_loopw [7, 27] (fun vv vi wr => ∃ (k : Nat) (nv pv : Value) (L : List NewQ) (m : List (Value × Value)), vi = .int .i64 k ∧ k ≤ n ∧ Hid (PlanG w0 wX wr R p q E.length vv nv pv (planB (T0 E X) ((xs.take k).map EntR.p)).N (planB (T0 E X) ((xs.take k).map EntR.p)).N L (planB (T0 E X) ((xs.take k).map EntR.p)).P (planB (T0 E X) ((xs.take k).map EntR.p)).V m) ∧ Hid (LastR m E.length (X.map HsR.mx) (planB (T0 E X) ((xs.take k).map EntR.p)).T)) (fun _ vi _ => n - (intOf vi).toNat)
      case atStart => exact ⟨0, .slice none 0 0, .slice none 0 0, [], [], rfl, Nat.zero_le _, HS, hidden HLR0.out⟩
      case round =>
        obtain ⟨k, nv, pv, L, m, rfl, hk, hP, hLR⟩ := hrel
        have k0 : (0 : Int) ≤ (k : Int) := by omega
        by_cases hlt : k < n
        · have k1 : (k : Int) < (n : Int) := by omega
          have fwk : IntKind.i64.wrap ((k : Int) + 1) = (k : Int) + 1 := Go.IntWalk.i64_in _ (by omega)
          have hBr := HBB.out.on hP.out.below
          obtain ⟨g, o, x, rfl, hg, hx, hc⟩ := row_at (enc := EntR.cells) (k := 3) (fun _ => rfl) hBr.row hBr.len k hlt
          have hxm := List.mem_of_getElem? hx
          have hlb := HBB.out.labs x hxm
          have hok := HBB.out.ok x hxm
          have hsn := entP_snoc hx (T0 E X)
          have hln := planB_lens (T0 E X) ((xs.take k).map EntR.p)
          have hse := planB_sets (T0 E X) ((xs.take k).map EntR.p)
          have htk : ((xs.take k).map EntR.p).length = k := by have := hBr.len; rw [List.length_map, List.length_take]; omega
          rw [htk] at hln
          generalize planB (T0 E X) ((xs.take k).map EntR.p) = s at hP hLR hsn hln hse
          have HSE := hidden hse
          clear hse
          have HLR := hidden hLR.out
          have c0 := hc 0 (by omega)
          have c1 := hc 1 (by omega)
          have c2 := hc 2 (by omega)
          obtain ⟨⟨lA, lN, lC, ll⟩, xt, xv⟩ := x
          simp only [EntR.cells, Sl.val, List.getElem?_cons_zero, List.getElem?_cons_succ, Nat.add_zero] at c0 c1 c2 hlb hok
          have hb1 : Below wr.heap.size wr (wr.alloc (.cells #[.slice lA lN lC, .int .i64 xt, .int .u64 (xv : Int)] 93)) := (Below.refl _ _).alloc (Nat.le_refl _) _
          have hw1 := Whole1.new wr 93 #[.slice lA lN lC, .int .i64 xt, .int .u64 (xv : Int)]
          obtain ⟨w3, hw3⟩ : ∃ w3, wr.alloc (.cells #[.slice lA lN lC, .int .i64 xt, .int .u64 (xv : Int)] 93) = w3 := ⟨_, rfl⟩
          rw [hw3] at hb1 hw1
          have d0 := hw1.cell 0
          have d1 := hw1.cell 1
          rw [← hw3] at d0 d1
          have HP3 := hidden (hP.out.on hb1)
          have HW3 := hidden hw1
          have HLB := hidden hlb
          have HSN := hidden hsn
          have HW := hidden hw3
          have S2 := hidden (lenc_any lA lN lC ll w3 (hlb.1.on HP3.out.below) hlb.2)
          clear hb1 hw1 hw3 hBr hx hxm hlb hsn hc hP
          go_wp2_with fail
          rw [HW.out]
          refine S2.out.mono ?_
          rintro e w4 ⟨rfl, b4⟩
          have HP4 := hidden (HP3.out.on b4)
          obtain ⟨Y, hY⟩ : ∃ Y, wr.heap.size = Y := ⟨_, rfl⟩
          have hw4 := HW3.out.below b4 HW3.out.lt
          rw [hY] at hw4 ⊢
          have HW4 := hidden hw4
          have e0 := hw4.cell 0
          have e1 := hw4.cell 1
          have e2 := hw4.cell 2
          clear b4 hw4 HP3 HW3 S2 c0 c1 c2 d0 d1 HW hY
          obtain ⟨eb, heb⟩ : ∃ eb, (encLb ll).1 = eb := ⟨_, rfl⟩
          obtain ⟨er, her⟩ : ∃ er, (encLb ll).2 = er := ⟨_, rfl⟩
          rw [heb, her]
          have HER := hidden her
          clear her heb
          obtain ⟨Av, cv, ev, hcv, _⟩ := own_shape HP4.out.ver
          subst ev
          have hver := HP4.out.ver
          rw [hln.1] at hver HP4
          obtain ⟨hln1, hln2, hln3, hln4⟩ := hln
          have hsz4 := HP4.out.far.size
          by_cases her0 : er = 0
          · subst her0
            by_cases hbad : xt < 0 ∨ 1125899906842624 < xt
            · have hen : entE (EntR.p ⟨⟨lA, lN, lC, ll⟩, xt, xv⟩) = 91 := by
                simp only [entE, EntR.p, HER.out, ne_eq, not_true_eq_false, if_false, hbad, if_true]
              have hfr := Row.fresh w4 41 1 1 [.int .i64 91] rfl
              rcases hbad with hbad | hbad
              all_goals
                go_wp2_with (at_builtin; refine wpList_app _ rfl _ _ 38 rfl wX.heap.size 41 iE _ 1 8 Tryz.underlying38 iE0 iE1 iE2 iE3 rfl (by decide) _ _ _ rfl (hver.alloc _) _ _ _ _ _ rfl hfr (by simp [Value.oneCell']) (by unfold maxLen; omega) (by omega) (by simp; omega) ?_; intro v5 w5 hown5 hg5 hat5)
                have h5 := (HP4.out.on ((Below.refl w4.heap.size w4).alloc (Nat.le_refl _) (.cells #[.int .i64 91] 41))).verdict (by rw [hln1]; exact hown5) hg5
                refine ⟨⟨k + 1, nv, pv, L, m, by simp, by omega, ?_, ?_⟩, ?_⟩
                · rw [HSN.out, planStep_bad (by rw [hen]; decide), hen]
                  exact hidden h5
                · rw [HSN.out, planStep_bad (by rw [hen]; decide)]
                  exact HLR
                · simp only [intOf]; omega
            · have hb0 : ¬ xt < 0 := fun e => hbad (.inl e)
              have hb2 : ¬ 1125899906842624 < xt := fun e => hbad (.inr e)
              have hh4 := HFR.out _ HP4.out.far
              have hlb4 := HLB.out.1.on HP4.out.below
              have HL4 := hidden hlb4
              obtain ⟨ip, sv, hh4⟩ := hh4
              have ch0 := hh4.blk.cell 0
              have S3 := fun W (hW : Below w4.heap.size w4 W) => idx_find lA lN lC ll W (hh4.idx.below hW) (hlb4.on hW) HLB.out.2
              have HH4 := hidden hh4
              obtain ⟨rK, hrK⟩ : ∃ r, atE E ll = r := ⟨_, rfl⟩
              rw [hrK] at S3
              have S3 := hidden S3
              have HRK := hidden hrK
              clear hh4 hlb4 hrK
              go_upto_region 15 with (fail)
              go_cut [14, 15] (fun vn vk wx => vn = .int .i64 ((rK.getD 0 : Nat) : Int) ∧ vk = .bool rK.isSome ∧ Hid (PlanG w0 wX wx R p q E.length (.slice Av k cv) nv pv s.N s.N L s.P s.V m) ∧ Hid (HedB wx b h ip sv E X) ∧ Hid (Below w4.heap.size w4 wx))
              case first =>
                go_region_law (first
                  | (go_simp; go_at_call 29; refine (S3.out _ (Below.refl _ _).drew).mono ?_; rintro e w5 ⟨rfl, b5⟩; have HP5 := hidden (HP4.out.on ((Below.refl _ _).drew.trans b5)); have HH5 := hidden (HH4.out.below ((Below.refl _ _).drew.trans b5)); have HB5 := hidden ((Below.refl w4.heap.size w4).drew.trans b5)))
                all_goals
                  go_wp2_with fail
                  go_meet
                  exact ⟨rfl, rfl, HP5, HH5, HB5⟩
              case rest =>
                obtain ⟨rfl, rfl, HP5, HH5, HB5⟩ := hcut
                clear e0 e1 e2 ch0 S3 HP4 HH4
                have HW5 := hidden (HW4.out.below HB5.out HW4.out.lt)
                have hw5 := HW5.out
                have e0 := hw5.cell 0
                have e1 := hw5.cell 1
                have e2 := hw5.cell 2
                have ch0 := HH5.out.blk.cell 0
                have ch1 := HH5.out.blk.cell 1
                clear hw5 HW4
                go_upto_if 65 with (fail)
                go_cut [14] (fun vn wx => ∃ (nn : Nat) (nv' : Value) (L' : List NewQ) (m' : List (Value × Value)) (T' : List (List Lbl × Int)) (N' : List (List Lbl)), vn = .int .i64 (nn : Int) ∧ Hid (MidS s ll nn T' N') ∧ Hid (PlanG w0 wX wx R p q E.length (.slice Av k cv) nv' pv N' N' L' s.P s.V m') ∧ Hid (LastR m' E.length (X.map HsR.mx) T') ∧ Hid (atV m' (.int .i64 (nn : Int)) = some (.int .i64 (lastT T' nn))) ∧ Hid (Whole1 wx Y 93 #[.slice lA lN lC, .int .i64 xt, .int .u64 (xv : Int)]))
                case first =>
                  have hT0 : (T0 E X).map (·.1) = E := by
                    unfold T0
                    rw [List.map_fst_zip (by rw [List.length_map, HH5.out.len]; exact Nat.le_refl _)]
                  cases rK with
                  | some j =>
                    have hatj := HRK.out
                    have hjE : j < E.length := (List.getElem?_eq_some_iff.1 (atE_some hatj)).1
                    have hat : atE (s.T.map (·.1)) ll = some j := by rw [HSE.out, hT0, atE_app, hatj]; rfl
                    have hjT : j < s.T.length := by have := (List.getElem?_eq_some_iff.1 (atE_some hat)).1; simpa using this
                    rcases HLR.out j hjT with hm | ⟨hm, _, hmx⟩
                    · have hlk := last_look HP5.out.last (j : Int) true
                      rw [hm] at hlk
                      simp only [if_true, Option.getD_some, Option.isSome_some] at hlk ⊢
                      go_wp2_with fail
                      go_meet
                      exact ⟨j, _, _, _, _, _, rfl, hidden (.inl ⟨hat, rfl, rfl⟩), HP5, HLR, hidden hm, HW5⟩
                    · have hlk := last_look HP5.out.last (j : Int) true
                      rw [hm] at hlk
                      simp only [if_true, Option.getD_none, Option.getD_some, Option.isSome_none, Option.isSome_some] at hlk ⊢
                      obtain ⟨As, cs, rfl, _, hrow⟩ := own_shape HH5.out.row
                      rw [List.map_eq_flatMap] at hrow
                      obtain ⟨gs, os, x, rfl, _, hx, hcx⟩ := row_at (enc := fun x : HsR => [x.ptr]) (k := 1) (fun _ => rfl) hrow rfl j (by rw [HH5.out.len]; exact hjE)
                      have hxb := (HH5.out.at_ x (List.mem_of_getElem? hx)).blk
                      rw [List.getElem?_map, hx] at hmx
                      obtain ⟨xb, xmx, xgv, xgo, xsv, xsm⟩ := x
                      obtain rfl : xmx = lastT s.T j := by simpa using hmx
                      have hX := HH5.out.len
                      have xc0 := hxb.cell 0
                      have cx0 := hcx 0 (by omega)
                      simp only [HsR.ptr, HsR.cells, List.getElem?_cons_zero, Nat.add_zero, Nat.mul_one] at cx0 xc0
                      obtain ⟨w6, hrun, hm6, hg6, hz6⟩ := last_store HP5.out.last (j : Int) (.int .i64 (lastT s.T j))
                      have HP6 := hidden (HP5.out.put hq0 hm6 hg6)
                      have HW6 := hidden ((show Turn 0 [] true wc w6 from Turn.of_map HP5.out.last (Nat.zero_le _) hg6).whole HW5.out (.inr (by simp)))
                      have HM6 := hidden (HLR.out.put_same hjT)
                      clear hm6 hg6 hrow hcx hxb hmx hx
                      go_wp2_with fail
                      go_meet
                      exact ⟨j, _, _, _, _, _, rfl, hidden (.inl ⟨hat, rfl, rfl⟩), HP6, HM6, hidden (atV_put_same _ _ _), HW6⟩
                  | none =>
                    have hlb5 := HL4.out.on HB5.out
                    have S4 := idx_find lA lN lC ll wc HP5.out.fresh.idx hlb5 HLB.out.2
                    obtain ⟨rM, hrM⟩ : ∃ r, atE s.N ll = r := ⟨_, rfl⟩
                    rw [hrM] at S4
                    have S4 := hidden S4
                    have HRM := hidden hrM
                    clear hlb5 hrM
                    simp only [Option.getD_none, Option.isSome_none]
                    go_wp2_with fail
                    refine S4.out.mono ?_
                    rintro e w6 ⟨rfl, b6⟩
                    have HP6 := hidden (HP5.out.on b6)
                    have HH6 := hidden (HH5.out.below b6)
                    have HW6 := hidden (HW5.out.below b6 HW5.out.lt)
                    have HTL := hidden (show s.T.length = E.length + s.N.length by have := congrArg List.length HSE.out; rw [hT0] at this; simpa using this)
                    obtain ⟨nT, hnT⟩ : ∃ nT, s.T.length = nT := ⟨_, rfl⟩
                    have HNT := hidden hnT
                    clear hln4 hnT
                    clear S4 HP5 HH5 HW5 e0 e1 e2 ch0 ch1
                    cases rM with
                    | some i =>
                      have hati := HRM.out
                      have hiN : i < s.N.length := (List.getElem?_eq_some_iff.1 (atE_some hati)).1
                      have hat : atE (s.T.map (·.1)) ll = some (E.length + i) := by rw [HSE.out, hT0, atE_app, HRK.out, hati]; rfl
                      have S5 := hidden (hed_len w6 ⟨ip, sv, HH6.out⟩)
                      have fw1 : IntKind.i64.wrap ((E.length : Int) + (i : Int)) = ((E.length + i : Nat) : Int) := by rw [Go.IntWalk.i64_in _ (by omega)]; simp
                      rcases HLR.out (E.length + i) (by have := HTL.out; omega) with hm | ⟨_, hm, _⟩
                      · simp only [Option.getD_some, Option.isSome_some]
                        go_wp2_with fail
                        refine S5.out.mono ?_
                        rintro e w7 ⟨rfl, rfl⟩
                        go_wp2_with fail
                        go_meet
                        exact ⟨E.length + i, _, _, _, _, _, rfl, hidden (.inl ⟨hat, rfl, rfl⟩), HP6, HLR, hidden hm, HW6⟩
                      · exact absurd hm (by omega)
                    | none =>
                      have hat : atE (s.T.map (·.1)) ll = none := by rw [HSE.out, hT0, atE_app, HRK.out, HRM.out]; rfl
                      have hae : addE s.N ll = ((((s.N.length : Nat) : Int), true, 0), s.N ++ [ll]) := by
                        unfold addE
                        rw [HER.out, if_neg (by simp), HRM.out]
                      have S5 := hidden (idx_addQ q m lA lN lC ll w6 HP6.out.fresh HP6.out.last ⟨(HLB.out.1.o HP6.out.below).f, fun h0 g o e => ((HLB.out.1.o HP6.out.below).t h0 g o e).imp (fun z => Nat.lt_of_lt_of_le z HP6.out.hx) id⟩ HLB.out.2 HP6.out.far.size (by omega))
                      have hw6 := HW6.out
                      have e0 := hw6.cell 0
                      clear hw6
                      simp only [Option.getD_none, Option.isSome_none]
                      go_wp2_with fail
                      refine S5.out.mono ?_
                      rw [hae]
                      rintro e w7 ⟨rfl, hf7, ht7⟩
                      have HP7 := hidden (HP6.out.added hf7 ht7)
                      have HH7 := hidden (HFR.out _ HP7.out.far)
                      have HW7 := hidden (ht7.t.whole HW6.out (.inr (by decide)))
                      have S6 := hidden (hed_len w7 HH7.out)
                      have S7 := idx_len w7 HP7.out.fresh.idx
                      obtain ⟨N1, hN1⟩ : ∃ N1, (s.N ++ [ll]).length = N1 := ⟨_, rfl⟩
                      rw [hN1] at S7
                      have S7 := hidden S7
                      rw [List.length_append, List.length_singleton] at hN1
                      have fw1 : IntKind.i64.wrap ((E.length : Int) + (N1 : Int)) = (E.length : Int) + (N1 : Int) := Go.IntWalk.i64_in _ (by omega)
                      have fw2 : IntKind.i64.wrap ((E.length : Int) + (N1 : Int) - 1) = ((nT : Nat) : Int) := by have := HTL.out; have := HNT.out; rw [Go.IntWalk.i64_in _ (by omega)]; omega
                      obtain ⟨w8, hrun, hm8, hg8, hz8⟩ := last_store HP7.out.last ((nT : Nat) : Int) (.int .i64 (-1))
                      have HP8 := hidden (HP7.out.put hq0 hm8 hg8)
                      have HW8 := hidden ((show Turn 0 [] true w7 w8 from Turn.of_map HP7.out.last (Nat.zero_le _) hg8).whole HW7.out (.inr (by simp)))
                      have HM8 := HLR.out.put_new (l := ll) (t := -1)
                      rw [HNT.out] at HM8
                      have HM8 := hidden HM8
                      clear e0 hf7 ht7 S5 HP6 HH6 HW6 hm8 hg8 HP7 HW7
                      go_wp2_with fail
                      refine S6.out.mono ?_
                      rintro e w7 ⟨rfl, rfl⟩
                      go_wp2_with fail
                      refine S7.out.mono ?_
                      rintro e w7 ⟨rfl, rfl⟩
                      go_upto_region 26 with (fail)
                      obtain ⟨iN, iN0, iN1, iN2, iN3⟩ := info_parts infoNew
                      obtain ⟨An, cn, rfl, hcn, _⟩ := own_shape HP8.out.news.row
                      have hLN : L.length = s.N.length := by have := congrArg List.length HP8.out.news.sets; simpa using this
                      have hr8 := HP8.out.rec_
                      have hw8 := HW8.out
                      have r0 := hr8.cell 0
                      have r1 := hr8.cell 1
                      have e0 := hw8.cell 0
                      have hlen := HLB.out.1.len
                      have hfit := HLB.out.1.fit
                      have SC := hidden (ClnLbl.cloneO_any lA lN lC ll w8.drew ((HLB.out.1.on HP8.out.below).on (Below.refl _ _).drew).row hlen (by omega))
                      clear hr8 hw8
                      have HLT := hidden (show lastT (s.T ++ [(ll, -1)]) nT = -1 from lastT_at (p := (ll, -1)) (by rw [← HNT.out]; simp))
                      have hpos : 0 < lN := by have := valid_pos (enc_fit.1 HER.out); omega
                      have hsz8 := HP8.out.far.size
                      have hLk : L.length ≤ k := by omega
                      have HLN := hidden hLN
                      clear hLN hN1
                      have SC := hidden SC
                      go_region_law (first
                        | (go_simp; go_at_call 32; refine SC.out.mono ?_; rintro e w3 ⟨⟨zA, zn, zc, zl⟩, rfl, hzl, hzn, _, _, b3, ho3⟩; obtain rfl : ll = zl := hzl.symm; obtain rfl : lN = zn := hzn.symm; simp only [Sl.val] at ho3 ⊢; have HO3 := hidden (own_more (ho3 hpos) (base' := wX.heap.size) hsz8); have hB3 := HP8.out.on ((Below.refl _ _).drew.trans b3); have q0 := hB3.rec_.cell 0; have q0a := (hB3.rec_.alloc (.cells #[.int .i64 (nT : Int), .slice zA lN zc] 113)).cell 0; have HB3 := hidden hB3; have hb3s := b3.size; have HBB3 := hidden b3; have T := fun (ops : Array Oper) (o : Oper) (a : Act) (K : Act → World → Prop) (Q : Exit → Act → World → Prop) (E : Prop) (hg : o.guard = none) (s1 s2 : Operand) (ho : o.op = .call { callee := .builtin .append, args := #[s1, s2], argTypes := #[27, 27] }) (hs : a.eval s1 = .slice An L.length cn) (hx : a.eval s2 = .slice (some ⟨w3.heap.size, 0, none⟩) 1 1) h => step_appA (P := Tryz.prog) (ops := ops) (o := o) (a := a) (K := K) (Q := Q) (E := E) (w3.alloc (.cells #[.int .i64 (nT : Int), .slice zA lN zc] 113)) hg s1 s2 27 ho wX.heap.size 113 iN _ 2 32 Tryz.underlying27 iN0 iN1 iN2 iN3 rfl (by decide) _ _ _ hs (HB3.out.news.row.alloc _) _ _ _ _ _ hx (Row.fresh w3 113 2 1 [.int .i64 (nT : Int), .slice zA lN zc] rfl) (by simp [Value.oneCell']) (by unfold maxLen; omega) (by omega) (by rw [World.size_alloc]; have e3 : w8.drew.heap.size = w8.heap.size := rfl; omega) h)
                        | (refine T _ _ _ _ _ _ rfl _ _ rfl rfl rfl ?_; intro v10 w10 hown10 hg10 hat10; obtain ⟨A10, c10, rfl, hc10, _⟩ := own_shape hown10; obtain ⟨hp10, hPG⟩ := (HP8.out.on (((Below.refl w8.heap.size w8).drew.trans HBB3.out).alloc hb3s (.cells #[.int .i64 (nT : Int), .slice zA lN zc] 113))).newS (x := ⟨(nT : Int), ⟨zA, lN, zc, ll⟩⟩) (by have := HTL.out; have := HNT.out; have := HLN.out; show (nT : Int) = ((E.length + L.length : Nat) : Int); omega) (HO3.out.alloc _) hlen hown10 hg10; have r0 := hp10.cell 0; have f0 := hp10.free 0; have HPG := hidden hPG; have hb10 := ((Below.refl w8.heap.size w8).drew.trans HBB3.out).alloc hb3s (.cells #[.int .i64 (nT : Int), .slice zA lN zc] 113); have HWG := hidden ((show Turn w0.heap.size [31] false w10 _ from Turn.put hp10 HP8.out.rb (by simp) 0 (.slice A10 (L.length + 1) c10)).whole ((show Turn wX.heap.size [113] false _ w10 from Turn.of_own (HP8.out.on hb10).news.row (Nat.le_refl _) (by simp) hg10).whole (HW8.out.below hb10 HW8.out.lt) (.inr (by decide))) (.inr (by decide)))))
                      all_goals
                        go_wp2_with fail
                        go_meet
                        exact ⟨nT, _, _, _, _, _, rfl, hidden (.inr ⟨hat, HNT.out.symm, rfl, rfl⟩), HPG, HM8, hidden (by rw [HLT.out]; exact atV_put_same _ _ _), HWG⟩
                case rest =>
                  obtain ⟨nn, nv9, L9, m9, T9, N9, rfl, HMS, HP9, HLR9, HAT, HW9⟩ := hcut
                  clear HP5 HH5 HB5 HW5 e0 e1 e2 ch0 ch1 HLR
                  have hw9 := HW9.out
                  have e1 := hw9.cell 1
                  have e2 := hw9.cell 2
                  have hlk := last_look HP9.out.last (nn : Int) false
                  rw [HAT.out] at hlk
                  obtain ⟨lv, hlv⟩ : ∃ lv, lastT T9 nn = lv := ⟨_, rfl⟩
                  rw [hlv] at hlk
                  have HLV := hidden hlv
                  simp only [Option.getD_some, Bool.false_eq_true, if_false] at hlk
                  have hver9 := HP9.out.ver
                  rw [hln1] at hver9
                  have hsz9 := HP9.out.far.size
                  clear hw9 hlv hver hln4
                  by_cases hle : xt ≤ lv
                  · have hfr := Row.fresh wc 41 1 1 [.int .i64 270] rfl
                    go_wp2_with (at_builtin; refine wpList_app _ rfl _ _ 38 rfl wX.heap.size 41 iE _ 1 8 Tryz.underlying38 iE0 iE1 iE2 iE3 rfl (by decide) _ _ _ rfl (hver9.alloc _) _ _ _ _ _ rfl hfr (by simp [Value.oneCell']) (by unfold maxLen; omega) (by omega) (by simp; omega) ?_; intro v10 w10 hown10 hg10 hat10)
                    have hen : entE (EntR.p ⟨⟨lA, lN, lC, ll⟩, xt, xv⟩) = 0 := by
                      simp only [entE, EntR.p, HER.out, ne_eq, not_true_eq_false, if_false, hbad]
                    have hst := planStep_old hen HMS.out (show xt ≤ lastT T9 nn by rw [HLV.out]; exact hle)
                    have h5 := (HP9.out.on ((Below.refl wc.heap.size wc).alloc (Nat.le_refl _) (.cells #[.int .i64 270] 41))).verdict (by rw [hln1]; exact hown10) hg10
                    refine ⟨⟨k + 1, nv9, pv, L9, m9, by simp, by omega, ?_, ?_⟩, ?_⟩
                    · rw [HSN.out, hst]
                      exact hidden h5
                    · rw [HSN.out, hst]
                      exact HLR9
                    · simp only [intOf]; omega
                  · obtain ⟨iP, iP0, iP1, iP2, iP3⟩ := info_parts infoPnt
                    obtain ⟨w11, hrun, hm11, hg11, hz11⟩ := last_store HP9.out.last (nn : Int) (.int .i64 xt)
                    have HP11 := hidden (HP9.out.put hq0 hm11 hg11)
                    have HW11 := hidden ((show Turn 0 [] true wc w11 from Turn.of_map HP9.out.last (Nat.zero_le _) hg11).whole HW9.out (.inr (by simp)))
                    have hver11 := HP11.out.ver
                    rw [hln1] at hver11
                    have hsz11 := HP11.out.far.size
                    have hfr := Row.fresh w11 41 1 1 [.int .i64 0] rfl
                    clear hm11 hg11 hz11 hver9
                    go_upto_region 31 with (at_builtin; refine wpList_app _ rfl _ _ 38 rfl wX.heap.size 41 iE _ 1 8 Tryz.underlying38 iE0 iE1 iE2 iE3 rfl (by decide) _ _ _ rfl (hver11.alloc _) _ _ _ _ _ rfl hfr (by simp [Value.oneCell']) (by unfold maxLen; omega) (by omega) (by simp; omega) ?_; intro v12 w12 hown12 hg12 hat12)
                    have hb11 := (Below.refl w11.heap.size w11).alloc (Nat.le_refl _) (.cells #[.int .i64 0] 41)
                    have HP12 := hidden ((HP11.out.on hb11).verdict (by rw [hln1]; exact hown12) hg12)
                    have HW12 := hidden ((show Turn wX.heap.size [41] false _ w12 from Turn.of_own (HP11.out.on hb11).ver (Nat.le_refl _) (by simp) hg12).whole (HW11.out.below hb11 HW11.out.lt) (.inr (by decide)))
                    clear hown12 hg12 hver11 hfr hlk hrun e1 e2
                    obtain ⟨Ap, cp, rfl, hcp, _⟩ := own_shape HP12.out.pts
                    have hr12 := HP12.out.rec_
                    have hw12 := HW12.out
                    have r1 := hr12.cell 1
                    have e1 := hw12.cell 1
                    have e2 := hw12.cell 2
                    have hsz12 := HP12.out.far.size
                    have hfr := Row.fresh w12 115 3 1 [.int .i64 (nn : Int), .int .i64 xt, .int .u64 (xv : Int)] rfl
                    clear hr12 hw12
                    go_wp2_with (at_builtin; refine wpList_app _ rfl _ _ 28 rfl wX.heap.size 115 iP _ 3 24 Tryz.underlying28 iP0 iP1 iP2 iP3 rfl (by decide) _ _ _ rfl (HP12.out.pts.alloc _) _ _ _ _ _ rfl hfr (by simp [Value.oneCell']) (by unfold maxLen; omega) (by omega) (by simp; omega) ?_; intro v13 w13 hown13 hg13 hat13; obtain ⟨A13, q13, rfl, _, _⟩ := own_shape hown13; obtain ⟨hp13, hPG⟩ := (HP12.out.on ((Below.refl w12.heap.size w12).alloc (Nat.le_refl _) (.cells #[.int .i64 (nn : Int), .int .i64 xt, .int .u64 (xv : Int)] 115))).point (x := ⟨(nn : Int), xt, xv⟩) hown13 hg13; have HPG := hidden hPG; have r3 := hp13.cell 1; have f3 := hp13.free 1)
                    have hen : entE (EntR.p ⟨⟨lA, lN, lC, ll⟩, xt, xv⟩) = 0 := by
                      simp only [entE, EntR.p, HER.out, ne_eq, not_true_eq_false, if_false, hbad]
                    have hst := planStep_new hen HMS.out (show ¬ xt ≤ lastT T9 nn by rw [HLV.out]; exact hle)
                    refine ⟨⟨k + 1, nv9, .slice A13 (s.P.length + 1) q13, L9, putV m9 (.int .i64 (nn : Nat)) (.int .i64 xt), by simp, by omega, ?_, ?_⟩, ?_⟩
                    · rw [HSN.out, hst]
                      exact HPG
                    · rw [HSN.out, hst]
                      exact hidden (HLR9.out.put_old HMS.out.lt)
                    · simp only [intOf]; omega
          · have en : (er != 0) = true := by simpa using her0
            have hen : entE (EntR.p ⟨⟨lA, lN, lC, ll⟩, xt, xv⟩) = er := by
              simp only [entE, EntR.p, HER.out, ne_eq, her0, not_false_eq_true, if_true]
            have hfr := Row.fresh w4 41 1 1 [.int .i64 er] rfl
            go_wp2_with (at_builtin; refine wpList_app _ rfl _ _ 38 rfl wX.heap.size 41 iE _ 1 8 Tryz.underlying38 iE0 iE1 iE2 iE3 rfl (by decide) _ _ _ rfl (hver.alloc _) _ _ _ _ _ rfl hfr (by simp [Value.oneCell']) (by unfold maxLen; omega) (by omega) (by simp; omega) ?_; intro v5 w5 hown5 hg5 hat5)
            have h5 := (HP4.out.on ((Below.refl w4.heap.size w4).alloc (Nat.le_refl _) (.cells #[.int .i64 er] 41))).verdict (by rw [hln1]; exact hown5) hg5
            refine ⟨⟨k + 1, nv, pv, L, m, by simp, by omega, ?_, ?_⟩, ?_⟩
            · rw [HSN.out, planStep_bad (by rw [hen]; exact her0), hen]
              exact hidden h5
            · rw [HSN.out, planStep_bad (by rw [hen]; exact her0)]
              exact HLR
            · simp only [intOf]; omega
        · obtain rfl : n = k := by omega
          have hl : xs.take n = xs := List.take_of_length_le (by rw [HBB.out.len]; exact Nat.le_refl _)
          rw [hl] at hP
          obtain ⟨An, cn, rfl, _, _⟩ := own_shape hP.out.news.row
          obtain ⟨Ap, cp, rfl, _, _⟩ := own_shape hP.out.pts
          have HPF := hidden hP.out
          have hr := hP.out.rec_
          have r0 := hr.cell 0
          have r1 := hr.cell 1
          have r2 := hr.cell 2
          have hz := HR0.out.below hP.out.below HR0.out.lt
          have z0 := hz.cell 0
          have z1 := hz.cell 1
          have z2 := hz.cell 2
          have y0 := hz.free 0
          have y1 := (hz.put 0 (.slice An L.length cn)).free 1
          have y2 := ((hz.put 0 (.slice An L.length cn)).put 1 (.slice Ap (planB (T0 E X) (xs.map EntR.p)).P.length cp)).free 2
          have z1b := (hz.put 0 (.slice An L.length cn)).cell 1
          have z2b := ((hz.put 0 (.slice An L.length cn)).put 1 (.slice Ap (planB (T0 E X) (xs.map EntR.p)).P.length cp)).cell 2
          have hzz := ((hz.put 0 (.slice An L.length cn)).put 1 (.slice Ap (planB (T0 E X) (xs.map EntR.p)).P.length cp)).put 2 (.slice none 0 0)
          have ht3 : Turn w.heap.size [31] false wr _ := ((Turn.put hz (Nat.le_refl _) (by simp) 0 (.slice An L.length cn)).trans (Turn.put (hz.put 0 (.slice An L.length cn)) (Nat.le_refl _) (by simp) 1 (.slice Ap (planB (T0 E X) (xs.map EntR.p)).P.length cp))).trans (Turn.put ((hz.put 0 (.slice An L.length cn)).put 1 (.slice Ap (planB (T0 E X) (xs.map EntR.p)).P.length cp)) (Nat.le_refl _) (by simp) 2 (.slice none 0 0))
          have HT3 := hidden ht3
          have HZZ := hidden hzz
          clear hr hl hP hLR hz hzz ht3
          go_wp2_with fail
          have hB : w.heap.size ≤ wX.heap.size := Nat.le_trans HB0.out.size (Nat.le_trans HBA.out.size HBX.out.size)
          have d0 := HZZ.out.cell 0
          have d1 := HZZ.out.cell 1
          have d2 := HZZ.out.cell 2
          refine bodyPost_ret (v := .tuple #[.agg #[.slice An L.length cn, .slice Ap (planB (T0 E X) (xs.map EntR.p)).P.length cp, .slice none 0 0], u7]) (by simp [results, Tryz.results8, go_sem, d0, d1, d2]) rfl ⟨_, _, _, L, rfl, ⟨own_more (HT3.out.own HPF.out.news.row (.inl (by decide))) hB, HPF.out.news.sets, HPF.out.news.refs, fun x hx => ⟨own_more (HT3.out.own (HPF.out.news.labs x hx).1 (.inl (by decide))) hB, (HPF.out.news.labs x hx).2⟩⟩, own_more (HT3.out.own HPF.out.pts (.inl (by decide))) hB, own_more (HT3.out.own HPF.out.ver (.inl (by decide))) hB, ?_⟩
          exact (HB0.out.trans (HPF.out.below.mono HB0.out.size)).trans (HT3.out.below (Nat.le_refl _) (Nat.le_trans HB0.out.size HPF.out.below.size))
theorem hed_plan (A : Option Addr) (n c : Nat) (xs : List EntR) (w : World) {base h : Nat} {E : List (List Lbl)} {X : List HsR} (hh : Hed w base h E X) (hB : EntF w A n xs) (hE : E.length + n ≤ 2097152) :
    Calls Tryz.prog 8 #[.pointer (some ⟨h, 0, none⟩), .slice A n c] w fun e w' => PlanAns w E.length (planB (T0 E X) (xs.map EntR.p)) e w' := hed_planG _ A n c xs w (.inl ⟨h, rfl, hh⟩) hB hE
/-- head.Plan at nil -/
theorem nil_plan (A : Option Addr) (n c : Nat) (xs : List EntR) (w : World) (hB : EntF w A n xs) (hn : n ≤ 2097152) :
    Calls Tryz.prog 8 #[.pointer none, .slice A n c] w fun e w' => PlanAns w 0 (planB [] (xs.map EntR.p)) e w' := hed_planG (base := 0) (X := []) (E := []) _ A n c xs w (.inr ⟨rfl, rfl, rfl⟩) hB (by simpa using hn)
end Go.Proofs.YthncochjhbmceaaGreat
