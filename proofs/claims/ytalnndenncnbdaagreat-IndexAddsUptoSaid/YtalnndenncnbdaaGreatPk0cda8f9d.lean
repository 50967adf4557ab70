/- IndexAdds: whatever lists are added, each gets the number that the document says, or is refused; and is found by it. Condition: the argument's bulk is within the limit. -/
import Derived.Test.YtalnndenncnbdaaGreatPk7d18a958
import Derived.Test.YtalnndenncnbdaaGreatPk1cb6f742
namespace Go.Proofs.YtalnndenncnbdaaGreat
set_option maxRecDepth 100000
open Go.RowKit Go.WideShapes Go.ChangeShapes

theorem cmpL_same (l : List Lbl) : cmpLs l l = 0 := (cmpLs_zero l l).2 rfl
/-- one name was marked -/
theorem set_name (rest : List Value) (nm : ByteArray) : ∀ (L : List Lbl) (i : Nat) (x : Lbl), L[i]? = some x → (L.flatMap Lbl.cells ++ rest).set (i * 2) (.string nm) = (L.set i ⟨nm, x.value⟩).flatMap Lbl.cells ++ rest
  | [], i, x, h => by simp at h
  | a :: L, 0, x, h => by
    simp only [List.getElem?_cons_zero, Option.some.injEq] at h
    subst h
    rfl
  | a :: L, i + 1, x, h => by
    have := set_name rest nm L i x (by simpa using h)
    rw [List.set_cons_succ, List.flatMap_cons, List.flatMap_cons, List.append_assoc, List.append_assoc, ← this, Nat.succ_mul]
    rfl
theorem whole_name {w : World} {g : Nat} {L : List Lbl} {rest : List Value} (h : Whole1 w g 40 (L.flatMap Lbl.cells ++ rest).toArray) {i : Nat} {x : Lbl} (hx : L[i]? = some x) (nm : ByteArray) :
    Whole1 (w.setCell ⟨g, i * 2, none⟩ (.string nm)) g 40 ((L.set i ⟨nm, x.value⟩).flatMap Lbl.cells ++ rest).toArray := by
  have := h.put (i * 2) (.string nm)
  rw [List.setIfInBounds_toArray, set_name rest nm L i x hx] at this
  exact this
def markN : ByteArray := ⟨#[109, 97, 114, 107]⟩
set_option maxHeartbeats 6400000 in
theorem indexAdds_any (A B : Option Addr) (N C n c : Nat) (ss : List (Sl Lbl)) (ls : List Lbl) (m : Int) (w : World) (h : LLb w A N ss) (hl : LbF w B n ls) :
    Calls Tryz.prog 3 #[.slice A N C, .slice B n c, .int .i64 m] w fun e w' => e = .returned (.bool true) ∧ Below w.heap.size w w' := by
  have S0 := hidden (built_any A N C ss w h)
  have HL := hidden hl
  have hfew := h.few
  clear h hl
  go_enter Tryz.func3, Tryz.ntmps3
  go_wp2_with fail
  refine S0.out.mono ?_
  rintro e w1 ⟨p, q, E, rfl, hB, hE, b1⟩
  have HB := hidden hB
  have B1 := hidden b1
  have HV := hidden hB.1.valid
  clear S0 hB b1
  go_wp2_with fail
  refine (wakes14_any _).mono ?_
  rintro e w2 ⟨rfl, b2⟩
  have HB2 := hidden (HB.out.on b2)
  have B2 := hidden (B1.out.trans (b2.mono B1.out.size))
  clear HB B1 b2
  obtain ⟨sv, L, hR, hLE⟩ := HB2.out.2
  obtain ⟨As, cs, rfl, hcs, _⟩ := own_shape hR.sets
  have c0 := hR.blk.cell 0
  have HR2 := hidden hR
  have HLE := hidden hLE
  have HI2 := hidden HB2.out.1
  have hLl : L.length ≤ 1048576 := by
    have : L.length = E.length := by rw [← hLE, List.length_map]
    omega
  clear hR hLE HB2
  go_wp2_with fail
  go_loopw [41] (fun vi wr => ∃ k : Nat, vi = .int .i64 (k : Int) ∧ k ≤ L.length ∧ Hid (Idx wr w.heap.size p E) ∧ Hid (RIdxG wr w.heap.size q (.slice As L.length cs) L) ∧ Hid (Below w.heap.size w wr)) (fun vi _ => L.length - (intOf vi).toNat)
  case atStart => exact ⟨0, rfl, Nat.zero_le _, HI2, HR2, B2⟩
  case round =>
    obtain ⟨k, rfl, hk, hI, hR, hb⟩ := hrel
    clear HI2 HR2 B2 c0
    have k0 : (0 : Int) ≤ (k : Int) := by omega
    by_cases hlt : k < L.length
    · have k1 : (k : Int) < (L.length : Int) := by omega
      have HLT := hidden (show k + 1 ≤ L.length from hlt)
      have fwk : IntKind.i64.wrap ((k : Int) + 1) = (k : Int) + 1 := Go.IntWalk.i64_in _ (by omega)
      have hkk : ((k : Int) != (k : Int)) = false := by simp
      obtain ⟨s, hs⟩ : ∃ s, L[k]? = some s := ⟨_, List.getElem?_eq_getElem hlt⟩
      obtain ⟨As', cs', e1, _, hr⟩ := own_shape hR.out.sets
      cases e1
      obtain ⟨g, o, rfl, hg, hc⟩ := hr.at_ (by omega)
      have ck : wr.cell? ⟨g, o + k, none⟩ = some s.v := by rw [hc k (by simpa using hlt), List.getElem?_map, hs]; rfl
      have hEk : E[k]? = some s.l := by rw [← HLE.out, List.getElem?_map, hs]; rfl
      have hvs := HV.out.1 s.l (List.mem_of_getElem? hEk)
      have HVS := hidden hvs
      obtain ⟨A2, c2, hv2, hf2, hc2⟩ := lbF_own (hR.out.lab s (List.mem_of_getElem? hs)) hvs
      rw [hv2] at ck
      have HW := hidden hf2
      have S1 := hidden (idx_set k wr hI.out hEk (by have := congrArg List.length HLE.out; rw [List.length_map] at this; omega))
      have HAT := hidden (atE_at HV.out.2 hEk)
      have hsmall := (valid_small hvs).1
      obtain ⟨l, hsl⟩ : ∃ l, s.l = l := ⟨_, rfl⟩
      obtain ⟨j, hj⟩ : ∃ j, l.length = j := ⟨_, rfl⟩
      rw [hsl, hj] at HW hf2 S1 hsmall
      rw [hsl, hj] at ck
      rw [hsl] at HAT HVS
      have HJ := hidden hj
      have HEK := hidden hEk
      rw [hsl] at HEK
      clear hr hc hs hEk hvs hf2 hv2 hsl hj
      go_wp2_with fail
      refine S1.out.mono ?_
      rintro e w3 ⟨v3, rfl, ho3, b3⟩
      obtain ⟨A3, c3, rfl, hc3, hr3⟩ := own_shape ho3
      have hl3 := hidden (show LbF w3 A3 j l from ⟨hr3, HJ.out, by omega, fun x hx => by have := (valid_small HVS.out).2 x hx; omega⟩)
      have HO3 := hidden ho3
      have S2 := hidden (idx_find A3 j c3 l w3 (hI.out.below b3) hl3.out hc3)
      rw [HAT.out] at S2
      simp only [Option.getD_some, Option.isSome_some] at S2
      have B3 := hidden b3
      clear S1 ho3 hr3 b3
      go_wp2_with fail
      refine S2.out.mono ?_
      rintro e w4 ⟨rfl, b4⟩
      have B4 := hidden (B3.out.trans (b4.mono B3.out.size))
      have hl4 := hidden (hl3.out.on b4)
      have HO4 := hidden (own_below HO3.out b4 (Nat.le_refl _))
      have S3 := hidden (Law14.ref_any A3 j c3 l w4 hl4.out.row HJ.out (by omega))
      clear S2 b4 hl3 HO3 B3
      go_wp2_with fail
      refine S3.out.mono ?_
      rintro e w5 ⟨v5, rfl, ho5, b5⟩
      obtain ⟨A5, c5, rfl, hc5, hr5⟩ := own_shape ho5
      have B5 := hidden (B4.out.trans (b5.mono B4.out.size))
      have HO5 := hidden (own_below HO4.out b5 (Nat.le_refl _))
      have S4 := hidden (rcmpL A5 A2 j j c5 c2 l l w5 ⟨hr5, HJ.out, by omega, hl4.out.sz⟩ (HW.out.on B5.out))
      rw [cmpL_same] at S4
      clear S3 ho5 hr5 b5 hl4 HO4 B4
      go_wp2_with fail
      refine S4.out.mono ?_
      rintro e w6 ⟨rfl, b6⟩
      have B6 := hidden (B5.out.trans (b6.mono B5.out.size))
      have HO6 := hidden (own_below HO5.out b6 (Nat.le_refl _))
      clear S4 b6 HO5 B5
      go_wp2_with fail
      obtain ⟨wa, hwa⟩ : ∃ wa, wr = wa := ⟨_, rfl⟩
      have HWA := hidden (HW.out)
      rw [hwa] at B6 HO6 HWA
      have HRA := hidden (hwa ▸ hR.out)
      have HIA := hidden (hwa ▸ hI.out)
      have HBA := hidden (hwa ▸ hb.out)
      clear hI hR hb ck HW hwa
      go_loopw [78] (fun vi wx => ∃ i : Nat, i ≤ j ∧ vi = .int .i64 i ∧ Hid (w6.grownBy wx (Value.slice A3 j c3).ownBlock) ∧ Hid (∃ L : List Lbl, L.length = j ∧ wx.ownsRow wa.heap.size 40 2 (.slice A3 j c3) j (L.flatMap Lbl.cells))) (fun vi _ => j - (intOf vi).toNat)
      case atStart => exact ⟨0, Nat.zero_le _, rfl, hidden (gb_refl _ _), hidden ⟨l, HJ.out, HO6.out⟩⟩
      case round =>
        obtain ⟨i, hi, rfl, hgb, hown⟩ := hrel
        have i0 : (0 : Int) ≤ (i : Int) := by omega
        by_cases hlt : i < j
        · obtain ⟨L', hL, hown⟩ := hown.out
          obtain ⟨g', cap, rest, hv, hgg, hW, hnc, hcap, hlm, hsz⟩ := own_whole_g TwnLbl.hk hown (by omega)
          simp only [Value.slice.injEq, true_and] at hv
          obtain ⟨rfl, rfl⟩ := hv
          obtain ⟨x, hx⟩ : ∃ x, L'[i]? = some x := ⟨_, List.getElem?_eq_getElem (by omega)⟩
          have i1 : (i : Int) < (j : Int) := by omega
          have c0 : wr.cell? ⟨g', i * 2, none⟩ = some (.string x.name) := whole_at TwnLbl.hk hW hx 0 (by omega)
          have f0 := hW.free (i * 2)
          have hP := whole_name hW hx ⟨#[109, 97, 114, 107]⟩
          have hlset : ((L'.set i ⟨⟨#[109, 97, 114, 107]⟩, x.value⟩).flatMap Lbl.cells ++ rest).length = c3 * 2 := by
            rw [List.length_append, fm_len TwnLbl.hk] at hsz ⊢
            rw [List.length_set]
            exact hsz
          have HOX := hidden (own_of_whole_g TwnLbl.hk hgg hP hnc hcap (by rw [List.length_set]; exact hL) hlset)
          have HGX := hidden (gb_put hgb.out (i * 2) (.string ⟨#[109, 97, 114, 107]⟩))
          have HLL : Hid ((L'.set i ⟨⟨#[109, 97, 114, 107]⟩, x.value⟩).length = j) := by rw [Hid, List.length_set]; exact hL
          have fwi : IntKind.i64.wrap ((i : Int) + 1) = (i : Int) + 1 := Go.IntWalk.i64_in _ (by omega)
          clear hown hx hW hP hlset hsz hgb hL hlm
          go_wp2_with fail
          go_roundw
          case rel => exact ⟨i + 1, by omega, by go_num, HGX, hidden ⟨_, HLL.out, HOX.out⟩⟩
          case measure => simp [intOf]; omega
        · obtain rfl : j = i := by omega
          have BX := hidden (B6.out.grown hgb.out B6.out.size (fun q hq => (HO6.out.lt q hq).1))
          have HRX := hidden (HRA.out.turn (Turn.of_below BX.out w.heap.size [] false) (by simp) (by simp) (by simp))
          have HIX := HIA.out.below BX.out
          have hEl := congrArg List.length HLE.out
          rw [List.length_map] at hEl
          have S7 := hidden (idx_set k wr HIX HEK.out (by omega))
          rw [HJ.out] at S7
          have HB7 := hidden (show LbF wr A2 j l from HWA.out.on BX.out)
          clear HRX HIX hgb hown B6 HO6 hEl
          go_wp2_with fail
          refine S7.out.mono ?_
          rintro e w7 ⟨v7, rfl, ho7, b7⟩
          obtain ⟨A7, c7, rfl, hc7, hr7⟩ := own_shape ho7
          have B7 := hidden (BX.out.trans (b7.mono BX.out.size))
          have HL7 := hidden (HB7.out.on b7)
          have S8 := hidden (Law14.ref_any A7 j c7 l w7 hr7 HJ.out (by omega))
          clear S7 ho7 hr7 b7 BX HB7
          go_wp2_with fail
          refine S8.out.mono ?_
          rintro e w8 ⟨v8, rfl, ho8, b8⟩
          obtain ⟨A8, c8, rfl, hc8, hr8⟩ := own_shape ho8
          have B8 := hidden (B7.out.trans (b8.mono B7.out.size))
          have S9 := hidden (rcmpL A8 A2 j j c8 c2 l l w8 ⟨hr8, HJ.out, by omega, HL7.out.sz⟩ (HL7.out.on b8))
          rw [cmpL_same] at S9
          clear S8 ho8 hr8 b8 HL7 B7
          go_wp2_with fail
          refine S9.out.mono ?_
          rintro e w9 ⟨rfl, b9⟩
          have B9 := hidden (B8.out.trans (b9.mono B8.out.size))
          clear S9 b9 B8
          go_wp2_with fail
          go_roundw
          case rel => exact ⟨k + 1, by go_num, HLT.out, hidden (HIA.out.below B9.out), hidden (HRA.out.turn (Turn.of_below B9.out w.heap.size [] false) (by simp) (by simp) (by simp)), hidden (HBA.out.trans (B9.out.mono HBA.out.size))⟩
          case measure => have := HLT.out; simp [intOf]; omega
    · obtain rfl : L.length = k := by omega
      have HBR := hidden hb.out
      have HRR := hidden hR.out
      have HIR := hidden hI.out
      have hlf := (HL.out.on hb.out)
      have S1 := hidden (Law14.cut_any B n c ls wr hlf.row hlf.len hlf.fit)
      have HSZ := hidden (cutS_sz HL.out.sz)
      have hnf := HL.out.fit
      have HLN := hidden HL.out.len
      clear hb hR hI hlf HL
      go_wp2_with fail
      refine S1.out.mono ?_
      rintro e w3 ⟨v3, rfl, ho3, b3⟩
      obtain ⟨A3, c3, rfl, hf3, hc3⟩ := lbF_new ho3 (by rw [List.length_map, HLN.out]) hnf HSZ.out
      have HF3 := hidden hf3
      have B3 := hidden b3
      obtain ⟨cl, hcl⟩ : ∃ cl, ls.map Law14.cutS = cl := ⟨_, rfl⟩
      rw [hcl] at HF3 HSZ
      have S2 := hidden (idx_find A3 n c3 cl w3 (HIR.out.below b3) HF3.out hc3)
      clear S1 ho3 b3 hf3 hcl HLN
      go_wp2_with fail
      refine S2.out.mono ?_
      rintro e w4 ⟨rfl, b4⟩
      have HF4 := hidden (HF3.out.on b4)
      have B4 := hidden (B3.out.trans (b4.mono B3.out.size))
      have S3 := hidden (Law14.ref_any A3 n c3 cl w4 HF4.out.row HF4.out.len HF4.out.fit)
      clear S2 b4 HF3 B3
      go_wp2_with fail
      refine S3.out.mono ?_
      rintro e w5 ⟨v5, rfl, ho5, b5⟩
      obtain ⟨A5, c5, rfl, hf5, hc5⟩ := lbF_new ho5 HF4.out.len hnf HSZ.out
      have B5 := hidden (B4.out.trans (b5.mono B4.out.size))
      have S4 := hidden (rfind_any A5 n c5 cl w5 (q := q) (E := E) ⟨_, _, HRR.out.turn (Turn.of_below B5.out w.heap.size [] false) (by simp) (by simp) (by simp), HLE.out⟩ HV.out.1 HV.out.2 hf5 (by have := congrArg List.length HLE.out; rw [List.length_map] at this; omega))
      clear S3 ho5 b5 hf5 HF4 B4
      go_wp2_with fail
      refine S4.out.mono ?_
      rintro e w6 ⟨rfl, b6⟩
      have B6 := hidden (B5.out.trans (b6.mono B5.out.size))
      have HI6 := hidden (HIR.out.below B6.out)
      have HFI := hidden (HBR.out.trans (B6.out.mono HBR.out.size))
      clear S4 b6 B5
      have hEl := congrArg List.length HLE.out
      rw [List.length_map] at hEl
      have HRF := hidden (HRR.out.turn (Turn.of_below B6.out w.heap.size [] false) (by simp) (by simp) (by simp))
      cases hat : atE E cl with
      | some i =>
        have hfe : findE E cl = (i : Int) := by rw [findE, hat]
        rw [hfe]
        simp only [Option.getD_some, Option.isSome_some]
        have i0 : (0 : Int) ≤ (i : Int) := by omega
        have hmx : max 0 (i : Int) = (i : Int) := by omega
        have hee : ((i : Int) == (i : Int)) = true := by simp
        clear hfe hat
        by_cases hm : 0 ≤ m ∧ m < (L.length : Int)
        · obtain ⟨hm0, hm1⟩ := hm
          obtain ⟨jm, rfl⟩ : ∃ jm : Nat, m = (jm : Int) := ⟨m.toNat, by omega⟩
          obtain ⟨lm, hlm⟩ : ∃ lm, E[jm]? = some lm := ⟨_, List.getElem?_eq_getElem (by omega)⟩
          have S5 := hidden (idx_set jm w6 HI6.out hlm (by omega))
          clear hlm hEl HRR HIR
          go_wp2_with fail
          refine S5.out.mono ?_
          rintro e w7 ⟨v7, rfl, _, b7⟩
          have d0 := (HRF.out.turn (Turn.of_below b7 w.heap.size [] false) (by simp) (by simp) (by simp)).blk.cell 0
          have B7 := hidden (HFI.out.trans (b7.mono HFI.out.size))
          clear S5 b7
          go_wp2_with fail
          go_ret
          exact ⟨rfl, B7.out⟩
        · have S5 := hidden (idx_set_out m w6 HI6.out (by omega))
          have d0 := HRF.out.blk.cell 0
          clear hEl HRR HIR
          by_cases hm0 : 0 ≤ m
          · have hm1 : ¬ m < (L.length : Int) := fun h => hm ⟨hm0, h⟩
            have hmd : decide (m < (L.length : Int)) = false := decide_eq_false hm1
            clear hm
            go_wp2_with fail
            refine S5.out.mono ?_
            rintro e w7 ⟨rfl, rfl⟩
            clear S5
            go_wp2_with fail
            go_ret
            exact ⟨rfl, HFI.out⟩
          · clear hm
            go_wp2_with fail
            refine S5.out.mono ?_
            rintro e w7 ⟨rfl, rfl⟩
            clear S5
            go_wp2_with fail
            go_ret
            exact ⟨rfl, HFI.out⟩
      | none =>
        obtain ⟨z, hz0, hfe⟩ : ∃ z : Int, z < 0 ∧ findE E cl = z := ⟨-1, by omega, by rw [findE, hat]⟩
        rw [hfe]
        have hz1 : ¬ 0 ≤ z := by omega
        have hzd : decide (0 ≤ z) = false := decide_eq_false hz1
        have hmx : max 0 z = 0 := by omega
        simp only [Option.getD_none, Option.isSome_none]
        rw [show (((0 : Nat) : Int)) = 0 from rfl]
        clear hfe hat
        by_cases hm : 0 ≤ m ∧ m < (L.length : Int)
        · obtain ⟨hm0, hm1⟩ := hm
          obtain ⟨jm, rfl⟩ : ∃ jm : Nat, m = (jm : Int) := ⟨m.toNat, by omega⟩
          obtain ⟨lm, hlm⟩ : ∃ lm, E[jm]? = some lm := ⟨_, List.getElem?_eq_getElem (by omega)⟩
          have S5 := hidden (idx_set jm w6 HI6.out hlm (by omega))
          clear hlm hEl HRR HIR
          go_wp2_with fail
          refine S5.out.mono ?_
          rintro e w7 ⟨v7, rfl, _, b7⟩
          have d0 := (HRF.out.turn (Turn.of_below b7 w.heap.size [] false) (by simp) (by simp) (by simp)).blk.cell 0
          have B7 := hidden (HFI.out.trans (b7.mono HFI.out.size))
          clear S5 b7
          go_wp2_with fail
          go_ret
          exact ⟨rfl, B7.out⟩
        · have S5 := hidden (idx_set_out m w6 HI6.out (by omega))
          have d0 := HRF.out.blk.cell 0
          clear hEl HRR HIR
          by_cases hm0 : 0 ≤ m
          · have hm1 : ¬ m < (L.length : Int) := fun h => hm ⟨hm0, h⟩
            have hmd : decide (m < (L.length : Int)) = false := decide_eq_false hm1
            clear hm
            go_wp2_with fail
            refine S5.out.mono ?_
            rintro e w7 ⟨rfl, rfl⟩
            clear S5
            go_wp2_with fail
            go_ret
            exact ⟨rfl, HFI.out⟩
          · clear hm
            go_wp2_with fail
            refine S5.out.mono ?_
            rintro e w7 ⟨rfl, rfl⟩
            clear S5
            go_wp2_with fail
            go_ret
            exact ⟨rfl, HFI.out⟩
end Go.Proofs.YtalnndenncnbdaaGreat
