/- IndexFits, walked: what is selected is what the matchers fit. Condition: the arguments are of bulk within the limit. -/
import Derived.Test.YtbijjjhfekkfaaaGreatIdxFitsP
import Derived.Test.YtbijjjhfekkfaaaGreatPka70a28ec
import Derived.Test.YtbijjjhfekkfaaaGreatPk235e6dd4
import Derived.Test.YtbijjjhfekkfaaaGreatPk46347e35
import Derived.Test.YtbijjjhfekkfaaaGreatOpA14
namespace Go.Proofs.YtbijjjhfekkfaaaGreat
set_option maxRecDepth 100000
open Go.RowKit Go.WideShapes Go.ChangeShapes

theorem mtRow_pr {w0 w : World} {vm vw : Value} {ms : List Mt} {ls : List Ask} (h : Pr w0 w vm vw ms ls) : ∃ A c, vm = .slice A ms.length c ∧ MtRow w A ms.length ms := by
  obtain ⟨A, c, rfl, _, hr⟩ := own_shape h.one
  exact ⟨A, c, rfl, hr, rfl, h.m1⟩
set_option maxHeartbeats 6400000 in
theorem indexFits_any (A B : Option Addr) (N C n c : Nat) (ss : List (Sl Lbl)) (l : List Ask) (w : World) (h : LLb w A N ss) (ha : AskF w B n l) (hn : n ≤ 1048576) :
    Calls Tryz.prog 6 #[.slice A N C, .slice B n c] w fun e w' => e = .returned (.bool true) ∧ Below w.heap.size w w' := by
  have S0 := hidden (built_any A N C ss w h)
  have HA := hidden ha
  have hfew := h.few
  clear h ha
  go_enter Tryz.func6, Tryz.ntmps6
  go_wp2_with fail
  refine S0.out.mono ?_
  rintro e w1 ⟨p, q, E, rfl, hB, hE, b1⟩
  have HI := hidden hB.1
  have B1 := hidden b1
  have hE20 : E.length ≤ 1048576 := by omega
  have HV := hidden hB.1.valid
  have S1 := hidden (matchers14_any B n c l w1 (HA.out.on b1))
  clear S0 hB b1 hE
  go_wp2_with fail
  refine S1.out.mono ?_
  rintro e w2 ⟨vm, vw, ms, rfl, hP, _, hmn⟩
  obtain ⟨A2, c2, rfl, hmr⟩ := mtRow_pr hP
  have HM := hidden hmr
  have HI2 := hidden (HI.out.below hP.below)
  have B2 := hidden (B1.out.trans (hP.below.mono B1.out.size))
  have hm20 : ms.length ≤ 1048576 := by omega
  obtain ⟨m, hm⟩ : ∃ m, ms.length = m := ⟨_, rfl⟩
  rw [hm] at HM hm20 ⊢
  clear S1 hP hmr hmn hm HI B1
  go_wp2_with fail
  refine (wakes14_any _).mono ?_
  rintro e w3 ⟨rfl, b3⟩
  have HI3 := hidden (HI2.out.below b3)
  have HM3 := hidden (HM.out.on b3)
  have B3 := hidden (B2.out.trans (b3.mono B2.out.size))
  have S2 := hidden (idx_select w3 HI3.out hE20 A2 m c2 ms HM3.out hm20)
  clear b3 HI2 HM B2
  go_wp2_with fail
  refine S2.out.mono ?_
  rintro e w4 ⟨A4, c4, S, rfl, hf4, hr4, hm4, b4⟩
  obtain rfl := sel_is hr4 hm4
  have HI4 := hidden (HI3.out.below b4)
  have HM4 := hidden (HM3.out.on b4)
  have B4 := hidden (B3.out.trans (b4.mono B3.out.size))
  have HF4 := hidden hf4
  have S3 := hidden (idx_len w4 HI4.out)
  clear S2 hf4 hr4 hm4 b4 HI3 HM3 B3
  go_wp2_with fail
  refine S3.out.mono ?_
  rintro e w5 ⟨rfl, rfl⟩
  clear S3
  obtain ⟨T, hT⟩ : ∃ T, fitsTo E ms E.length = T := ⟨_, rfl⟩
  rw [hT] at HF4 ⊢
  have HT := hidden hT
  have hTl : T.length ≤ E.length := by rw [← hT]; exact fitsTo_len _ _ _
  clear hT
  go_wp2_with fail
  go_loopw [11, 37] (fun va vi wr => ∃ (k j : Nat), vi = .int .i64 (k : Int) ∧ k ≤ E.length ∧ va = .int .i64 (j : Int) ∧ j ≤ k ∧ Hid (j = (fitsTo E ms k).length) ∧ Hid (Below w5.heap.size w5 wr)) (fun _ vi _ => E.length - (intOf vi).toNat)
  case atStart => exact ⟨0, 0, rfl, Nat.zero_le _, rfl, Nat.le_refl _, hidden rfl, hidden (Below.refl _ _)⟩
  case round =>
    obtain ⟨k, j, rfl, hk, rfl, hjk, hj, hb⟩ := hrel
    by_cases hlt : k < E.length
    · have k1 : (k : Int) < (E.length : Int) := by omega
      have k0 : (0 : Int) ≤ (k : Int) := by omega
      have j0 : (0 : Int) ≤ (j : Int) := by omega
      have fwk : IntKind.i64.wrap ((k : Int) + 1) = (k : Int) + 1 := Go.IntWalk.i64_in _ (by omega)
      have fwj : IntKind.i64.wrap ((j : Int) + 1) = (j : Int) + 1 := Go.IntWalk.i64_in _ (by omega)
      have HLT := hidden (show k + 1 ≤ E.length from hlt)
      obtain ⟨e1, he1⟩ : ∃ l, E[k]? = some l := ⟨_, List.getElem?_eq_getElem hlt⟩
      have HE1 := hidden he1
      have hel := (valid_small (HV.out.1 e1 (List.mem_of_getElem? he1)))
      have S4 := hidden (idx_set k wr (HI4.out.below hb.out) he1 (by omega))
      clear he1
      go_wp2_with fail
      refine S4.out.mono ?_
      rintro e w6 ⟨v6, rfl, ho6, b6⟩
      have hHEL := hidden hel
      obtain ⟨A6, c6, rfl, hf6, _⟩ := lbF_new ho6 rfl (by have := hel.1; omega) (fun x hx => by have := hel.2 x hx; omega)
      have B6 := hidden (hb.out.trans (b6.mono hb.out.size))
      have S5 := hidden (mall_any A6 A2 e1.length c6 m c2 e1 ms w6 hf6 (HM4.out.on B6.out) (by omega))
      clear S4 ho6 hf6 b6 hel
      go_wp2_with fail
      refine S5.out.mono ?_
      rintro e w7 ⟨rfl, b7⟩
      have B7 := hidden (B6.out.trans (b7.mono B6.out.size))
      clear S5 b7 B6 hb
      cases hfit : allM e1 ms with
      | true =>
        have hat := fitsTo_at HE1.out hfit
        have hyes := fitsTo_yes HE1.out hfit
        rw [HT.out, ← hj.out] at hat
        have hjT : j < T.length := (List.getElem?_eq_some_iff.1 hat).1
        have HJ := hidden (show j + 1 = (fitsTo E ms (k + 1)).length by rw [hyes, List.length_append, ← hj.out]; rfl)
        have hjlt : ¬ (T.length : Int) ≤ (j : Int) := by omega
        have hjlt2 : (j : Int) < (T.length : Int) := by omega
        have hf7 := HF4.out.on B7.out
        obtain ⟨g, o, rfl, hg, hc⟩ := ints_at hf7.row (by omega)
        have ck : w7.cell? ⟨g, o + j, none⟩ = some (.int .i64 (k : Int)) := by
          rw [hc j hjT, List.getD_eq_getElem?_getD, hat]; rfl
        have hkk : ((k : Int) != (k : Int)) = false := by simp
        clear hfit hat hyes hj hc hf7
        go_wp2_with fail
        go_roundw
        case rel => exact ⟨k + 1, j + 1, by go_num, HLT.out, by go_num, by omega, HJ, B7⟩
        case measure => have := HLT.out; simp [intOf]; omega
      | false =>
        have HJ := hidden (show j = (fitsTo E ms (k + 1)).length by rw [fitsTo_no HE1.out hfit]; exact hj.out)
        clear hfit hj
        go_wp2_with fail
        go_roundw
        case rel => exact ⟨k + 1, j, by go_num, HLT.out, rfl, by omega, HJ, B7⟩
        case measure => have := HLT.out; simp [intOf]; omega
    · obtain rfl : E.length = k := by omega
      have hjT : j = T.length := by rw [← HT.out]; exact hj.out
      have hjj : ((j : Int) == (T.length : Int)) = true := by simp [hjT]
      clear hjT
      go_wp2_with fail
      go_ret
      exact ⟨rfl, B4.out.trans (hb.out.mono B4.out.size)⟩
theorem indexFits_walk {H : Type} (enc : TypeId × Value → H) : LawWalk enc Tryz.prog 6 Tryz.f6 (fun ds => Rows.uptoBulkAll ds ≤ 1048576) := by
  intro W base args ds p hval hA hlt hsz hcond
  rw [Tryz.params6] at hval hA hsz
  obtain ⟨v0, vs0, d0, ds0, p0, q0, hargs, rfl, rfl, h0, r0⟩ := trodAll_cons hA
  obtain ⟨v1, vs1, d1, ds1, p1, q1, rfl, rfl, rfl, h1, r1⟩ := trodAll_cons r0
  obtain ⟨rfl, rfl, rfl⟩ := trodAll_nil r1
  obtain rfl : args = #[v0, v1] := by cases args; simp_all
  obtain ⟨A, N, C, ss, rfl, hs⟩ := open_sets (hval 0 60 v0 rfl rfl) h0 (arg_fits (b := Rows.uptoBulkAll [d0, d1]) (j := 0) rfl rfl (fun x hx => hlt x (by simp [hx])) hsz (Nat.le_refl _)) hcond
  obtain ⟨B, n, c, l, rfl, hl, hn⟩ := OpA14.open_asks (hval 1 61 v1 rfl rfl) h1 (arg_fits (b := Rows.uptoBulkAll [d0, d1]) (j := 1) rfl rfl (fun x hx => hlt x (by simp [hx])) hsz (Nat.le_refl _))
  exact indexFits_any A B N C n c ss l W hs hl (Nat.le_trans hn hcond)

namespace indexFitsUpto
set_option maxRecDepth 100000 in
theorem lifted (os : Os) (started : os.Started) (H : Type) (enc : TypeId × Value → H) (F : Stop.Interp) :
    ReturnsInHanded {} Tryz.checked os 6 .any ((Rows.OpenSpec.upto Rows.indexFitsSpec).pre6 enc Tryz.prog Tryz.f6 Rows.indexFitsUptoRow.domain false) (((Rows.OpenSpec.upto Rows.indexFitsSpec).at F).post enc Tryz.prog Tryz.f6 false true false false) :=
  law_upto (C := Tryz.checked) (s := Rows.indexFitsSpec) (tb := 4) own_prog started (by kernel_rfl) Tryz.func6
    (OpenSpec.witness (enc := enc) (C := Tryz.checked) (s := Rows.OpenSpec.upto Rows.indexFitsSpec) (k := Rows.uptoSmall) rfl false ⟨#[], #[.slice none 0 0, .slice none 0 0], []⟩ 8 (by kernel_rfl) (by kernel_rfl) (by kernel_rfl)
      (x := ([.nil, .nil], [], [])) (by kernel_rfl) rfl (by kernel_rfl))
    laidOut (by kernel_rfl) rfl Tryz.underlying4 ⟨rfl, fun H ds h => match ds, h with | [_, _], _ => ⟨rfl, rfl, rfl⟩⟩ (indexFits_walk enc)

end indexFitsUpto

end Go.Proofs.YtbijjjhfekkfaaaGreat
