/- PostLeaps: a cursor that leaps answers as one that is asked for number after number. Condition: what comes in is of bulk at most 1048576. -/
import Derived.Test.YtjklonfheenfbaaPostTop
namespace Go.Proofs.Ytjklonfheenfbaa
set_option maxRecDepth 100000
open Go.RowKit Go.WideShapes Go.ChangeShapes Go.Shelf

theorem geL_skip {x n : Int} {r : List Int} (h : x < n) : geL n (x :: r) = geL n r := by
  unfold geL; rw [List.filter_cons_of_neg]; simp; omega
theorem geL_here {x n : Int} {r : List Int} (hr : rising (x :: r)) (h : n ≤ x) : geL n (x :: r) = x :: r := geL_all fun y hy => by
  rcases List.mem_cons.1 hy with rfl | hy
  · exact h
  · have := (List.pairwise_cons.1 hr).1 y hy; omega

set_option maxHeartbeats 6400000 in
theorem postLeaps_any (A : Option Addr) (m c : Nat) (l : List Nd) (B : Option Addr) (n d : Nat) (ls : List Int) (w : World) (h : NdF w A m l) (h2 : IntF w B n ls) (hn : n ≤ 1048576) :
    Calls Try.prog 12 #[.slice A m c, .slice B n d] w fun e w' => e = .returned (.bool true) ∧ Below w.heap.size w w' := by
  have H := hidden h
  have H2 := hidden h2
  obtain ⟨E0, hE0⟩ : ∃ E0, topOf l = E0 := ⟨_, rfl⟩
  have HLE : Hid (E0.length ≤ 1048576) := by rw [← hE0]; exact Nat.le_trans (topOf_le l) h.few.2
  have HE0 := hidden hE0
  have S1 := hidden (built_any A m c l w h)
  clear h h2 hE0
  go_enter Try.func12, Try.ntmps12
  go_wp2_with fail
  refine S1.out.mono ?_
  rintro e w1 ⟨p, E, F, L, c1, rfl, hE, hC, _, _, _⟩
  obtain rfl : E = E0 := hE.trans HE0.out
  obtain ⟨pa, rfl⟩ := hC.ptr
  have HC := hidden hC
  have S2 := hidden (built_any A m c l w1 (H.out.on hC.2.2))
  clear hE hC S1
  go_wp2_with fail
  refine S2.out.mono ?_
  rintro e w2 ⟨q, E2, G, L2, c2, rfl, hE, hD, _, _, _⟩
  obtain rfl : E = E2 := (hE.trans HE0.out).symm
  obtain ⟨qa, rfl⟩ := hD.ptr
  have HD := hidden (hD.base HC.out.2.2)
  have HC2 := hidden (HC.out.on hD.2.2)
  have HFG : Hid (∀ k, F k → ¬ G k) := fun k hf hg => by
    have := isCur_old _ _ _ _ HC.out.1 k hf
    have := hD.2.1 k hg
    omega
  clear hE hD S2 HC
  go_wp2_with fail
  refine (postWakes_any _).mono ?_
  rintro e w3 ⟨rfl, b3⟩
  have HC3 := hidden (HC2.out.on b3)
  have HD3 := hidden (HD.out.on b3)
  clear b3 HC2 HD
  go_wp2_with fail
  go_loopw [29] (fun vi wr => ∃ (k : Nat) (E : List Int), k ≤ n ∧ vi = .int .i64 k ∧ E.length ≤ 1048576 ∧ FC w wr (.pointer pa) E F ∧ FC w wr (.pointer qa) E G) (fun vi _ => n - (intOf vi).toNat)
  case atStart => exact ⟨0, E, Nat.zero_le _, rfl, HLE.out, HC3.out, HD3.out⟩
  case round =>
    clear HC3 HD3 HLE HE0
    obtain ⟨k, E, hk, rfl, hEl, hC, hD⟩ := hrel
    have HC := hidden hC
    have HD := hidden hD
    clear hC hD
    by_cases hlt : k < n
    · obtain ⟨g, o, x, rfl, hg, hx, hcx⟩ := int_cell (H2.out.on HC.out.2.2) hlt
      have hin := H2.out.ints x (List.mem_of_getElem? hx)
      have k0 : (0 : Int) ≤ (k : Int) := by omega
      have k1 : (k : Int) < (n : Int) := by omega
      have S2 := hidden (seek_cur (.pointer pa) E F x _ HC.out.1 hin)
      obtain ⟨a, ok, hans⟩ := ansL_two (L := geL x E)
      have HA := hidden hans
      rw [hans] at S2
      clear hx hans
      go_wp2_with fail
      refine S2.out.mono ?_
      rintro e w5 ⟨rfl, hc5, hk5⟩
      have HC5 := hidden (HC.out.kp hc5 hk5)
      have HD5 := hidden (HD.out.other hk5 HC.out.2.1 fun k ⟨g, f⟩ => HFG.out k f g)
      have S3 := hidden (next_cur (.pointer qa) E G _ HD5.out.1)
      obtain ⟨y, is, hans2⟩ := ansL_two (L := E)
      have HA2 := hidden hans2
      rw [hans2] at S3
      clear hc5 hk5 S2 hans2 HC HD
      go_wp2_with fail
      refine S3.out.mono ?_
      rintro e w6 ⟨rfl, hd6, hk6⟩
      have HD6 := hidden (HD5.out.kp hd6 hk6)
      have HC6 := hidden (HC5.out.other hk6 HD5.out.2.1 fun k ⟨f, g⟩ => HFG.out k f g)
      have HRi := hidden HD5.out.rising
      have HIn := hidden HD5.out.ints
      clear hd6 hk6 S3 HC5 HD5
      go_wp2_with fail
      go_loopw [13, 14] (fun vy vs wz => ∃ (R : List Int) (y : Int) (is : Bool), vy = .int .i64 y ∧ vs = .bool is ∧ Hid (ansL R = .returned (.tuple #[.int .i64 y, .bool is])) ∧ Hid (rising R) ∧ Hid (geL x R = geL x E) ∧ Hid (R.length ≤ E.length) ∧ FC w wz (.pointer qa) R.tail G ∧ FC w wz (.pointer pa) (geL x E).tail F) (fun vy vs _ => match vs with | .bool true => (x - intOf vy).toNat | _ => 0)
      case atStart => exact ⟨E, y, is, rfl, rfl, HA2, HRi, rfl, Nat.le_refl _, HD6.out, HC6.out⟩
      case round =>
        clear HD6 HC6 HA2 HRi
        obtain ⟨R, y, is, rfl, rfl, hA2, hRi, hge, hRl, hD, hC⟩ := hrel
        have HC := hidden hC
        have HD := hidden hD
        clear hC hD
        cases R with
        | nil =>
          simp only [ansL, Ending.returned.injEq, Value.tuple.injEq, Array.mk.injEq, List.cons.injEq, Value.int.injEq, Value.bool.injEq, true_and, and_true] at hA2
          obtain ⟨rfl, rfl⟩ := hA2.out
          have hg0 : geL x E = [] := hge.out.symm
          rw [hg0] at HA HC
          simp only [ansL, Ending.returned.injEq, Value.tuple.injEq, Array.mk.injEq, List.cons.injEq, Value.int.injEq, Value.bool.injEq, true_and, and_true] at HA
          obtain ⟨rfl, rfl⟩ := HA.out
          clear hA2 hg0 HA
          go_wp2_with fail
          go_roundw
          case rel => exact ⟨k + 1, [], by omega, by go_num, by decide, HC.out, HD.out⟩
          case measure => simp [intOf]; omega
        | cons z r =>
          have hya : Value.int .i64 z = .int .i64 y ∧ Value.bool true = .bool is := by
            have := hA2.out
            simp only [ansL, Ending.returned.injEq, Value.tuple.injEq, Array.mk.injEq, List.cons.injEq, and_true] at this
            exact this
          simp only [Value.int.injEq, Value.bool.injEq, true_and] at hya
          obtain ⟨rfl, rfl⟩ := hya
          clear hA2
          by_cases hzx : z < x
          · have hgr := hidden ((geL_skip hzx).symm.trans hge.out)
            have hrr : Hid (rising r) := (List.pairwise_cons.1 hRi.out).2
            have hzr := hidden (List.pairwise_cons.1 hRi.out).1
            have hrl : Hid (r.length ≤ E.length) := by have := hRl.out; simp at this; rw [Hid]; omega
            have S4 := hidden (next_cur (.pointer qa) r G _ HD.out.1)
            obtain ⟨y2, is2, hans3⟩ := ansL_two (L := r)
            have HA3 := hidden hans3
            rw [hans3] at S4
            clear hans3
            go_wp2_with fail
            refine S4.out.mono ?_
            rintro e w7 ⟨rfl, hd7, hk7⟩
            have HD7 := hidden (HD.out.kp hd7 hk7)
            have HC7 := hidden (HC.out.other hk7 HD.out.2.1 fun k ⟨f, g⟩ => HFG.out k f g)
            clear hd7 hk7 S4
            go_wp2_with fail
            go_roundw
            case rel => exact ⟨r, y2, is2, rfl, rfl, HA3, hrr, hgr, hrl, HD7.out, HC7.out⟩
            case measure =>
              cases r with
              | nil =>
                have h3 := HA3.out
                simp only [ansL, Ending.returned.injEq, Value.tuple.injEq, Array.mk.injEq, List.cons.injEq, Value.int.injEq, Value.bool.injEq, true_and, and_true] at h3
                obtain ⟨rfl, rfl⟩ := h3
                simp [intOf]; omega
              | cons z2 r2 =>
                have h3 := HA3.out
                simp only [ansL, Ending.returned.injEq, Value.tuple.injEq, Array.mk.injEq, List.cons.injEq, Value.int.injEq, Value.bool.injEq, true_and, and_true] at h3
                obtain ⟨rfl, rfl⟩ := h3
                have := hzr.out z2 (by simp)
                simp [intOf]; omega
          · have hzd : decide (z < x) = false := decide_eq_false hzx
            have hg1 : geL x E = z :: r := hge.out.symm.trans (geL_here hRi.out (by omega))
            rw [hg1] at HA HC
            have hya : Value.int .i64 z = .int .i64 a ∧ Value.bool true = .bool ok := by
              have := HA.out
              simp only [ansL, Ending.returned.injEq, Value.tuple.injEq, Array.mk.injEq, List.cons.injEq, and_true] at this
              exact this
            simp only [Value.int.injEq, Value.bool.injEq, true_and] at hya
            obtain ⟨rfl, rfl⟩ := hya
            have hzz : (z != z) = false := by simp
            have hrl : r.length ≤ 1048576 := by have := hRl.out; simp at this; omega
            clear hg1 HA
            go_wp2_with fail
            go_roundw
            case rel => exact ⟨k + 1, r, by omega, by go_num, hrl, HC.out, HD.out⟩
            case measure => simp [intOf]; omega
    · have k1 : ¬ (k : Int) < (n : Int) := by omega
      have S2 := hidden (restK HC.out hEl)
      go_wp2_with fail
      refine S2.out.mono ?_
      rintro e w5 ⟨A5, c5, rfl, _, hI5, hn5, hC5, hk5⟩
      have HD5 := hidden (HD.out.other hk5 HC.out.2.1 fun k ⟨g, f⟩ => HFG.out k f g)
      have HI5 := hidden hI5
      have hG5 := hidden (fun k (hg : G k) => isCur_old _ _ _ _ HD.out.1 k hg)
      have HN5 := hidden hn5
      have S3 := hidden (restK HD5.out hEl)
      clear hI5 hn5 hC5 hk5 S2
      go_wp2_with fail
      refine S3.out.mono ?_
      rintro e w6 ⟨A6, c6, rfl, _, hI6, hn6, hD6, hk6⟩
      have HI6 := hidden hI6
      have HJ6 := hidden (HI5.out.kp hk6 fun k hg ⟨hn, hb⟩ => by
        have := HN5.out k hn hb
        have := hG5.out k hg
        omega)
      have HD6 := hidden hD6
      have S4 := hidden (sameI_yes A5 A6 E.length c5 c6 E w6 HJ6.out HI6.out)
      clear hI6 hn6 hD6 hk6 S3
      go_wp2_with fail
      refine S4.out.mono ?_
      rintro e w7 ⟨rfl, b7⟩
      have HD7 := hidden (HD6.out.on b7)
      clear b7 S4
      go_wp2_with fail
      go_ret
      exact ⟨rfl, HD7.out.2.2⟩

theorem postLeaps_walk {H : Type} (enc : TypeId × Value → H) : LawWalk enc Try.prog 12 Try.f12 (fun ds => Rows.uptoBulkAll ds ≤ 1048576) := by
  intro W base args ds p hval hA hlt hsz hcond
  rw [Try.params12] at hval hA hsz
  obtain ⟨v0, vs0, d0, ds0, p0, q0, hargs, rfl, rfl, h0, r0⟩ := trodAll_cons hA
  obtain ⟨v1, vs1, d1, ds1, p1, q1, rfl, rfl, rfl, h1, r1⟩ := trodAll_cons r0
  obtain ⟨rfl, rfl, rfl⟩ := trodAll_nil r1
  obtain rfl : args = #[v0, v1] := by cases args; simp_all
  obtain ⟨s, rfl, hs⟩ := open_nodes (hval 0 66 v0 rfl rfl) h0 (arg_fits (b := Rows.uptoBulkAll [d0, d1]) (j := 0) rfl rfl (fun x hx => hlt x (by simp [hx])) hsz (Nat.le_refl _)) hcond
  obtain ⟨r, rfl, hr, hrn⟩ := open_ints (hval 1 69 v1 rfl rfl) h1 (arg_fits (b := Rows.uptoBulkAll [d0, d1]) (j := 1) rfl rfl (fun x hx => hlt x (by simp [hx])) hsz (Nat.le_refl _))
  exact postLeaps_any s.A s.n s.c s.l r.A r.n r.c r.l W hs hr (Nat.le_trans hrn hcond)

namespace postLeapsUpto
set_option maxRecDepth 100000 in
theorem lifted (os : Os) (started : os.Started) (H : Type) (enc : TypeId × Value → H) (F : Stop.Interp) :
    ReturnsInHanded {} Try.checked os 12 .any ((Rows.OpenSpec.upto Rows.postLeapsSpec).pre6 enc Try.prog Try.f12 Rows.postLeapsUptoRow.domain false) (((Rows.OpenSpec.upto Rows.postLeapsSpec).at F).post enc Try.prog Try.f12 false true false false) :=
  law_upto (C := Try.checked) (s := Rows.postLeapsSpec) (tb := 4) own_prog started (by kernel_rfl) Try.func12
    (OpenSpec.witness (enc := enc) (C := Try.checked) (s := Rows.OpenSpec.upto Rows.postLeapsSpec) (k := Rows.uptoSmall) rfl false ⟨#[], #[.slice none 0 0, .slice none 0 0], []⟩ 8 (by kernel_rfl) (by kernel_rfl) (by kernel_rfl)
      (x := ([.nil, .nil], [], [])) (by kernel_rfl) rfl (by kernel_rfl))
    laidOut (by kernel_rfl) rfl Try.underlying4 ⟨rfl, fun H ds h => match ds, h with | [_, _], _ => ⟨rfl, rfl, rfl⟩⟩ (postLeaps_walk enc)

theorem proved : Rows.PostLeapsUptoSaid :=
  OpenClaim.holds_of_cond 12 Try.f12 rfl rfl rfl rfl rfl rfl rfl ⟨rfl, rfl, rfl, rfl, rfl⟩ rfl rfl rfl rfl rfl (by kernel_rfl) Try.func12 (by kernel_rfl)
    (of_decide_eq_true (by kernel_rfl)) (by unfold Func.isWrapper; first | (rw [if_pos (by decide +kernel)]; kernel_rfl) | (rw [if_neg (by decide +kernel)]; exact ⟨rfl, rfl⟩))
    (fun os started H enc _ F => lifted os started H enc F)
#print axioms proved
end postLeapsUpto

end Go.Proofs.Ytjklonfheenfbaa
