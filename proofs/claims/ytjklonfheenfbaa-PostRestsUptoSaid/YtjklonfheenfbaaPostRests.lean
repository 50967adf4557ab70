/- PostRests: whatever cursors are made of one another, the rest is the document's; it is new memory. Condition: what comes in is of bulk at most 1048576. -/
import Derived.Test.YtjklonfheenfbaaPostTop
namespace Go.Proofs.Ytjklonfheenfbaa
set_option maxRecDepth 100000
open Go.RowKit Go.WideShapes Go.ChangeShapes Go.Shelf

set_option maxHeartbeats 6400000 in
theorem postRests_any (A : Option Addr) (m c : Nat) (l : List Nd) (w : World) (h : NdF w A m l) :
    Calls Try.prog 11 #[.slice A m c] w fun e w' => e = .returned (.bool true) ∧ Below w.heap.size w w' := by
  have H := hidden h
  obtain ⟨E0, hE0⟩ : ∃ E0, topOf l = E0 := ⟨_, rfl⟩
  have HLE : Hid (E0.length ≤ 1048576) := by rw [← hE0]; exact Nat.le_trans (topOf_le l) h.few.2
  have HE0 := hidden hE0
  have S1 := hidden (built_any A m c l w h)
  clear h hE0
  go_enter Try.func11, Try.ntmps11
  go_wp2_with fail
  refine S1.out.mono ?_
  rintro e w1 ⟨p, E, F, L, c1, rfl, hE, hC, hc1, hI, hof⟩
  obtain rfl : E = E0 := hE.trans HE0.out
  obtain ⟨pa, rfl⟩ := hC.ptr
  have HC := hidden hC
  have hC0 := HC
  have HI := hidden hI
  have HOF := hidden hof
  have S2 := hidden (built_any A m c l w1 (H.out.on hC.2.2))
  clear hE hC hI hof S1
  go_wp2_with fail
  refine S2.out.mono ?_
  rintro e w2 ⟨q, E2, G, L2, c2, rfl, hE, hD, hc2, _, _⟩
  obtain rfl : E = E2 := (hE.trans HE0.out).symm
  obtain ⟨qa, rfl⟩ := hD.ptr
  have HD := hidden (hD.base hC0.out.2.2)
  have HC2 := hidden (HC.out.on hD.2.2)
  have HI2 := hidden (HI.out.on hD.2.2)
  have HFG : Hid (∀ k, F k → ¬ G k) := fun k hf hg => by
    have := isCur_old _ _ _ _ HC.out.1 k hf
    have := hD.2.1 k hg
    omega
  have HGL : Hid (∀ k, G k → ¬ (0 < E.length ∧ blockOf L k)) := fun k hg ⟨hn, o, e⟩ => by
    obtain ⟨g', o', e', hg', _⟩ := HI.out.row.at_ hn
    rw [e] at e'
    simp only [Option.some.injEq, Addr.mk.injEq] at e'
    have := hD.2.1 k hg
    omega
  clear hE hD S2 HC HI hC0
  go_wp2_with fail
  refine (postWakes_any _).mono ?_
  rintro e w3 ⟨rfl, b3⟩
  have HC3 := hidden (HC2.out.on b3)
  have HD3 := hidden (HD.out.on b3)
  have HI3 := hidden (HI2.out.on b3)
  have HW3 := hidden HC3.out.2.2.size
  have S3 := hidden (restK HC3.out HLE.out)
  have HIB : Hid (∀ k, 0 < E.length → blockOf L k → k < w3.heap.size) := fun k hn ⟨o, e⟩ => by
    obtain ⟨g', o', e', hg', _⟩ := HI3.out.row.at_ hn
    rw [e] at e'
    simp only [Option.some.injEq, Addr.mk.injEq] at e'
    omega
  clear b3 HC2 HD HI2
  go_wp2_with fail
  refine S3.out.mono ?_
  rintro e w4 ⟨L4, c4, rfl, hO4, hI4, hn4, hC4, hk4⟩
  have HD4 := hidden (HD3.out.other hk4 HC3.out.2.1 fun k ⟨g, f⟩ => HFG.out k f g)
  have HI4 := hidden (HI3.out.kp hk4 HOF.out)
  have HA4 := hidden hI4
  have HN4 := hidden hn4
  have HO4 := hidden hO4
  have HGO := hidden (fun k (hg : G k) => isCur_old _ _ _ _ HD3.out.1 k hg)
  have S4 := hidden (restK HD4.out HLE.out)
  clear hO4 hI4 hn4 hC4 hk4 S3 HC3 HD3 HI3
  go_wp2_with fail
  refine S4.out.mono ?_
  rintro e w5 ⟨L5, c5, rfl, _, hI5, hn5, hC5, hk5⟩
  have HI5 := hidden (HI4.out.kp hk5 HGL.out)
  have HA5 := hidden (HA4.out.kp hk5 fun k hg ⟨hn, hb⟩ => by
    have := HN4.out k hn hb
    have := HGO.out k hg
    omega)
  have HO5 := hidden (own_kp HO4.out hk5 HGO.out)
  have HB5 := hidden hI5
  have HW5 := hidden (HD4.out.2.2.trans (hk5.below HD4.out.2.1 HD4.out.2.2.size))
  have HA4b : Hid (0 < E.length → ∃ g o, L4 = some ⟨g, o, none⟩ ∧ g < w4.heap.size) := fun hn => by
    obtain ⟨g, o, e, hg, _⟩ := HA4.out.row.at_ hn
    exact ⟨g, o, e, hg⟩
  have HI4b : Hid (∀ k, 0 < E.length → blockOf L k → k < w3.heap.size) := HIB.out
  have HN5 := hidden hn5
  clear hI5 hn5 hC5 hk5 S4 HD4 HI4 HA4 HO4
  have S5 := hidden (sameI_yes L4 L E.length c4 c1 E w5 HA5.out HI5.out)
  go_wp2_with fail
  refine S5.out.mono ?_
  rintro e w6 ⟨rfl, b6⟩
  have HI6 := hidden (HI5.out.on b6)
  have HB6 := hidden (HB5.out.on b6)
  have HO6 := hidden (own_below HO5.out b6 (Nat.le_refl _))
  have HW6 := hidden (HW5.out.trans (b6.mono HW5.out.size))
  have S6 := hidden (sameI_yes L5 L E.length c5 c1 E w6 HB6.out HI6.out)
  clear b6 S5 HI5 HA5 HB5 HO5 HW5
  go_wp2_with fail
  refine S6.out.mono ?_
  rintro e w7 ⟨rfl, b7⟩
  have HI7 := hidden (HI6.out.on b7)
  have HB7 := hidden (HB6.out.on b7)
  have HO7 := hidden (own_below HO6.out b7 (Nat.le_refl _))
  have HW7 := hidden (HW6.out.trans (b7.mono HW6.out.size))
  clear b7 S6 HI6 HB6 HO6 HW6
  have hEn := HLE.out
  go_wp2_with fail
  have HST : Hid (0 < E.length → ∃ (g : Nat) (zs : List Int) (rest : List Value), L4 = some ⟨g, 0, none⟩ ∧ Whole1 w7 g 3 ((zs.map (Value.int .i64)) ++ rest).toArray ∧ zs.length = E.length ∧ w.heap.size ≤ g ∧ (∀ k, blockOf L5 k → k ≠ g) ∧ ∀ k, blockOf L k → k ≠ g) := fun hn => by
    obtain ⟨g, cap, rest, hv, hg, hw, _, _, hl, _⟩ := ints_whole HO7.out hn
    simp only [Value.slice.injEq, true_and] at hv
    obtain ⟨g', o', e', hg'⟩ := HA4b.out hn
    have hv1 := hv.1
    rw [e'] at hv1
    simp only [Option.some.injEq, Addr.mk.injEq, and_true] at hv1
    refine ⟨g, E, rest, hv.1, hw, rfl, by have := HW3.out; omega, fun k hk e => ?_, fun k hk e => ?_⟩
    · have := HN5.out k hn hk; omega
    · have := HI4b.out k hn hk; omega
  go_loopw [38] (fun vi wr => ∃ k : Nat, k ≤ E.length ∧ vi = .int .i64 k ∧ IntF wr L5 E.length E ∧ IntF wr L E.length E ∧ Below w.heap.size w wr ∧ Hid (0 < E.length → ∃ (g : Nat) (zs : List Int) (rest : List Value), L4 = some ⟨g, 0, none⟩ ∧ Whole1 wr g 3 ((zs.map (Value.int .i64)) ++ rest).toArray ∧ zs.length = E.length ∧ w.heap.size ≤ g ∧ (∀ k, blockOf L5 k → k ≠ g) ∧ ∀ k, blockOf L k → k ≠ g)) (fun vi _ => E.length - (intOf vi).toNat)
  case atStart => exact ⟨0, Nat.zero_le _, rfl, HB7.out, HI7.out, HW7.out, HST⟩
  case round =>
    obtain ⟨k, hk, rfl, hB, hI, hW, hST⟩ := hrel
    by_cases hlt : k < E.length
    · obtain ⟨g, zs, rest, rfl, hw, hl, hg, h5, hL⟩ := hST.out (by omega)
      have k0 : (0 : Int) ≤ (k : Int) := by omega
      have k1 : (k : Int) < (E.length : Int) := by omega
      have hz : zs[k]? = some (zs[k]'(by omega)) := List.getElem?_eq_getElem _
      have cz := ints_cell hw hz
      have fz := hw.free k
      have HP := hidden (ints_put hw (i := k) (by omega) (-1))
      have hK : Kp (fun q => q = g) wr (wr.setCell ⟨g, k, none⟩ (.int .i64 (-1))) := (Kp.refl (fun q => q = g) wr).put (show g = g from rfl) k _
      have HB2 := hidden (hB.kp hK fun q hq ⟨_, hb⟩ => h5 q hb hq)
      have HI2 := hidden (hI.kp hK fun q hq ⟨_, hb⟩ => hL q hb hq)
      have HW2 := hidden (hW.trans (hK.below (fun q hq => by rw [hq]; exact hg) hW.size))
      have HST2 : Hid (0 < E.length → ∃ (g' : Nat) (zs : List Int) (rest : List Value), some ⟨g, 0, none⟩ = some (⟨g', 0, none⟩ : Addr) ∧ Whole1 (wr.setCell ⟨g, k, none⟩ (.int .i64 (-1))) g' 3 ((zs.map (Value.int .i64)) ++ rest).toArray ∧ zs.length = E.length ∧ w.heap.size ≤ g' ∧ (∀ k, blockOf L5 k → k ≠ g') ∧ ∀ k, blockOf L k → k ≠ g') := fun _ => ⟨g, _, rest, rfl, HP.out, by rw [List.length_set]; exact hl, hg, h5, hL⟩
      clear hw hK hB hI hW hST hz
      go_wp2_with fail
      go_roundw
      case rel => exact ⟨k + 1, by omega, by go_num, HB2.out, HI2.out, HW2.out, HST2⟩
      case measure => simp [intOf]; omega
    · have k1 : ¬ (k : Int) < (E.length : Int) := by omega
      have S7 := hidden (sameI_yes L5 L E.length c5 c1 E wr hB hI)
      have HW := hidden hW
      clear hB hI hW hST
      go_wp2_with fail
      refine S7.out.mono ?_
      rintro e w9 ⟨rfl, b9⟩
      have HW9 := hidden (HW.out.trans (b9.mono HW.out.size))
      clear b9 S7
      go_wp2_with fail
      go_ret
      exact ⟨rfl, HW9.out⟩

theorem postRests_walk {H : Type} (enc : TypeId × Value → H) : LawWalk enc Try.prog 11 Try.f11 (fun ds => Rows.uptoBulkAll ds ≤ 1048576) := by
  intro W base args ds p hval hA hlt hsz hcond
  rw [Try.params11] at hval hA hsz
  obtain ⟨v0, vs0, d0, ds0, p0, q0, hargs, rfl, rfl, h0, r0⟩ := trodAll_cons hA
  obtain ⟨rfl, rfl, rfl⟩ := trodAll_nil r0
  obtain rfl : args = #[v0] := by cases args; simp_all
  obtain ⟨s, rfl, hs⟩ := open_nodes (hval 0 66 v0 rfl rfl) h0 (arg_fits (b := Rows.uptoBulkAll [d0]) (j := 0) rfl rfl (fun x hx => hlt x (by simp [hx])) hsz (Nat.le_refl _)) hcond
  exact postRests_any s.A s.n s.c s.l W hs

namespace postRestsUpto
set_option maxRecDepth 100000 in
theorem lifted (os : Os) (started : os.Started) (H : Type) (enc : TypeId × Value → H) (F : Stop.Interp) :
    ReturnsInHanded {} Try.checked os 11 .any ((Rows.OpenSpec.upto Rows.postRestsSpec).pre6 enc Try.prog Try.f11 Rows.postRestsUptoRow.domain false) (((Rows.OpenSpec.upto Rows.postRestsSpec).at F).post enc Try.prog Try.f11 false true false false) :=
  law_upto (C := Try.checked) (s := Rows.postRestsSpec) (tb := 4) own_prog started (by kernel_rfl) Try.func11
    (OpenSpec.witness (enc := enc) (C := Try.checked) (s := Rows.OpenSpec.upto Rows.postRestsSpec) (k := Rows.uptoSmall) rfl false ⟨#[], #[.slice none 0 0], []⟩ 8 (by kernel_rfl) (by kernel_rfl) (by kernel_rfl)
      (x := ([.nil], [], [])) (by kernel_rfl) rfl (by kernel_rfl))
    laidOut (by kernel_rfl) rfl Try.underlying4 ⟨rfl, fun H ds h => match ds, h with | [_], _ => ⟨rfl, rfl, rfl⟩⟩ (postRests_walk enc)

theorem proved : Rows.PostRestsUptoSaid :=
  OpenClaim.holds_of_cond 11 Try.f11 rfl rfl rfl rfl rfl rfl rfl ⟨rfl, rfl, rfl, rfl, rfl⟩ rfl rfl rfl rfl rfl (by kernel_rfl) Try.func11 (by kernel_rfl)
    (of_decide_eq_true (by kernel_rfl)) (by unfold Func.isWrapper; first | (rw [if_pos (by decide +kernel)]; kernel_rfl) | (rw [if_neg (by decide +kernel)]; exact ⟨rfl, rfl⟩))
    (fun os started H enc _ F => lifted os started H enc F)
#print axioms proved
end postRestsUpto

end Go.Proofs.Ytjklonfheenfbaa
