/- SpansOf: the one list of any spans is the document's, and what is asked of it. No condition. -/
import Derived.Test.YtjklonfheenfbaaSpnLaw
namespace Go.Proofs.Ytjklonfheenfbaa
set_option maxRecDepth 100000
open Go.RowKit Go.WideShapes Go.ChangeShapes Go.Shelf

set_option maxHeartbeats 6400000 in
theorem spansOf_any (A : Option Addr) (n c : Nat) (l : List Spn) (a b : Int) (w : World) (h : SpF w A n l) :
    Calls Try.prog 4 #[.slice A n c, .int .i64 a, .int .i64 b] w fun e w' => e = .returned (.bool true) ∧ Below w.heap.size w w' := by
  have H0 := hidden h
  clear h
  go_enter Try.func4, Try.ntmps4
  go_wp2_with fail
  refine (spnWakes_any _).mono ?_
  rintro e w1 ⟨rfl, hb1⟩
  have HB1 := hidden hb1
  have S1 := hidden (twinF c (H0.out.on hb1))
  clear hb1
  go_wp2_with fail
  refine S1.out.mono ?_
  rintro e w2 ⟨A2, c2, l2, rfl, h2, rfl, hb2⟩
  have HB2 := hidden (HB1.out.trans (hb2.mono HB1.out.size))
  have S2 := hidden (ofF c2 h2)
  clear h2 hb2 HB1 S1
  go_wp2_with fail
  refine S2.out.mono ?_
  rintro e w3 ⟨A3, c3, R, rfl, h3, hR, hb3⟩
  have HB3 := hidden (HB2.out.trans (hb3.mono HB2.out.size))
  have H3 := hidden h3
  have HR := hidden hR
  have S3 := hidden (refSF c (H0.out.on HB3.out))
  clear h3 hR hb3 HB2 S2
  go_wp2_with fail
  refine S3.out.mono ?_
  rintro e w4 ⟨A4, c4, l4, rfl, h4, rfl, hb4⟩
  have HB4 := hidden (HB3.out.trans (hb4.mono HB3.out.size))
  have H3b := hidden (H3.out.on hb4)
  have S4 := hidden (rofF c4 h4)
  clear h4 hb4 HB3 S3 H3
  go_wp2_with fail
  refine S4.out.mono ?_
  rintro e w5 ⟨A5, c5, R5, rfl, h5, hR5, hb5⟩
  obtain rfl : R5 = R := hR5.uniq HR.out fun _ => rfl
  have HB5 := hidden (HB4.out.trans (hb5.mono HB4.out.size))
  have S5 := hidden (TwnSpn.alike_yes A3 A5 _ c3 c5 _ w5 (H3b.out.on hb5).row h5.row h5.len (by have := h5.fit; omega))
  clear h5 hR5 hb5 HB4 S4 H3b
  go_wp2_with fail
  refine S5.out.mono ?_
  rintro e w6 ⟨rfl, m, rfl⟩
  have HB6 := hidden (below_drewN HB5.out m)
  generalize w5.drewN m = w6 at *
  have S6 := hidden (hasF c (H0.out.on HB6.out) a)
  clear HB5 S5
  go_wp2_with fail
  refine S6.out.mono ?_
  rintro e w7 ⟨rfl, hb7⟩
  have HB7 := hidden (HB6.out.trans (hb7.mono HB6.out.size))
  have S7 := hidden (refSF c (H0.out.on HB7.out))
  clear hb7 HB6 S6
  go_wp2_with fail
  refine S7.out.mono ?_
  rintro e w8 ⟨A8, c8, l8, rfl, h8, rfl, hb8⟩
  have HB8 := hidden (HB7.out.trans (hb8.mono HB7.out.size))
  have S8 := hidden (rhasF c8 h8 a)
  clear h8 hb8 HB7 S7
  go_wp2_with fail
  refine S8.out.mono ?_
  rintro e w9 ⟨rfl, hb9⟩
  have HB9 := hidden (HB8.out.trans (hb9.mono HB8.out.size))
  have S9 := hidden (coversF c (H0.out.on HB9.out) a b)
  have hbb : (hasP l8 a == hasP l8 a) = true := beq_self_eq_true _
  clear hb9 HB8 S8
  go_wp2_with fail
  refine S9.out.mono ?_
  rintro e w10 ⟨⟨R1, rfl, hR1⟩, hb10⟩
  have HB10 := hidden (HB9.out.trans (hb10.mono HB9.out.size))
  have S10 := hidden (refSF c (H0.out.on HB10.out))
  have HR1 := hidden hR1
  clear hb10 HB9 S9 hR1
  go_wp2_with fail
  refine S10.out.mono ?_
  rintro e w11 ⟨A11, c11, l11, rfl, h11, rfl, hb11⟩
  have HB11 := hidden (HB10.out.trans (hb11.mono HB10.out.size))
  have S11 := hidden (rcoversF c11 h11 a b)
  clear h11 hb11 HB10 S10
  go_wp2_with fail
  refine S11.out.mono ?_
  rintro e w12 ⟨⟨R2, rfl, hR2⟩, hb12⟩
  obtain rfl : R2 = R1 := hR2.uniq HR1.out fun _ => rfl
  have HB12 := hidden (HB11.out.trans (hb12.mono HB11.out.size))
  have hbc : (coversB R2 a b == coversB R2 a b) = true := beq_self_eq_true _
  clear hb12 HB11 S11 hR2
  go_wp2_with fail
  go_ret
  exact ⟨rfl, HB12.out⟩

theorem spansOf_walk {H : Type} (enc : TypeId × Value → H) : LawWalk enc Try.prog 4 Try.f4 (fun _ => True) := by
  intro W base args ds p hval hA hlt hsz _
  rw [Try.params4] at hval hA hsz
  obtain ⟨v0, vs0, d0, ds0, p0, q0, hargs, rfl, rfl, h0, r0⟩ := trodAll_cons hA
  obtain ⟨v1, vs1, d1, ds1, p1, q1, rfl, rfl, rfl, h1, r1⟩ := trodAll_cons r0
  obtain ⟨v2, vs2, d2, ds2, p2, q2, rfl, rfl, rfl, h2, r2⟩ := trodAll_cons r1
  obtain ⟨rfl, rfl, rfl⟩ := trodAll_nil r2
  obtain rfl : args = #[v0, v1, v2] := by cases args; simp_all
  obtain ⟨a, rfl, ha⟩ := open_arg_int Try.underlying2 (hval 1 2 v1 rfl rfl) h1
  obtain ⟨b, rfl, hb⟩ := open_arg_int Try.underlying2 (hval 2 2 v2 rfl rfl) h2
  obtain ⟨s, rfl, hs⟩ := open_spans (hval 0 30 v0 rfl rfl) h0 (arg_fits (b := Rows.uptoBulkAll [d0, d1, d2]) (j := 0) rfl rfl (fun x hx => hlt x (by simp [hx])) hsz (Nat.le_refl _))
  exact spansOf_any s.A s.n s.c s.l a b W hs

namespace spansOf
set_option maxRecDepth 100000 in
theorem lifted (os : Os) (started : os.Started) (H : Type) (enc : TypeId × Value → H) :
    ReturnsInHanded {} Try.checked os 4 .any (Rows.spansOfSpec.pre6 enc Try.prog Try.f4 Rows.spansOfRow.domain false) (Rows.spansOfSpec.post enc Try.prog Try.f4 false true false false) :=
  law_said (C := Try.checked) (s := Rows.spansOfSpec) (tb := 4) own_prog started (by kernel_rfl) Try.func4
    (ChangeSpec.witness6 (enc := enc) (C := Try.checked) false ⟨#[], #[.slice none 0 0, .int .i64 0, .int .i64 0], []⟩ 8 (by kernel_rfl) (by kernel_rfl) (by kernel_rfl) (by kernel_rfl))
    laidOut (by kernel_rfl) rfl Try.underlying4 ⟨rfl, fun H ds h => match ds, h with | [_, _, _], _ => ⟨rfl, rfl, rfl⟩⟩ (spansOf_walk enc)

theorem proved : Rows.SpansOfSaid :=
  OpenClaim.holds_of_wide 4 Try.f4 rfl rfl rfl rfl rfl rfl rfl ⟨rfl, rfl, rfl, rfl, rfl⟩ rfl rfl rfl rfl rfl (by kernel_rfl) Try.func4 (by kernel_rfl)
    (of_decide_eq_true (by kernel_rfl)) (by unfold Func.isWrapper; first | (rw [if_pos (by decide +kernel)]; kernel_rfl) | (rw [if_neg (by decide +kernel)]; exact ⟨rfl, rfl⟩))
    (fun os started H enc _ => lifted os started H enc)
#print axioms proved
end spansOf

end Go.Proofs.Ytjklonfheenfbaa
