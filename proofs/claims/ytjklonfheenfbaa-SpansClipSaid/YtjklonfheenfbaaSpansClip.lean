/- SpansClip: what of any list lies between two times, and the windows that it meets, are the document's. No condition. -/
import Derived.Test.YtjklonfheenfbaaSpnLaw
namespace Go.Proofs.Ytjklonfheenfbaa
set_option maxRecDepth 100000
open Go.RowKit Go.WideShapes Go.ChangeShapes Go.Shelf

set_option maxHeartbeats 6400000 in
theorem spansClip_any (A : Option Addr) (n c : Nat) (l : List Spn) (a b : Int) (w : World) (h : SpF w A n l) (ha : -9223372036854775808 ≤ a ∧ a < 9223372036854775808) (hb : -9223372036854775808 ≤ b ∧ b < 9223372036854775808) :
    Calls Try.prog 7 #[.slice A n c, .int .i64 a, .int .i64 b] w fun e w' => e = .returned (.bool true) ∧ Below w.heap.size w w' := by
  have H0 := hidden h
  clear h
  go_enter Try.func7, Try.ntmps7
  go_wp2_with fail
  refine (spnWakes_any _).mono ?_
  rintro e w1 ⟨rfl, hb1⟩
  have HB1 := hidden hb1
  have S1 := hidden (twinF c (H0.out.on hb1))
  clear hb1
  go_wp2_with fail
  refine S1.out.mono ?_
  rintro e w2 ⟨A2, c2, l2, rfl, h2, rfl, hb2⟩
  have HB2 := hidden (HB1.out.trans (hb2.mono HB1.out.size))
  have S2 := hidden (clipF c2 h2 a b ha hb)
  clear h2 hb2 HB1 S1
  go_wp2_with fail
  refine S2.out.mono ?_
  rintro e w3 ⟨A3, c3, R, rfl, h3, hR, hb3⟩
  have HB3 := hidden (HB2.out.trans (hb3.mono HB2.out.size))
  have H3 := hidden h3
  have HR := hidden hR
  have S3 := hidden (refSF c (H0.out.on HB3.out))
  clear h3 hR hb3 HB2 S2
  go_wp2_with fail
  refine S3.out.mono ?_
  rintro e w4 ⟨A4, c4, l4, rfl, h4, rfl, hb4⟩
  have HB4 := hidden (HB3.out.trans (hb4.mono HB3.out.size))
  have H3b := hidden (H3.out.on hb4)
  have S4 := hidden (rclipF c4 h4 a b ha hb)
  clear h4 hb4 HB3 S3 H3
  go_wp2_with fail
  refine S4.out.mono ?_
  rintro e w5 ⟨A5, c5, R5, rfl, h5, hR5, hb5⟩
  obtain rfl : R5 = R := by
    obtain ⟨X, hX, rfl⟩ := hR5
    obtain ⟨Y, hY, rfl⟩ := HR.out
    rw [hX.uniq hY fun _ => rfl]
  have HB5 := hidden (HB4.out.trans (hb5.mono HB4.out.size))
  have S5 := hidden (TwnSpn.alike_yes A3 A5 _ c3 c5 _ w5 (H3b.out.on hb5).row h5.row h5.len (by have := h5.fit; omega))
  clear h5 hR5 hb5 HB4 S4 H3b
  go_wp2_with fail
  refine S5.out.mono ?_
  rintro e w6 ⟨rfl, m, rfl⟩
  have HB6 := hidden (below_drewN HB5.out m)
  generalize w5.drewN m = w6 at *
  have S6 := hidden (twinF c (H0.out.on HB6.out))
  clear HB5 S5
  go_wp2_with fail
  refine S6.out.mono ?_
  rintro e w7 ⟨A7, c7, l7, rfl, h7, rfl, hb7⟩
  have HB7 := hidden (HB6.out.trans (hb7.mono HB6.out.size))
  have S7 := hidden (widerF c7 h7 b)
  clear h7 hb7 HB6 S6
  go_wp2_with fail
  refine S7.out.mono ?_
  rintro e w8 ⟨A8, c8, R8, rfl, h8, hR8, hb8⟩
  have HB8 := hidden (HB7.out.trans (hb8.mono HB7.out.size))
  have H8 := hidden h8
  have HR8 := hidden hR8
  have S8 := hidden (refSF c (H0.out.on HB8.out))
  clear h8 hR8 hb8 HB7 S7
  go_wp2_with fail
  refine S8.out.mono ?_
  rintro e w9 ⟨A9, c9, l9, rfl, h9, rfl, hb9⟩
  have HB9 := hidden (HB8.out.trans (hb9.mono HB8.out.size))
  have H8b := hidden (H8.out.on hb9)
  have S9 := hidden (rwiderF c9 h9 b)
  clear h9 hb9 HB8 S8 H8
  go_wp2_with fail
  refine S9.out.mono ?_
  rintro e w10 ⟨A10, c10, R10, rfl, h10, hR10, hb10⟩
  obtain rfl : R10 = R8 := hR10.uniq HR8.out
  have HB10 := hidden (HB9.out.trans (hb10.mono HB9.out.size))
  have S10 := hidden (TwnSpn.alike_yes A8 A10 _ c8 c10 _ w10 (H8b.out.on hb10).row h10.row h10.len (by have := h10.fit; omega))
  clear h10 hR10 hb10 HB9 S9 H8b
  go_wp2_with fail
  refine S10.out.mono ?_
  rintro e w11 ⟨rfl, m', rfl⟩
  have HB11 := hidden (below_drewN HB10.out m')
  generalize w10.drewN m' = w11 at *
  clear HB10 S10
  go_wp2_with fail
  go_ret
  exact ⟨rfl, HB11.out⟩

theorem spansClip_walk {H : Type} (enc : TypeId × Value → H) : LawWalk enc Try.prog 7 Try.f7 (fun _ => True) := by
  intro W base args ds p hval hA hlt hsz _
  rw [Try.params7] at hval hA hsz
  obtain ⟨v0, vs0, d0, ds0, p0, q0, hargs, rfl, rfl, h0, r0⟩ := trodAll_cons hA
  obtain ⟨v1, vs1, d1, ds1, p1, q1, rfl, rfl, rfl, h1, r1⟩ := trodAll_cons r0
  obtain ⟨v2, vs2, d2, ds2, p2, q2, rfl, rfl, rfl, h2, r2⟩ := trodAll_cons r1
  obtain ⟨rfl, rfl, rfl⟩ := trodAll_nil r2
  obtain rfl : args = #[v0, v1, v2] := by cases args; simp_all
  obtain ⟨a, rfl, ha⟩ := open_arg_int Try.underlying2 (hval 1 2 v1 rfl rfl) h1
  obtain ⟨b, rfl, hb⟩ := open_arg_int Try.underlying2 (hval 2 2 v2 rfl rfl) h2
  obtain ⟨s, rfl, hs⟩ := open_spans (hval 0 30 v0 rfl rfl) h0 (arg_fits (b := Rows.uptoBulkAll [d0, d1, d2]) (j := 0) rfl rfl (fun x hx => hlt x (by simp [hx])) hsz (Nat.le_refl _))
  exact spansClip_any s.A s.n s.c s.l a b W hs (wf_i64 ha) (wf_i64 hb)

namespace spansClip
set_option maxRecDepth 100000 in
theorem lifted (os : Os) (started : os.Started) (H : Type) (enc : TypeId × Value → H) :
    ReturnsInHanded {} Try.checked os 7 .any (Rows.spansClipSpec.pre6 enc Try.prog Try.f7 Rows.spansClipRow.domain false) (Rows.spansClipSpec.post enc Try.prog Try.f7 false true false false) :=
  law_said (C := Try.checked) (s := Rows.spansClipSpec) (tb := 4) own_prog started (by kernel_rfl) Try.func7
    (ChangeSpec.witness6 (enc := enc) (C := Try.checked) false ⟨#[], #[.slice none 0 0, .int .i64 0, .int .i64 0], []⟩ 8 (by kernel_rfl) (by kernel_rfl) (by kernel_rfl) (by kernel_rfl))
    laidOut (by kernel_rfl) rfl Try.underlying4 ⟨rfl, fun H ds h => match ds, h with | [_, _, _], _ => ⟨rfl, rfl, rfl⟩⟩ (spansClip_walk enc)

theorem proved : Rows.SpansClipSaid :=
  OpenClaim.holds_of_wide 7 Try.f7 rfl rfl rfl rfl rfl rfl rfl ⟨rfl, rfl, rfl, rfl, rfl⟩ rfl rfl rfl rfl rfl (by kernel_rfl) Try.func7 (by kernel_rfl)
    (of_decide_eq_true (by kernel_rfl)) (by unfold Func.isWrapper; first | (rw [if_pos (by decide +kernel)]; kernel_rfl) | (rw [if_neg (by decide +kernel)]; exact ⟨rfl, rfl⟩))
    (fun os started H enc _ => lifted os started H enc)
#print axioms proved
end spansClip

end Go.Proofs.Ytjklonfheenfbaa
