/- MergeClips: what of any series lies between two times is the document's. No condition. -/
import Derived.Test.YtohocdbneopooaaMrgWakes
import Derived.Test.YtohocdbneopooaaArgs
namespace Go.Proofs.Ytohocdbneopooaa
set_option maxRecDepth 100000
open Go.RowKit Go.WideShapes Go.ChangeShapes

set_option maxHeartbeats 6400000 in
theorem mergeClips_any (A : Option Addr) (n c : Nat) (ss : List Ser) (a b : Int) (w : World) (h : SF w A n ss) :
    Calls Try.prog 8 #[.slice A n c, .int .i64 a, .int .i64 b] w fun e w' => e = .returned (.bool true) ∧ Below w.heap.size w w' := by
  have H0 := hidden h
  have S1 := hidden (refF_law A n c ss w h)
  clear h
  go_enter Try.func8, Try.ntmps8
  go_wp2_with fail
  refine S1.out.mono ?_
  rintro e w1 ⟨A1, c1, L1, rfl, h1, k1, hb1⟩
  have HB1 := hidden hb1
  have H1 := hidden h1
  have K1 := hidden k1
  clear h1 k1 hb1 S1
  go_wp2_with fail
  refine (mrgWakes_any _).mono ?_
  rintro e w2 ⟨rfl, hb2⟩
  have HB2 := hidden (HB1.out.trans (hb2.mono HB1.out.size))
  have H2 := hidden (H1.out.on hb2)
  have S2 := hidden (clipF_law A n c ss a b w2 (H0.out.on HB2.out))
  clear hb2 HB1 H1
  go_wp2_with fail
  refine S2.out.mono ?_
  rintro e w3 ⟨A3, c3, L3, rfl, h3, k3, hb3, _⟩
  have HB3 := hidden (HB2.out.trans (hb3.mono HB2.out.size))
  have H3 := hidden h3
  have K3 := hidden k3
  have H2b := hidden (H2.out.on hb3)
  have S3 := hidden (rclipF_law A1 n c1 L1 a b w3 H2b.out)
  clear h3 k3 hb3 S2 H2 HB2
  go_wp2_with fail
  refine S3.out.mono ?_
  rintro e w4 ⟨A4, c4, L4, rfl, h4, k4, hb4, _⟩
  have HB4 := hidden (HB3.out.trans (hb4.mono HB3.out.size))
  have H2c := hidden (H2b.out.on hb4)
  have hk : L3.map Ser.sk = L4.map Ser.sk := by rw [K3.out, k4, clipAll_sk, clipAll_sk, K1.out]
  have S4 := hidden (sameF_law A3 A4 L3.length L4.length c3 c4 L3 L4 w4 (H3.out.on hb4) h4 hk)
  clear h4 k4 hb4 hk S3 H3 K3 H2b HB3
  go_wp2_with fail
  refine S4.out.mono ?_
  rintro e w5 ⟨rfl, hb5⟩
  have HB5 := hidden (HB4.out.trans (hb5.mono HB4.out.size))
  have S5 := hidden (sameF_law A A1 n n c c1 ss L1 w5 (H0.out.on HB5.out) (H2c.out.on hb5) K1.out.symm)
  clear hb5 S4 HB4 H2c
  go_wp2_with fail
  refine S5.out.mono ?_
  rintro e w6 ⟨rfl, hb6⟩
  have HB6 := hidden (HB5.out.trans (hb6.mono HB5.out.size))
  clear hb6 S5
  go_wp2_with fail
  go_ret
  exact ⟨rfl, HB6.out⟩

theorem sf_of_arg {w : World} {s : Sl Ser} (hat : s.At w w.heap.size 3 Ser.cells) (hok : ∀ x ∈ s.l, x.At w w.heap.size ∧ x.Fit) (hn : s.n * Try.prog.bytesOf 46 ≤ reachBytes) : SF w s.A s.n s.l :=
  ⟨hat.2.2, hat.2.1, fun x hx => (hok x hx).1, fun x hx => (hok x hx).2, hn⟩

theorem mergeClips_walk {H : Type} (enc : TypeId × Value → H) : LawWalk enc Try.prog 8 Try.f8 (fun _ => True) := by
  intro W base args ds p hval hA hlt hsz _
  rw [Try.params8] at hval hA hsz
  obtain ⟨v0, vs0, d0, ds0, p0, q0, hargs, rfl, rfl, h0, r0⟩ := trodAll_cons hA
  obtain ⟨v1, vs1, d1, ds1, p1, q1, rfl, rfl, rfl, h1, r1⟩ := trodAll_cons r0
  obtain ⟨v2, vs2, d2, ds2, p2, q2, rfl, rfl, rfl, h2, r2⟩ := trodAll_cons r1
  obtain ⟨rfl, rfl, rfl⟩ := trodAll_nil r2
  obtain rfl : args = #[v0, v1, v2] := by cases args; simp_all
  obtain ⟨s, rfl, hs, hok, hn, _⟩ := open_arg_slice (k := 3) (f := Ser.cells) Try.underlying24 (by kernel_rfl) (by decide) (fun _ => rfl) opens_ser (hval 0 24 v0 rfl rfl) h0 (arg_fits (b := Rows.uptoBulkAll [d0, d1, d2]) (j := 0) rfl rfl (fun x hx => hlt x (by simp [hx])) hsz (Nat.le_refl _))
  obtain ⟨a, rfl, _⟩ := open_arg_int Try.underlying2 (hval 1 2 v1 rfl rfl) h1
  obtain ⟨b, rfl, _⟩ := open_arg_int Try.underlying2 (hval 2 2 v2 rfl rfl) h2
  exact mergeClips_any s.A s.n s.c s.l a b W (sf_of_arg hs (fun x hx => ⟨(hok x hx).1, (hok x hx).2.fit⟩) hn)

namespace mergeClips
set_option maxRecDepth 100000 in
theorem lifted (os : Os) (started : os.Started) (H : Type) (enc : TypeId × Value → H) :
    ReturnsInHanded {} Try.checked os 8 .any (Rows.mergeClipsSpec.pre6 enc Try.prog Try.f8 Rows.mergeClipsRow.domain false) (Rows.mergeClipsSpec.post enc Try.prog Try.f8 false true false false) :=
  law_said (C := Try.checked) (s := Rows.mergeClipsSpec) (tb := 4) own_prog started (by kernel_rfl) Try.func8
    (ChangeSpec.witness6 (enc := enc) (C := Try.checked) false ⟨#[], #[.slice none 0 0, .int .i64 0, .int .i64 0], []⟩ 8 (by kernel_rfl) (by kernel_rfl) (by kernel_rfl) (by kernel_rfl))
    laidOut (by kernel_rfl) rfl Try.underlying4 ⟨rfl, fun H ds h => match ds, h with | [_, _, _], _ => ⟨rfl, rfl, rfl⟩⟩ (mergeClips_walk enc)

theorem proved : Rows.MergeClipsSaid :=
  OpenClaim.holds_of_wide 8 Try.f8 rfl rfl rfl rfl rfl rfl rfl ⟨rfl, rfl, rfl, rfl, rfl⟩ rfl rfl rfl rfl rfl (by kernel_rfl) Try.func8 (by kernel_rfl)
    (of_decide_eq_true (by kernel_rfl)) (by unfold Func.isWrapper; first | (rw [if_pos (by decide +kernel)]; kernel_rfl) | (rw [if_neg (by decide +kernel)]; exact ⟨rfl, rfl⟩))
    (fun os started H enc _ => lifted os started H enc)
#print axioms proved
end mergeClips

end Go.Proofs.Ytohocdbneopooaa
