/- almanacref21.Strip outside of the kinds, and as the laws call it: what it returns. Condition: the lists are within the reach. MergeStrips: what of any series was not taken away is the document's. No condition. -/
import Derived.Test.YtohocdbneopooaaRStrip
import Derived.Test.YtohocdbneopooaaMrgLaw
import Derived.Test.YtohocdbneopooaaMrgClips
import Derived.Test.YtohocdbneopooaaGons
namespace Go.Proofs.Ytohocdbneopooaa
set_option maxRecDepth 100000
open Go.RowKit Go.Shelf

set_option maxHeartbeats 1600000 in
theorem rstripN_any (res : Int) (A : Option Addr) (n c : Nat) (_ss : List Ser) (G : Option Addr) (gn gc : Nat) (w : World) (h : res < 0 ∨ 3 ≤ res) :
    Calls Try.prog 32 #[.int .i64 res, .slice A n c, .slice G gn gc] w (MR.RKeptRes w []) := by
  rcases h with h | h
  · go_enter Try.func32, Try.ntmps32
    go_wp2_with fail
    go_ret
    exact ⟨_, [], rfl, MR.RKSt.nil w⟩
  · have h2 : ¬ res < 0 := by omega
    go_enter Try.func32, Try.ntmps32
    go_wp2_with fail
    go_ret
    exact ⟨_, [], rfl, MR.RKSt.nil w⟩
theorem rstrip_any (res : Int) (A : Option Addr) (n c : Nat) (ss : List Ser) (G : Option Addr) (gn gc : Nat) (gones : List Gon) (w : World) (h : SF w A n ss) (hG : GonsAt w G gn gones) :
    Calls Try.prog 32 #[.int .i64 res, .slice A n c, .slice G gn gc] w (MR.RKeptRes w (stripAll res gones ss)) := by
  unfold stripAll
  by_cases hr : res < 0 ∨ 3 ≤ res
  · rw [if_pos hr]
    exact rstripN_any res A n c ss G gn gc w hr
  · rw [if_neg hr]
    by_cases h0 : res = 0
    · exact MR.rstrip0_any res A n c ss G gn gc gones w h.row h.len h.at_ h.fit h.few hG h0
    · exact MR.rstrip1_any res A n c ss G gn gc gones w h.row h.len h.at_ h.fit h.few hG (by omega) (by omega)
theorem rstripF_law (res : Int) (A : Option Addr) (n c : Nat) (ss : List Ser) (G : Option Addr) (gn gc : Nat) (gones : List Gon) (w : World) (h : SF w A n ss) (hG : GonsAt w G gn gones) :
    Calls Try.prog 32 #[.int .i64 res, .slice A n c, .slice G gn gc] w (KResF w (stripAll res gones ss)) := by
  refine (rstrip_any res A n c ss G gn gc gones w h hG).mono ?_
  rintro e w' ⟨v, L, rfl, hst⟩
  have hl := strip_count hst.tells
  obtain ⟨A', c', rfl, hcap, hr⟩ := own_shape hst.out.row
  exact ⟨A', c', L, rfl, ⟨hr, rfl, fun x hx => (hst.out.own x hx).at_, hst.small, by have := h.few; have := h.len; omega⟩, hst.tells, hst.below, hcap⟩
end Go.Proofs.Ytohocdbneopooaa

namespace Go.Proofs.Ytohocdbneopooaa
set_option maxRecDepth 100000
open Go.RowKit Go.WideShapes Go.ChangeShapes

theorem gons_shape {w w' : World} {base B n : Nat} {e : TypeId} {v : Value} {gs L : List Gon} (h : w'.ownsRow base e 4 v n (gonCells L)) (hA : GonsAs w' v gs L) (hl : gs.length = n) (hf : ∀ x ∈ gs, x.At w B ∧ x.Fit) (hn : n ≤ 4611686018427387904) :
    ∃ A c, v = .slice A n c ∧ GonsAt w' A n L := by
  obtain ⟨A, c, rfl, hc, hr⟩ := own_shape h
  have hll : L.length = n := by have := congrArg List.length hA.same; simpa [hl] using this
  refine ⟨A, c, rfl, hr, hll, hA.at_, hn, fun y hy => ?_⟩
  have hm : y.gk ∈ gs.map Gon.gk := by rw [← hA.same]; exact List.mem_map_of_mem hy
  obtain ⟨x, hx, hxy⟩ := List.mem_map.1 hm
  simp only [Gon.gk, Prod.mk.injEq] at hxy
  obtain ⟨e0, e1, e2, e3⟩ := hxy
  have ya := hA.at_ y hy
  obtain ⟨xa, f0, f1, f2, f3⟩ := hf x hx
  have := ya.lab.2.1; have := ya.s0.2.1; have := ya.s1.2.1; have := ya.s2.2.1
  have := xa.lab.2.1; have := xa.s0.2.1; have := xa.s1.2.1; have := xa.s2.2.1
  rw [e0] at *
  rw [e1] at *
  rw [e2] at *
  rw [e3] at *
  omega
theorem stripSK_congr {gs L : List Gon} (h : L.map Gon.gk = gs.map Gon.gk) (res : Int) (l : List SK) : stripSK res L l = stripSK res gs l := by
  unfold stripSK
  simp only [tk_congr h]

set_option maxHeartbeats 6400000 in
theorem mergeStrips_any (res : Int) (A : Option Addr) (n c : Nat) (ss : List Ser) (G : Option Addr) (gn gc : Nat) (gs : List Gon) (w : World) (h : SF w A n ss) (hG : GonsAt w G gn gs) (hF : ∀ x ∈ gs, x.Fit) (hgn : gn * 96 ≤ 140737488351232) :
    Calls Try.prog 9 #[.int .i64 res, .slice A n c, .slice G gn gc] w fun e w' => e = .returned (.bool true) ∧ Below w.heap.size w w' := by
  have H0 := hidden h
  have G0 := hidden hG
  have HFF := hidden hF
  have S1 := hidden (refF_law A n c ss w h)
  clear h hG hF
  go_enter Try.func9, Try.ntmps9
  go_wp2_with fail
  refine S1.out.mono ?_
  rintro e w1 ⟨A1, c1, L1, rfl, h1, k1, hb1⟩
  have HB1 := hidden hb1
  have H1 := hidden h1
  have K1 := hidden k1
  clear h1 k1 hb1 S1
  go_wp2_with fail
  refine (mrgWakes_any _).mono ?_
  rintro e w2 ⟨rfl, hb2⟩
  have HB2 := hidden (HB1.out.trans (hb2.mono HB1.out.size))
  have H2 := hidden (H1.out.on hb2)
  have S2 := hidden (stripF_law res A n c ss G gn gc gs w2 (H0.out.on HB2.out) (G0.out.on HB2.out))
  clear hb2 HB1 H1
  go_wp2_with fail
  refine S2.out.mono ?_
  rintro e w3 ⟨A3, c3, L3, rfl, h3, k3, hb3, _⟩
  have HB3 := hidden (HB2.out.trans (hb3.mono HB2.out.size))
  have H3 := hidden h3
  have K3 := hidden k3
  have H2b := hidden (H2.out.on hb3)
  have S3 := hidden (gonesRef_any G gn gc gs w3 (G0.out.on HB3.out) HFF.out hgn)
  clear h3 k3 hb3 S2 H2 HB2
  go_wp2_with fail
  refine S3.out.mono ?_
  rintro e w4 ⟨v4, LG, rfl, ho4, hA4, hb4⟩
  obtain ⟨G4, gc4, rfl, hG4⟩ := gons_shape ho4 hA4 G0.out.len (fun x hx => ⟨G0.out.at_ x hx, HFF.out x hx⟩) G0.out.few
  have HB4 := hidden (HB3.out.trans (hb4.mono HB3.out.size))
  have H2c := hidden (H2b.out.on hb4)
  have H3c := hidden (H3.out.on hb4)
  have KG := hidden hA4.same
  have S4 := hidden (rstripF_law res A1 n c1 L1 G4 gn gc4 LG w4 H2c.out hG4)
  clear ho4 hA4 hb4 hG4 S3 H3 H2b HB3
  go_wp2_with fail
  refine S4.out.mono ?_
  rintro e w5 ⟨A5, c5, L5, rfl, h5, k5, hb5, _⟩
  have HB5 := hidden (HB4.out.trans (hb5.mono HB4.out.size))
  have H2d := hidden (H2c.out.on hb5)
  have hk : L3.map Ser.sk = L5.map Ser.sk := by rw [K3.out, k5, stripAll_sk, stripAll_sk, K1.out, stripSK_congr KG.out]
  have S5 := hidden (sameF_law A3 A5 L3.length L5.length c3 c5 L3 L5 w5 (H3c.out.on hb5) h5 hk)
  clear h5 k5 hb5 hk S4 H3c K3 H2c HB4
  go_wp2_with fail
  refine S5.out.mono ?_
  rintro e w6 ⟨rfl, hb6⟩
  have HB6 := hidden (HB5.out.trans (hb6.mono HB5.out.size))
  have S6 := hidden (sameF_law A A1 n n c c1 ss L1 w6 (H0.out.on HB6.out) (H2d.out.on hb6) K1.out.symm)
  clear hb6 S5 HB5 H2d
  go_wp2_with fail
  refine S6.out.mono ?_
  rintro e w7 ⟨rfl, hb7⟩
  have HB7 := hidden (HB6.out.trans (hb7.mono HB6.out.size))
  clear hb7 S6
  go_wp2_with fail
  go_ret
  exact ⟨rfl, HB7.out⟩

theorem mergeStrips_walk {H : Type} (enc : TypeId × Value → H) : LawWalk enc Try.prog 9 Try.f9 (fun _ => True) := by
  intro W base args ds p hval hA hlt hsz _
  rw [Try.params9] at hval hA hsz
  obtain ⟨v0, vs0, d0, ds0, p0, q0, hargs, rfl, rfl, h0, r0⟩ := trodAll_cons hA
  obtain ⟨v1, vs1, d1, ds1, p1, q1, rfl, rfl, rfl, h1, r1⟩ := trodAll_cons r0
  obtain ⟨v2, vs2, d2, ds2, p2, q2, rfl, rfl, rfl, h2, r2⟩ := trodAll_cons r1
  obtain ⟨rfl, rfl, rfl⟩ := trodAll_nil r2
  obtain rfl : args = #[v0, v1, v2] := by cases args; simp_all
  obtain ⟨res, rfl, _⟩ := open_arg_int Try.underlying3 (hval 0 3 v0 rfl rfl) h0
  obtain ⟨s, rfl, hs, hok, hn, _⟩ := open_arg_slice (k := 3) (f := Ser.cells) Try.underlying24 (by kernel_rfl) (by decide) (fun _ => rfl) opens_ser (hval 1 24 v1 rfl rfl) h1 (arg_fits (b := Rows.uptoBulkAll [d0, d1, d2]) (j := 1) rfl rfl (fun x hx => hlt x (by simp [hx])) hsz (Nat.le_refl _))
  obtain ⟨g, rfl, hg, hgok, hgn, _⟩ := open_arg_slice (k := 4) (f := Gon.cells) Try.underlying60 (by kernel_rfl) (by decide) (fun _ => rfl) opens_gon (hval 2 60 v2 rfl rfl) h2 (arg_fits (b := Rows.uptoBulkAll [d0, d1, d2]) (j := 2) rfl rfl (fun x hx => hlt x (by simp [hx])) hsz (Nat.le_refl _))
  rw [show Try.prog.bytesOf 123 = 96 from by kernel_rfl] at hgn
  simp only [reachBytes] at hgn
  refine mergeStrips_any res s.A s.n s.c s.l g.A g.n g.c g.l W (sf_of_arg hs (fun x hx => ⟨(hok x hx).1, (hok x hx).2.fit⟩) hn) ⟨hg.2.2, hg.2.1, fun x hx => (hgok x hx).1, by omega, fun x hx => ?_⟩ (fun x hx => (hgok x hx).2) hgn
  obtain ⟨_, f0, f1, f2, f3⟩ := hgok x hx
  omega

namespace mergeStrips
set_option maxRecDepth 100000 in
theorem lifted (os : Os) (started : os.Started) (H : Type) (enc : TypeId × Value → H) :
    ReturnsInHanded {} Try.checked os 9 .any (Rows.mergeStripsSpec.pre6 enc Try.prog Try.f9 Rows.mergeStripsRow.domain false) (Rows.mergeStripsSpec.post enc Try.prog Try.f9 false true false false) :=
  law_said (C := Try.checked) (s := Rows.mergeStripsSpec) (tb := 4) own_prog started (by kernel_rfl) Try.func9
    (ChangeSpec.witness6 (enc := enc) (C := Try.checked) false ⟨#[], #[.int .i64 0, .slice none 0 0, .slice none 0 0], []⟩ 8 (by kernel_rfl) (by kernel_rfl) (by kernel_rfl) (by kernel_rfl))
    laidOut (by kernel_rfl) rfl Try.underlying4 ⟨rfl, fun H ds h => match ds, h with | [_, _, _], _ => ⟨rfl, rfl, rfl⟩⟩ (mergeStrips_walk enc)

theorem proved : Rows.MergeStripsSaid :=
  OpenClaim.holds_of_wide 9 Try.f9 rfl rfl rfl rfl rfl rfl rfl ⟨rfl, rfl, rfl, rfl, rfl⟩ rfl rfl rfl rfl rfl (by kernel_rfl) Try.func9 (by kernel_rfl)
    (of_decide_eq_true (by kernel_rfl)) (by unfold Func.isWrapper; first | (rw [if_pos (by decide +kernel)]; kernel_rfl) | (rw [if_neg (by decide +kernel)]; exact ⟨rfl, rfl⟩))
    (fun os started H enc _ => lifted os started H enc)
#print axioms proved
end mergeStrips

end Go.Proofs.Ytohocdbneopooaa
