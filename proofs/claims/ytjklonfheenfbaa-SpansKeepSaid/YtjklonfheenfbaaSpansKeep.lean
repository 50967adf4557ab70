/- SpansKeep: the samples that are left are the document's, in their order. No condition. -/
import Derived.Test.YtjklonfheenfbaaSpnLaw
import Derived.Test.YtjklonfheenfbaaSpnKeep
import Derived.Laws.StructEq
namespace Go.Proofs.Ytjklonfheenfbaa
set_option maxRecDepth 100000
open Go.RowKit Go.WideShapes Go.ChangeShapes Go.Shelf

structure SmF (w : World) (A : Option Addr) (n : Nat) (l : List Smp) : Prop where
  row : Row w w.heap.size 2 A n (l.flatMap Smp.cells)
  len : l.length = n
  fit : n * 16 ≤ 140737488351232
theorem SmF.on {w w' : World} {A : Option Addr} {n : Nat} {l : List Smp} (h : SmF w A n l) (hb : Below w.heap.size w w') : SmF w' A n l := ⟨(h.row.below hb).more hb.size, h.len, h.fit⟩
theorem neq_smp (x : Smp) (w : World) : (binOp .neq 45 (.agg #[.int .i64 x.t, .int .u64 ((x.v : Nat) : Int)]) (.agg #[.int .i64 x.t, .int .u64 ((x.v : Nat) : Int)])).run Try.prog w = .ok (.bool false) w := by
  have h1 : Try.prog.stoodInHeld 45 = false := by kernel_rfl
  rw [run_neq_struct, run_equalIn_agg _ _ _ _ _ (by simp [Program.fieldsOf]) h1]
  simp [Op.eqFields, go_sem]
theorem keepP_of {l R : List Spn} (h : OfRes l R) (s : List Smp) : keepP R s = keepP l s := by
  unfold keepP
  congr 1
  funext x
  rw [h.has]

set_option maxHeartbeats 6400000 in
theorem spansKeep_any (A : Option Addr) (n c : Nat) (l : List Spn) (A0 : Option Addr) (m c0 : Nat) (s : List Smp) (w : World) (h : SpF w A n l) (h0 : SmF w A0 m s) :
    Calls Try.prog 5 #[.slice A n c, .slice A0 m c0] w fun e w' => e = .returned (.bool true) ∧ Below w.heap.size w w' := by
  obtain ⟨i0, hi, hz0, hz1, hz2⟩ := info_parts rsinfo
  obtain ⟨j0, gi, gz0, gz1, gz2⟩ := info_parts ClnSmp.info
  have H := hidden h
  have H0 := hidden h0
  have hfit := h0.fit
  clear h h0
  go_enter Try.func5, Try.ntmps5
  go_wp2_with fail
  go_loopw [5, 15] (fun v i wr => ∃ k : Nat, k ≤ m ∧ i = .int .i64 k ∧ wr.ownsRow w.heap.size 46 2 v k ((s.take k).flatMap Smp.cells) ∧ Below w.heap.size w wr) (fun _ i _ => m - (intOf i).toNat)
  case atStart => exact ⟨0, Nat.zero_le _, rfl, World.ownsRow_nil _ _ _ _, Below.refl _ _⟩
  case round =>
    obtain ⟨k, hk1, rfl, hown, hb⟩ := hrel
    by_cases hlt : k < m
    · obtain ⟨gs, o, x, rfl, hgs, hx, hcl⟩ := row_at smpK (H0.out.row.below hb) H0.out.len k hlt
      have d0 : wr.cell? ⟨gs, o + k * 2, none⟩ = some (.int .i64 x.t) := hcl 0 (by omega)
      have d1 : wr.cell? ⟨gs, o + k * 2 + 1, none⟩ = some (.int .u64 ((x.v : Nat) : Int)) := hcl 1 (by omega)
      have hT := hidden (take_snoc? hx)
      have hbs := hb.size
      clear hx hcl
      have hfr := Row.fresh (wr.alloc (Obj.cells #[.int .i64 x.t, .int .u64 ((x.v : Nat) : Int)] 45)) 46 2 1 [.int .i64 x.t, .int .u64 ((x.v : Nat) : Int)] rfl
      rw [World.size_alloc] at hfr
      go_wp2_with (at_builtin; refine wpList_app _ rfl _ _ 42 rfl w.heap.size 46 i0 _ 2 16 Try.underlying42 hi hz0 hz1 hz2 rfl (by decide) _ _ _ rfl ((hown.alloc _).alloc _) _ _ _ _ _ rfl hfr (by simp [Value.oneCell']) (by unfold maxLen; omega) (by omega) (by simp; omega) ?_; intro v1 w1 hown1 hg1 hat1)
      have hcs : (s.take k).flatMap Smp.cells ++ [.int .i64 x.t, .int .u64 ((x.v : Nat) : Int)] = (s.take (k + 1)).flatMap Smp.cells := by rw [hT.out]; simp [Smp.cells]
      rw [hcs] at hown1
      have hb3 : Below w.heap.size w w1 := ((hb.alloc hbs _).alloc (by simp; omega) _).grown hg1 (by simp; omega) (fun j hj => (hown.lt j hj).1)
      clear hown hb hbs hg1 hat1 hcs hfr d0 d1
      go_wp2_with fail
      go_roundw
      case rel => exact ⟨k + 1, by omega, by go_num, hown1, hb3⟩
      case measure => simp [intOf]; omega
    · obtain rfl : m = k := by omega
      rw [List.take_of_length_le (by rw [H0.out.len]; exact Nat.le_refl _)] at hown
      obtain ⟨A1, c1, rfl, _, hr1⟩ := own_shape hown
      have G1 := hidden (show SmF wr A1 m s from ⟨hr1, H0.out.len, H0.out.fit⟩)
      have HB1 := hidden hb
      have hr0 := (H0.out.on hb).row
      clear hown hr1 hb
      generalize wr = wo at *
      go_wp2_with (at_builtin; refine wpList_app _ rfl _ _ 41 rfl wo.heap.size 45 j0 _ 2 16 Try.underlying41 gi gz0 gz1 gz2 rfl (by decide) (.slice none 0 0) 0 [] rfl (World.ownsRow_nil _ _ _ _) wo.heap.size A0 m c0 _ rfl hr0 (ClnSmp.cells_one s) (by unfold maxLen; omega) (by omega) (Nat.le_refl _) ?_; intro v1 w1 hown1 hg1 hat1)
      rw [Nat.zero_add, List.nil_append] at hown1
      have hb2 : Below wo.heap.size wo w1 := (Below.refl _ _).grown hg1 (Nat.le_refl _) (by simp [Value.ownBlock])
      obtain ⟨A2, c2, rfl, _, hr2⟩ := own_shape hown1
      have G2 := hidden (show SmF w1 A2 m s from ⟨hr2, H0.out.len, H0.out.fit⟩)
      have HB2 := hidden (HB1.out.trans (hb2.mono HB1.out.size))
      have G1b := hidden (G1.out.on hb2)
      clear hown1 hr2 hb2 hg1 hat1 hr0 HB1 G1
      have S1 := hidden (twinF c (H.out.on HB2.out))
      go_wp2_with fail
      refine S1.out.mono ?_
      rintro e w3 ⟨A3, c3, l3, rfl, h3, rfl, hb3⟩
      have HB3 := hidden (HB2.out.trans (hb3.mono HB2.out.size))
      have G1c := hidden (G1b.out.on hb3)
      have G2b := hidden (G2.out.on hb3)
      have S2 := hidden (keep_any A3 l3.length c3 l3 A2 m c2 s w3 h3.row h3.len h3.fit h3.ok G2b.out.row G2b.out.len G2b.out.fit)
      clear h3 hb3 HB2 G1b G2 S1
      go_wp2_with fail
      refine S2.out.mono ?_
      rintro e w4 ⟨A4, c4, R, rfl, hR, hr4, hb4⟩
      rw [keepP_of hR] at hr4 ⊢
      have HB4 := hidden (HB3.out.trans (hb4.mono HB3.out.size))
      have G1d := hidden (G1c.out.on hb4)
      have G2c := hidden (G2b.out.on hb4)
      obtain ⟨K, hK⟩ : ∃ K, keepP l3 s = K := ⟨_, rfl⟩
      have hKm : K.length ≤ m := by rw [← hK, ← H0.out.len]; exact List.length_filter_le _ _
      rw [hK] at hr4 ⊢
      have HK := hidden hK
      have G4 := hidden (show SmF w4 A4 K.length K from ⟨hr4, rfl, by omega⟩)
      have S3 := hidden (refSF c (H.out.on HB4.out))
      clear hr4 hb4 hR HB3 G1c G2b S2 hK
      go_wp2_with fail
      refine S3.out.mono ?_
      rintro e w5 ⟨A5, c5, l5, rfl, h5, rfl, hb5⟩
      have HB5 := hidden (HB4.out.trans (hb5.mono HB4.out.size))
      have G1e := hidden (G1d.out.on hb5)
      have G2d := hidden (G2c.out.on hb5)
      have G4b := hidden (G4.out.on hb5)
      have S4 := hidden (rKeep_any A5 l5.length c5 l5 A1 m c1 s w5 h5.row h5.len h5.fit G1e.out.row G1e.out.len G1e.out.fit)
      clear h5 hb5 HB4 G1d G2c G4 S3
      go_wp2_with fail
      refine S4.out.mono ?_
      rintro e w6 ⟨v6, rfl, ho6, hb6⟩
      rw [HK.out] at ho6
      obtain ⟨A6, c6, rfl, _, hr6⟩ := own_shape ho6
      have HB6 := hidden (HB5.out.trans (hb6.mono HB5.out.size))
      have G2e := hidden (G2d.out.on hb6)
      have G4c := hidden (G4b.out.on hb6)
      have G6 := hidden (show SmF w6 A6 K.length K from ⟨hr6, rfl, by omega⟩)
      clear ho6 hr6 hb6 HB5 G1e G2d G4b S4
      go_wp2_with fail
      refine (spnWakes_any _).mono ?_
      rintro e w7 ⟨rfl, hb7⟩
      have HB7 := hidden (HB6.out.trans (hb7.mono HB6.out.size))
      have G2f := hidden (G2e.out.on hb7)
      have G4d := hidden (G4c.out.on hb7)
      have G6b := hidden (G6.out.on hb7)
      obtain ⟨kn, hkn⟩ : ∃ kn, K.length = kn := ⟨_, rfl⟩
      rw [hkn] at G4d G6b hKm ⊢
      have HKN := hidden hkn
      have hnn : ((kn : Int) != (kn : Int)) = false := by simp
      clear hb7 HB6 G2e G4c G6 hkn
      go_wp2_with fail
      go_loopw [49] (fun i wr => ∃ q z : Nat, q ≤ kn ∧ i = .int .i64 q ∧ wr = w7.drewN z) (fun i _ => kn - (intOf i).toNat)
      case atStart => exact ⟨0, 0, Nat.zero_le _, rfl, rfl⟩
      case round =>
        obtain ⟨q, z, hq, rfl, rfl⟩ := hrel
        by_cases hlt2 : q < kn
        · obtain ⟨gs, o, x, rfl, _, hx, hcl⟩ := row_at smpK G4d.out.row HKN.out q hlt2
          obtain ⟨gt, p, y, rfl, _, hy, hdl⟩ := row_at smpK G6b.out.row HKN.out q hlt2
          obtain rfl : x = y := Option.some.inj (hx.symm.trans hy)
          have d0 : w7.cell? ⟨gs, o + q * 2, none⟩ = some (.int .i64 x.t) := hcl 0 (by omega)
          have d1 : w7.cell? ⟨gs, o + q * 2 + 1, none⟩ = some (.int .u64 ((x.v : Nat) : Int)) := hcl 1 (by omega)
          have e0 : w7.cell? ⟨gt, p + q * 2, none⟩ = some (.int .i64 x.t) := hdl 0 (by omega)
          have e1 : w7.cell? ⟨gt, p + q * 2 + 1, none⟩ = some (.int .u64 ((x.v : Nat) : Int)) := hdl 1 (by omega)
          have q0 : (0 : Int) ≤ (q : Int) := by omega
          have q1 : (q : Int) < (kn : Int) := by omega
          clear hx hy hcl hdl
          go_wp2_with fail
          go_quiet (fail)
          go_wp2_with fail
          go_roundw
          case rel => exact ⟨q + 1, _, by omega, by go_num, rfl⟩
          case measure => simp [intOf]; omega
        · have q1 : ¬ (q : Int) < (kn : Int) := by omega
          have HB8 := hidden (below_drewN HB7.out z)
          have G2g := hidden (G2f.out.on (below_drewN (Below.refl _ _) z))
          have hr0 := hidden (H0.out.on HB8.out)
          clear HB7 G2f
          generalize w7.drewN z = w8 at *
          go_wp2_with fail
          go_loopw [79] (fun i wr => ∃ u z : Nat, u ≤ m ∧ i = .int .i64 u ∧ wr = w8.drewN z) (fun i _ => m - (intOf i).toNat)
          case atStart => exact ⟨0, 0, Nat.zero_le _, rfl, rfl⟩
          case round =>
            obtain ⟨u, z, hu, rfl, rfl⟩ := hrel
            by_cases hlt3 : u < m
            · obtain ⟨gs, o, x, rfl, _, hx, hcl⟩ := row_at smpK G2g.out.row G2g.out.len u hlt3
              obtain ⟨gt, p, y, rfl, _, hy, hdl⟩ := row_at smpK hr0.out.row hr0.out.len u hlt3
              obtain rfl : x = y := Option.some.inj (hx.symm.trans hy)
              have d0 : w8.cell? ⟨gs, o + u * 2, none⟩ = some (.int .i64 x.t) := hcl 0 (by omega)
              have d1 : w8.cell? ⟨gs, o + u * 2 + 1, none⟩ = some (.int .u64 ((x.v : Nat) : Int)) := hcl 1 (by omega)
              have e0 : w8.cell? ⟨gt, p + u * 2, none⟩ = some (.int .i64 x.t) := hdl 0 (by omega)
              have e1 : w8.cell? ⟨gt, p + u * 2 + 1, none⟩ = some (.int .u64 ((x.v : Nat) : Int)) := hdl 1 (by omega)
              have q0 : (0 : Int) ≤ (u : Int) := by omega
              have q1 : (u : Int) < (m : Int) := by omega
              have hne := neq_smp x
              clear hx hy hcl hdl
              go_wp2_with fail
              go_quiet (fail)
              go_wp2_with fail
              go_roundw
              case rel => exact ⟨u + 1, _, by omega, by go_num, rfl⟩
              case measure => simp [intOf]; omega
            · have q1 : ¬ (u : Int) < (m : Int) := by omega
              go_wp2_with fail
              go_ret
              exact ⟨rfl, below_drewN HB8.out _⟩

section
variable {H : Type} {enc : TypeId × Value → H} {W : World} {b : Nat}
theorem open_smpsF {base : Nat} {v : Value} {d : DataW H} {ps : List MemPlace} (hv : Value.okWide Try.prog W .any base 41 v) (h : DataW.Trod enc Try.prog W 0 (fun _ => true) true 41 v d ps) (hF : Fits Try.prog W b 41 (d, ps)) :
    ∃ s : Sl Smp, v = s.val ∧ SmF W s.A s.n s.l := by
  obtain ⟨s, rfl, hs, hok, hn, _⟩ := open_arg_slice (k := 2) (f := Smp.cells) Try.underlying41 (by kernel_rfl) (by decide) (fun _ => rfl) opens_smp hv h hF
  rw [show Try.prog.bytesOf 45 = 16 from by kernel_rfl] at hn
  simp only [reachBytes] at hn
  exact ⟨s, rfl, hs.2.2, hs.2.1, hn⟩
end

theorem spansKeep_walk {H : Type} (enc : TypeId × Value → H) : LawWalk enc Try.prog 5 Try.f5 (fun _ => True) := by
  intro W base args ds p hval hA hlt hsz _
  rw [Try.params5] at hval hA hsz
  obtain ⟨v0, vs0, d0, ds0, p0, q0, hargs, rfl, rfl, h0, r0⟩ := trodAll_cons hA
  obtain ⟨v1, vs1, d1, ds1, p1, q1, rfl, rfl, rfl, h1, r1⟩ := trodAll_cons r0
  obtain ⟨rfl, rfl, rfl⟩ := trodAll_nil r1
  obtain rfl : args = #[v0, v1] := by cases args; simp_all
  obtain ⟨s, rfl, hs⟩ := open_spans (hval 0 30 v0 rfl rfl) h0 (arg_fits (b := Rows.uptoBulkAll [d0, d1]) (j := 0) rfl rfl (fun x hx => hlt x (by simp [hx])) hsz (Nat.le_refl _))
  obtain ⟨r, rfl, hr⟩ := open_smpsF (hval 1 41 v1 rfl rfl) h1 (arg_fits (b := Rows.uptoBulkAll [d0, d1]) (j := 1) rfl rfl (fun x hx => hlt x (by simp [hx])) hsz (Nat.le_refl _))
  exact spansKeep_any s.A s.n s.c s.l r.A r.n r.c r.l W hs hr

namespace spansKeep
set_option maxRecDepth 100000 in
theorem lifted (os : Os) (started : os.Started) (H : Type) (enc : TypeId × Value → H) :
    ReturnsInHanded {} Try.checked os 5 .any (Rows.spansKeepSpec.pre6 enc Try.prog Try.f5 Rows.spansKeepRow.domain false) (Rows.spansKeepSpec.post enc Try.prog Try.f5 false true false false) :=
  law_said (C := Try.checked) (s := Rows.spansKeepSpec) (tb := 4) own_prog started (by kernel_rfl) Try.func5
    (ChangeSpec.witness6 (enc := enc) (C := Try.checked) false ⟨#[], #[.slice none 0 0, .slice none 0 0], []⟩ 8 (by kernel_rfl) (by kernel_rfl) (by kernel_rfl) (by kernel_rfl))
    laidOut (by kernel_rfl) rfl Try.underlying4 ⟨rfl, fun H ds h => match ds, h with | [_, _], _ => ⟨rfl, rfl, rfl⟩⟩ (spansKeep_walk enc)

theorem proved : Rows.SpansKeepSaid :=
  OpenClaim.holds_of_wide 5 Try.f5 rfl rfl rfl rfl rfl rfl rfl ⟨rfl, rfl, rfl, rfl, rfl⟩ rfl rfl rfl rfl rfl (by kernel_rfl) Try.func5 (by kernel_rfl)
    (of_decide_eq_true (by kernel_rfl)) (by unfold Func.isWrapper; first | (rw [if_pos (by decide +kernel)]; kernel_rfl) | (rw [if_neg (by decide +kernel)]; exact ⟨rfl, rfl⟩))
    (fun os started H enc _ => lifted os started H enc)
#print axioms proved
end spansKeep

end Go.Proofs.Ytjklonfheenfbaa
