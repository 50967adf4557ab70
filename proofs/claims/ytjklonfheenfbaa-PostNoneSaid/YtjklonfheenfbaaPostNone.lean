/- PostNone: a nil cursor has no rest. No condition. -/
import Derived.Test.YtjklonfheenfbaaRefOf13
import Derived.Test.YtjklonfheenfbaaArgs
namespace Go.Proofs.Ytjklonfheenfbaa
set_option maxRecDepth 100000
open Go.RowKit Go.WideShapes Go.ChangeShapes Go.Shelf

theorem nil_cur {w : World} : IsCur w (.pointer none) [] (fun _ => False) := ⟨0, .inl ⟨rfl, rfl, fun _ h => h⟩⟩
theorem fc_nil (w : World) : FC w w (.pointer none) [] (fun _ => False) := ⟨nil_cur, fun _ h => h.elim, Below.refl _ _⟩
theorem fc_on {ws w1 w2 : World} {p : Value} {E : List Int} {F : Nat → Prop} (hb : Below ws.heap.size ws w1) (h : FC w1 w2 p E F) : FC ws w2 p E F :=
  ⟨h.1, fun k hk => by have := h.2.1 k hk; have := hb.size; omega, hb.trans (h.2.2.mono hb.size)⟩
theorem and0F (w : World) : Calls Try.prog 48 #[.slice none 0 0] w (FCR w (· = [])) := by
  refine (and_any none 0 0 [] w ⟨Row.nil, rfl, by decide, by simp, by simp⟩).mono fun e w' k => ?_
  obtain ⟨a, E, F, r1, r2, r3⟩ := fcr_new k (fun k ⟨x, hx, _⟩ => by simp at hx) (Below.refl _ _)
  exact ⟨a, E, F, r1, r2, List.eq_nil_iff_forall_not_mem.2 fun x hx => by simpa using (r3 x).1 hx⟩

set_option maxHeartbeats 12800000 in
theorem postNone_any (x : Int) (A : Option Addr) (n c : Nat) (l : List Int) (w : World) (h : IntF w A n l) (hx : inI x) :
    Calls Try.prog 14 #[.int .i64 x, .slice A n c] w fun e w' => e = .returned (.bool true) ∧ Below w.heap.size w w' := by
  have HL0 := hidden h
  obtain ⟨EA, rA, mA⟩ := union_exists l
  obtain ⟨EZ, rZ, mZ⟩ : ∃ EZ : List Int, rising EZ ∧ ∀ x, x ∈ EZ ↔ False := ⟨[], List.Pairwise.nil, by simp⟩
  have lA := rising_le rA fun x hx => (mA x).1 hx
  have hZ0 : EZ.length = 0 := by
    cases EZ with
    | nil => rfl
    | cons x _ => exact ((mZ x).1 (by simp)).elim
  have fq2 : (((EZ.length : Nat) : Int) == 0) = true := by rw [hZ0]; rfl
  have hEA := hidden (And.intro rA (And.intro mA (show EA.length * 8 ≤ 140737488351232 by have := h.len; have := h.fit; omega)))
  have hEZ := hidden (And.intro rZ (And.intro mZ (show EZ.length * 8 ≤ 140737488351232 by omega)))
  have hEI := hidden (show ∀ x ∈ EA, inI x from fun x hx => h.ints x ((mA x).1 hx))
  clear h rA mA rZ mZ lA hZ0
  go_enter Try.func14, Try.ntmps14
  go_wp2_with fail
  refine (next_cur (.pointer none) [] (fun _ => False) w nil_cur).mono ?_
  rintro e v0 ⟨he, _, k0⟩
  obtain rfl : e = .returned (.tuple #[.int .i64 0, .bool false]) := he
  have b0 : Below w.heap.size w v0 := k0.below (fun _ h => h.elim) (Nat.le_refl _)
  clear k0
  have HB0 := hidden (Below.refl w.heap.size w)
  have HB1 := hidden (HB0.out.trans (b0.mono HB0.out.size))
  have HL1 := hidden (HL0.out.on b0)
  clear b0 HB0 HL0 
  go_wp2_with fail
  refine (seek_cur (.pointer none) [] (fun _ => False) x _ nil_cur hx).mono ?_
  rintro e v100 ⟨he, _, k100⟩
  obtain rfl : e = .returned (.tuple #[.int .i64 0, .bool false]) := he
  have b100 : Below v0.heap.size v0 v100 := k100.below (fun _ h => h.elim) (Nat.le_refl _)
  clear k100
  have HB2 := hidden (HB1.out.trans (b100.mono HB1.out.size))
  have HL2 := hidden (HL1.out.on b100)
  clear b100 HB1 HL1 
  go_wp2_with fail
  refine (postWakes_any _).mono ?_
  rintro e v101 ⟨rfl, b101⟩
  have HB3 := hidden (HB2.out.trans (b101.mono HB2.out.size))
  have HL3 := hidden (HL2.out.on b101)
  clear b101 HB2 HL2 
  have O4 := hidden (restF (fc_nil v101) (by decide))
  go_wp2_with fail
  refine O4.out.mono ?_
  rintro e v4 ⟨A4, c4, rfl, i4, b4⟩
  have HB5 := hidden (HB3.out.trans (b4.mono HB3.out.size))
  have HL5 := hidden (HL3.out.on b4)
  clear b4 HB3 HL3 O4
  have R4x4 := hidden i4
  clear i4
  clear R4x4
  have O6 := hidden (twinI_any _ _ c _ _ HL5.out)
  go_wp2_with fail
  refine O6.out.mono ?_
  rintro e v6 ⟨A6, c6, rfl, i6, b6⟩
  have O7 := hidden (ofF _ _ c6 _ _ i6)
  have T6 := hidden b6
  clear i6 b6 O6
  go_wp2_with fail
  refine O7.out.mono ?_
  rintro e v7 ⟨a7, E7, F7, rfl, fc7, m7, l7⟩
  have FC7 := hidden (fc_on T6.out fc7)
  have M7 := hidden m7
  clear fc7 m7 l7 O7 T6
  have O8 := hidden (andF FC7.out (fc_nil _))
  clear FC7
  go_wp2_with fail
  refine O8.out.mono ?_
  rintro e v8 ⟨a8, E8, F8, rfl, fc8, m8⟩
  obtain rfl : EZ = E8 := (rising_ext fc8.rising hEZ.out.1 fun x => by
    rw [m8 x, hEZ.out.2.1 x, M7.out x]
    simp).symm
  have O9 := hidden (restF fc8 (by have := hEZ.out.2.2; omega))
  clear fc8 m8 M7 O8
  go_wp2_with fail
  refine O9.out.mono ?_
  rintro e v9 ⟨A9, c9, rfl, i9, b9⟩
  have HB10 := hidden (HB5.out.trans (b9.mono HB5.out.size))
  have HL10 := hidden (HL5.out.on b9)
  clear b9 HB5 HL5 O9
  have R9x9 := hidden i9
  clear i9
  clear R9x9
  have O11 := hidden (twinI_any _ _ c _ _ HL10.out)
  go_wp2_with fail
  refine O11.out.mono ?_
  rintro e v11 ⟨A11, c11, rfl, i11, b11⟩
  have O12 := hidden (ofF _ _ c11 _ _ i11)
  have T11 := hidden b11
  clear i11 b11 O11
  go_wp2_with fail
  refine O12.out.mono ?_
  rintro e v12 ⟨a12, E12, F12, rfl, fc12, m12, l12⟩
  have FC12 := hidden (fc_on T11.out fc12)
  have M12 := hidden m12
  clear fc12 m12 l12 O12 T11
  have O13 := hidden (orF (fc_nil _) FC12.out)
  clear FC12
  go_wp2_with fail
  refine O13.out.mono ?_
  rintro e v13 ⟨a13, E13, F13, rfl, fc13, m13⟩
  obtain rfl : EA = E13 := (rising_ext fc13.rising hEA.out.1 fun x => by
    rw [m13 x, hEA.out.2.1 x, M12.out x]
    simp).symm
  have O14 := hidden (restF fc13 (by have := hEA.out.2.2; omega))
  clear fc13 m13 M12 O13
  go_wp2_with fail
  refine O14.out.mono ?_
  rintro e v14 ⟨A14, c14, rfl, i14, b14⟩
  have HB15 := hidden (HB10.out.trans (b14.mono HB10.out.size))
  have HL15 := hidden (HL10.out.on b14)
  clear b14 HB10 HL10 O14
  have R14x14 := hidden i14
  clear i14
  have O16 := hidden (rOf13_any _ _ c _ _ HL15.out)
  go_wp2_with fail
  refine O16.out.mono ?_
  rintro e v16 ⟨E16, x16, rfl, r16, m16, o16, b16⟩
  obtain rfl : EA = E16 := (rising_ext r16 hEA.out.1 fun x => by rw [m16 x, hEA.out.2.1 x]).symm
  obtain ⟨A16, c16, rfl, _, r16r⟩ := own_shape o16
  have i16 : IntF v16 A16 EA.length EA := ⟨r16r, rfl, by have := hEA.out.2.2; omega, hEI.out⟩
  clear r16 m16 o16 r16r
  have HB17 := hidden (HB15.out.trans (b16.mono HB15.out.size))
  have HL17 := hidden (HL15.out.on b16)
  have R14x17 := hidden (R14x14.out.on b16)
  clear b16 HB15 HL15 R14x14 O16
  have R16x16 := hidden i16
  clear i16
  have O18 := hidden (sameI_yes _ _ _ c14 c16 _ _ R14x17.out R16x16.out)
  go_wp2_with fail
  refine O18.out.mono ?_
  rintro e v18 ⟨rfl, b18⟩
  have HB19 := hidden (HB17.out.trans (b18.mono HB17.out.size))
  have HL19 := hidden (HL17.out.on b18)
  have R14x19 := hidden (R14x17.out.on b18)
  have R16x19 := hidden (R16x16.out.on b18)
  clear b18 HB17 HL17 R14x17 R16x16 O18
  clear R14x19
  clear R16x19
  have O20 := hidden (twinI_any _ _ c _ _ HL19.out)
  go_wp2_with fail
  refine O20.out.mono ?_
  rintro e v20 ⟨A20, c20, rfl, i20, b20⟩
  have O21 := hidden (ofF _ _ c20 _ _ i20)
  have T20 := hidden b20
  clear i20 b20 O20
  go_wp2_with fail
  refine O21.out.mono ?_
  rintro e v21 ⟨a21, E21, F21, rfl, fc21, m21, l21⟩
  have FC21 := hidden (fc_on T20.out fc21)
  have M21 := hidden m21
  clear fc21 m21 l21 O21 T20
  have O22 := hidden (withoutF FC21.out (fc_nil _))
  clear FC21
  go_wp2_with fail
  refine O22.out.mono ?_
  rintro e v22 ⟨a22, E22, F22, rfl, fc22, m22⟩
  obtain rfl : EA = E22 := (rising_ext fc22.rising hEA.out.1 fun x => by
    rw [m22 x, hEA.out.2.1 x, M21.out x]
    simp).symm
  have O23 := hidden (restF fc22 (by have := hEA.out.2.2; omega))
  clear fc22 m22 M21 O22
  go_wp2_with fail
  refine O23.out.mono ?_
  rintro e v23 ⟨A23, c23, rfl, i23, b23⟩
  have HB24 := hidden (HB19.out.trans (b23.mono HB19.out.size))
  have HL24 := hidden (HL19.out.on b23)
  clear b23 HB19 HL19 O23
  have R23x23 := hidden i23
  clear i23
  have O25 := hidden (rOf13_any _ _ c _ _ HL24.out)
  go_wp2_with fail
  refine O25.out.mono ?_
  rintro e v25 ⟨E25, x25, rfl, r25, m25, o25, b25⟩
  obtain rfl : EA = E25 := (rising_ext r25 hEA.out.1 fun x => by rw [m25 x, hEA.out.2.1 x]).symm
  obtain ⟨A25, c25, rfl, _, r25r⟩ := own_shape o25
  have i25 : IntF v25 A25 EA.length EA := ⟨r25r, rfl, by have := hEA.out.2.2; omega, hEI.out⟩
  clear r25 m25 o25 r25r
  have HB26 := hidden (HB24.out.trans (b25.mono HB24.out.size))
  have HL26 := hidden (HL24.out.on b25)
  have R23x26 := hidden (R23x23.out.on b25)
  clear b25 HB24 HL24 R23x23 O25
  have R25x25 := hidden i25
  clear i25
  have O27 := hidden (sameI_yes _ _ _ c23 c25 _ _ R23x26.out R25x25.out)
  go_wp2_with fail
  refine O27.out.mono ?_
  rintro e v27 ⟨rfl, b27⟩
  have HB28 := hidden (HB26.out.trans (b27.mono HB26.out.size))
  have HL28 := hidden (HL26.out.on b27)
  have R23x28 := hidden (R23x26.out.on b27)
  have R25x28 := hidden (R25x25.out.on b27)
  clear b27 HB26 HL26 R23x26 R25x25 O27
  clear R23x28
  clear R25x28
  have O29 := hidden (and0F v27)
  go_wp2_with fail
  refine O29.out.mono ?_
  rintro e v29 ⟨a29, E29, F29, rfl, fc29, m29⟩
  subst m29
  have O30 := hidden (restF fc29 (by decide))
  clear fc29 O29
  go_wp2_with fail
  refine O30.out.mono ?_
  rintro e v30 ⟨A30, c30, rfl, i30, b30⟩
  have HB31 := hidden (HB28.out.trans (b30.mono HB28.out.size))
  have HL31 := hidden (HL28.out.on b30)
  clear b30 HB28 HL28 O30
  have R30x30 := hidden i30
  clear i30
  go_wp2_with fail
  go_ret
  exact ⟨rfl, HB31.out⟩

section
variable {H : Type} {enc : TypeId × Value → H} {W : World} {b : Nat}
theorem fm_ints : ∀ l : List Int, l.flatMap (fun x : Int => [Value.int .i64 x]) = l.map (Value.int .i64)
  | [] => rfl
  | x :: l => by rw [List.flatMap_cons, fm_ints l]; rfl
theorem open_ints {base : Nat} {v : Value} {d : DataW H} {ps : List MemPlace} (hv : Value.okWide Try.prog W .any base 69 v) (h : DataW.Trod enc Try.prog W 0 (fun _ => true) true 69 v d ps) (hF : Fits Try.prog W b 69 (d, ps)) :
    ∃ s : Sl Int, v = s.val ∧ IntF W s.A s.n s.l ∧ s.n ≤ b := by
  obtain ⟨s, rfl, hs, hok, hn, hb⟩ := open_arg_slice (k := 1) (f := fun x : Int => [Value.int .i64 x]) Try.underlying69 (by kernel_rfl) (by decide) (fun _ => rfl) (opens_int Try.underlying3) hv h hF
  rw [show Try.prog.bytesOf 3 = 8 from by kernel_rfl] at hn
  simp only [reachBytes] at hn
  have hr := hs.2.2
  rw [show s.l.flatMap (fun x : Int => [Value.int .i64 x]) = s.l.map (Value.int .i64) from fm_ints s.l] at hr
  exact ⟨s, rfl, ⟨hr, hs.2.1, hn, fun x hx => by have := wf_i64 (hok x hx); unfold inI; omega⟩, hb⟩
end

theorem postNone_walk {H : Type} (enc : TypeId × Value → H) : LawWalk enc Try.prog 14 Try.f14 (fun _ => True) := by
  intro W base args ds p hval hA hlt hsz _
  rw [Try.params14] at hval hA hsz
  obtain ⟨v0, vs0, d0, ds0, p0, q0, hargs, rfl, rfl, h0, r0⟩ := trodAll_cons hA
  obtain ⟨v1, vs1, d1, ds1, p1, q1, rfl, rfl, rfl, h1, r1⟩ := trodAll_cons r0
  obtain ⟨rfl, rfl, rfl⟩ := trodAll_nil r1
  obtain rfl : args = #[v0, v1] := by cases args; simp_all
  obtain ⟨x, rfl, hx⟩ := open_arg_int Try.underlying3 (hval 0 3 v0 rfl rfl) h0
  obtain ⟨r, rfl, hr, _⟩ := open_ints (hval 1 69 v1 rfl rfl) h1 (arg_fits (b := Rows.uptoBulkAll [d0, d1]) (j := 1) rfl rfl (fun x hx => hlt x (by simp [hx])) hsz (Nat.le_refl _))
  have wx := wf_i64 hx
  exact postNone_any x r.A r.n r.c r.l W hr (by unfold inI; omega)

namespace postNone
set_option maxRecDepth 100000 in
theorem lifted (os : Os) (started : os.Started) (H : Type) (enc : TypeId × Value → H) :
    ReturnsInHanded {} Try.checked os 14 .any (Rows.postNoneSpec.pre6 enc Try.prog Try.f14 Rows.postNoneRow.domain false) (Rows.postNoneSpec.post enc Try.prog Try.f14 false true false false) :=
  law_said (C := Try.checked) (s := Rows.postNoneSpec) (tb := 4) own_prog started (by kernel_rfl) Try.func14
    (ChangeSpec.witness6 (enc := enc) (C := Try.checked) false ⟨#[], #[.int .i64 0, .slice none 0 0], []⟩ 8 (by kernel_rfl) (by kernel_rfl) (by kernel_rfl) (by kernel_rfl))
    laidOut (by kernel_rfl) rfl Try.underlying4 ⟨rfl, fun H ds h => match ds, h with | [_, _], _ => ⟨rfl, rfl, rfl⟩⟩ (postNone_walk enc)

theorem proved : Rows.PostNoneSaid :=
  OpenClaim.holds_of_wide 14 Try.f14 rfl rfl rfl rfl rfl rfl rfl ⟨rfl, rfl, rfl, rfl, rfl⟩ rfl rfl rfl rfl rfl (by kernel_rfl) Try.func14 (by kernel_rfl)
    (of_decide_eq_true (by kernel_rfl)) (by unfold Func.isWrapper; first | (rw [if_pos (by decide +kernel)]; kernel_rfl) | (rw [if_neg (by decide +kernel)]; exact ⟨rfl, rfl⟩))
    (fun os started H enc _ => lifted os started H enc)
#print axioms proved
end postNone

end Go.Proofs.Ytjklonfheenfbaa
