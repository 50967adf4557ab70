/- PostSets: without the document's answer: cursors obey the laws of sets. Condition: the arguments are within the bulk that the statement names. -/
import Derived.Test.YtjklonfheenfbaaPostKit
import Derived.Test.YtjklonfheenfbaaArgs
namespace Go.Proofs.Ytjklonfheenfbaa
set_option maxRecDepth 100000
open Go.RowKit Go.WideShapes Go.ChangeShapes Go.Shelf

theorem nodup_le {E l : List Int} (h : E.Nodup) (hm : ∀ x ∈ E, x ∈ l) : E.length ≤ l.length := by
  induction E generalizing l with
  | nil => simp
  | cons e E ih =>
    obtain ⟨h1, h2⟩ := List.nodup_cons.1 h
    obtain ⟨l1, l2, rfl⟩ := List.append_of_mem (hm e (by simp))
    have := ih (l := l1 ++ l2) h2 fun x hx => by
      have hx2 := hm x (by simp [hx])
      have hne : x ≠ e := fun k => h1 (by rw [← k]; exact hx)
      rcases List.mem_append.1 hx2 with hx2 | hx2
      · exact List.mem_append_left _ hx2
      · rcases List.mem_cons.1 hx2 with e | hx2
        · exact absurd e hne
        · exact List.mem_append_right _ hx2
    simp only [List.length_append, List.length_cons] at this ⊢
    omega
theorem nodup_len {E l : List Int} (h : E.Nodup) (k : l.Nodup) (hm : ∀ x, x ∈ E ↔ x ∈ l) : E.length = l.length :=
  Nat.le_antisymm (nodup_le h fun x hx => (hm x).1 hx) (nodup_le k fun x hx => (hm x).2 hx)
theorem split_len {E I D : List Int} (hE : rising E) (hI : rising I) (hD : rising D) (hm : ∀ x, x ∈ E ↔ x ∈ I ∨ x ∈ D) (hd : ∀ x, x ∈ I → x ∉ D) : I.length + D.length = E.length := by
  rw [← List.length_append]
  refine nodup_len (List.nodup_append.2 ⟨rising_nodup hI, rising_nodup hD, fun a ha b hb e => hd a ha (by rw [e]; exact hb)⟩) (rising_nodup hE) fun x => ?_
  rw [hm x, List.mem_append]
theorem ofTF (A : Option Addr) (n c : Nat) (l : List Int) (w : World) (h : IntF w A n l) :
    Calls Try.prog 45 #[.slice A n c] w (FCR w fun E => (∀ x, x ∈ E ↔ x ∈ l) ∧ E.length ≤ n) := by
  have S1 := hidden (twinI_any A n c l w h)
  clear h
  go_enter Try.func45, Try.ntmps45
  go_wp2_with fail
  refine S1.out.mono ?_
  rintro e w1 ⟨A1, c1, rfl, h1, hb1⟩
  have S2 := hidden (ofF A1 n c1 l w1 h1)
  have HB := hidden hb1
  clear h1 hb1 S1
  go_wp2_with fail
  refine S2.out.mono ?_
  rintro e w2 ⟨a, E, F, rfl, ⟨f1, f2, f3⟩, h3⟩
  go_wp2_with fail
  go_ret
  exact ⟨a, E, F, rfl, ⟨f1, fun k hk => by have := f2 k hk; have := HB.out.size; omega, HB.out.trans (f3.mono HB.out.size)⟩, h3⟩

set_option maxHeartbeats 12800000 in
theorem postSets_any (A : Option Addr) (n c : Nat) (la : List Int) (B : Option Addr) (m d : Nat) (lb : List Int) (w : World) (h1 : IntF w A n la) (h2 : IntF w B m lb) (hn : n ≤ 1048576) (hm : m ≤ 1048576) :
    Calls Try.prog 13 #[.slice A n c, .slice B m d] w fun e w' => e = .returned (.bool true) ∧ Below w.heap.size w w' := by
  have HA0 := hidden h1
  have HX0 := hidden h2
  have hla := h1.len
  have hlb := h2.len
  obtain ⟨EA, rA, mA⟩ := union_exists la
  obtain ⟨EB, rB, mB⟩ := union_exists lb
  obtain ⟨EI, rI, mI'⟩ := union_exists (la.filter fun x => decide (x ∈ lb))
  obtain ⟨ED, rD, mD'⟩ := union_exists (la.filter fun x => decide (x ∉ lb))
  obtain ⟨EU, rU, mU'⟩ := union_exists (la ++ lb)
  obtain ⟨EZ, rZ, mZ⟩ : ∃ EZ : List Int, rising EZ ∧ ∀ x, x ∈ EZ ↔ False := ⟨[], List.Pairwise.nil, by simp⟩
  have mI : ∀ x, x ∈ EI ↔ x ∈ la ∧ x ∈ lb := fun x => by rw [mI' x, List.mem_filter]; simp
  have mD : ∀ x, x ∈ ED ↔ x ∈ la ∧ x ∉ lb := fun x => by rw [mD' x, List.mem_filter]; simp
  have mU : ∀ x, x ∈ EU ↔ x ∈ la ∨ x ∈ lb := fun x => by rw [mU' x, List.mem_append]
  have lA := rising_le rA fun x hx => (mA x).1 hx
  have lB := rising_le rB fun x hx => (mB x).1 hx
  have lI := rising_le rI fun x hx => ((mI x).1 hx).1
  have lD := rising_le rD fun x hx => ((mD x).1 hx).1
  have lU := rising_le (l := la ++ lb) rU fun x hx => (mU' x).1 hx
  rw [List.length_append] at lU
  have hID := split_len rA rI rD (fun x => by rw [mA x, mI x, mD x]; exact ⟨fun h => (Classical.em (x ∈ lb)).imp (fun k => ⟨h, k⟩) fun k => ⟨h, k⟩, fun h => h.elim And.left And.left⟩) (fun x h k => ((mD x).1 k).2 ((mI x).1 h).2)
  obtain ⟨EC, rC, mC'⟩ := union_exists (lb.filter fun x => decide (x ∉ la))
  have mC : ∀ x, x ∈ EC ↔ x ∈ lb ∧ x ∉ la := fun x => by rw [mC' x, List.mem_filter]; simp
  have hIC := split_len rB rI rC (fun x => by rw [mB x, mI x, mC x]; exact ⟨fun h => (Classical.em (x ∈ la)).imp (fun k => ⟨k, h⟩) fun k => ⟨h, k⟩, fun h => h.elim And.right And.left⟩) (fun x h k => ((mC x).1 k).2 ((mI x).1 h).1)
  have hUC := split_len rU rA rC (fun x => by rw [mU x, mA x, mC x]; exact ⟨fun h => (Classical.em (x ∈ la)).imp id fun k => ⟨h.resolve_left k, k⟩, fun h => h.imp id And.left⟩) (fun x h k => ((mC x).1 k).2 ((mA x).1 h))
  have hZ0 : EZ.length = 0 := by
    cases EZ with
    | nil => rfl
    | cons x _ => exact ((mZ x).1 (by simp)).elim
  have HID := hidden hID
  have HIC := hidden (show EU.length + EI.length = EA.length + EB.length by omega)
  have HZ := hidden hZ0
  have hEA := hidden (And.intro rA (And.intro mA (show EA.length * 8 ≤ 16777216 by omega)))
  have hEB := hidden (And.intro rB (And.intro mB (show EB.length * 8 ≤ 16777216 by omega)))
  have hEI := hidden (And.intro rI (And.intro mI (show EI.length * 8 ≤ 16777216 by omega)))
  have hED := hidden (And.intro rD (And.intro mD (show ED.length * 8 ≤ 16777216 by omega)))
  have hEU := hidden (And.intro rU (And.intro mU (show EU.length * 8 ≤ 16777216 by omega)))
  have hEZ := hidden (And.intro rZ (And.intro mZ (show EZ.length * 8 ≤ 16777216 by omega)))
  have fq1 : (((EI.length : Nat) : Int) + ((ED.length : Nat) : Int) == ((EA.length : Nat) : Int)) = true := by simp; omega
  have fq2 : (((EZ.length : Nat) : Int) == 0) = true := by rw [hZ0]; rfl
  have fq3 : (((EU.length : Nat) : Int) == ((EA.length : Nat) : Int) + ((EB.length : Nat) : Int) - ((EI.length : Nat) : Int)) = true := by simp; omega
  have fq4 : EA.length ≤ 2097152 := by omega
  have fq5 : EB.length ≤ 2097152 := by omega
  have fq6 : EI.length ≤ 2097152 := by omega
  have fq7 : ED.length ≤ 2097152 := by omega
  clear h1 h2 rA mA rB mB rI mI' rD mD' rU mU' rZ mZ mI mD mU lA lB lI lD lU hID rC mC' mC hIC hUC hZ0 hla hlb
  go_enter Try.func13, Try.ntmps13
  go_wp2_with fail
  refine (postWakes_any _).mono ?_
  rintro e v0 ⟨rfl, b0⟩
  have HB0 := hidden (Below.refl w.heap.size w)
  have HB1 := hidden (HB0.out.trans (b0.mono HB0.out.size))
  have HA1 := hidden (HA0.out.on b0)
  have HX1 := hidden (HX0.out.on b0)
  clear b0 HB0 HA0 HX0 
  have O2 := hidden (ofTF _ _ c _ _ HA1.out)
  go_wp2_with fail
  refine O2.out.mono ?_
  rintro e v2 ⟨a2, E2, F2, rfl, fc2, m2, l2⟩
  obtain rfl : EA = E2 := (rising_ext fc2.rising hEA.out.1 fun x => by
    rw [m2 x, hEA.out.2.1 x]).symm
  have O3 := hidden (restF fc2 (by have := hEA.out.2.2; omega))
  clear fc2 m2 l2 O2
  go_wp2_with fail
  refine O3.out.mono ?_
  rintro e v3 ⟨A3, c3, rfl, i3, b3⟩
  have HB4 := hidden (HB1.out.trans (b3.mono HB1.out.size))
  have HA4 := hidden (HA1.out.on b3)
  have HX4 := hidden (HX1.out.on b3)
  clear b3 HB1 HA1 HX1 O3
  have R3x3 := hidden i3
  clear i3
  have O5 := hidden (ofTF _ _ c _ _ HA4.out)
  go_wp2_with fail
  refine O5.out.mono ?_
  rintro e v5 ⟨a5, E5, F5, rfl, fc5, m5, l5⟩
  have O6 := hidden (ofTF _ _ d _ _ (HX4.out.on fc5.2.2))
  have FC5 := hidden fc5
  have M5 := hidden m5
  clear fc5 m5 l5 O5
  go_wp2_with fail
  refine O6.out.mono ?_
  rintro e v6 ⟨a6, E6, F6, rfl, fc6, m6, l6⟩
  have O7 := hidden (andF FC5.out fc6)
  have M6 := hidden m6
  clear fc6 m6 l6 O6 FC5
  go_wp2_with fail
  refine O7.out.mono ?_
  rintro e v7 ⟨a7, E7, F7, rfl, fc7, m7⟩
  obtain rfl : EI = E7 := (rising_ext fc7.rising hEI.out.1 fun x => by
    rw [m7 x, hEI.out.2.1 x, M5.out x, M6.out x]).symm
  have O8 := hidden (restF fc7 (by have := hEI.out.2.2; omega))
  clear fc7 m7 M5 M6 O7
  go_wp2_with fail
  refine O8.out.mono ?_
  rintro e v8 ⟨A8, c8, rfl, i8, b8⟩
  have HB9 := hidden (HB4.out.trans (b8.mono HB4.out.size))
  have HA9 := hidden (HA4.out.on b8)
  have HX9 := hidden (HX4.out.on b8)
  have R3x9 := hidden (R3x3.out.on b8)
  clear b8 HB4 HA4 HX4 R3x3 O8
  have R8x8 := hidden i8
  clear i8
  have O10 := hidden (ofTF _ _ c _ _ HA9.out)
  go_wp2_with fail
  refine O10.out.mono ?_
  rintro e v10 ⟨a10, E10, F10, rfl, fc10, m10, l10⟩
  have O11 := hidden (ofTF _ _ d _ _ (HX9.out.on fc10.2.2))
  have FC10 := hidden fc10
  have M10 := hidden m10
  clear fc10 m10 l10 O10
  go_wp2_with fail
  refine O11.out.mono ?_
  rintro e v11 ⟨a11, E11, F11, rfl, fc11, m11, l11⟩
  have O12 := hidden (withoutF FC10.out fc11)
  have M11 := hidden m11
  clear fc11 m11 l11 O11 FC10
  go_wp2_with fail
  refine O12.out.mono ?_
  rintro e v12 ⟨a12, E12, F12, rfl, fc12, m12⟩
  obtain rfl : ED = E12 := (rising_ext fc12.rising hED.out.1 fun x => by
    rw [m12 x, hED.out.2.1 x, M10.out x, M11.out x]).symm
  have O13 := hidden (restF fc12 (by have := hED.out.2.2; omega))
  clear fc12 m12 M10 M11 O12
  go_wp2_with fail
  refine O13.out.mono ?_
  rintro e v13 ⟨A13, c13, rfl, i13, b13⟩
  have HB14 := hidden (HB9.out.trans (b13.mono HB9.out.size))
  have HA14 := hidden (HA9.out.on b13)
  have HX14 := hidden (HX9.out.on b13)
  have R3x14 := hidden (R3x9.out.on b13)
  have R8x14 := hidden (R8x8.out.on b13)
  clear b13 HB9 HA9 HX9 R3x9 R8x8 O13
  have R13x13 := hidden i13
  clear i13
  have O15 := hidden (ofTF _ _ c8 _ _ R8x14.out)
  go_wp2_with fail
  refine O15.out.mono ?_
  rintro e v15 ⟨a15, E15, F15, rfl, fc15, m15, l15⟩
  have O16 := hidden (ofTF _ _ c13 _ _ (R13x13.out.on fc15.2.2))
  have FC15 := hidden fc15
  have M15 := hidden m15
  clear fc15 m15 l15 O15
  go_wp2_with fail
  refine O16.out.mono ?_
  rintro e v16 ⟨a16, E16, F16, rfl, fc16, m16, l16⟩
  have O17 := hidden (orF FC15.out fc16)
  have M16 := hidden m16
  clear fc16 m16 l16 O16 FC15
  go_wp2_with fail
  refine O17.out.mono ?_
  rintro e v17 ⟨a17, E17, F17, rfl, fc17, m17⟩
  obtain rfl : EA = E17 := (rising_ext fc17.rising hEA.out.1 fun x => by
    rw [m17 x, hEA.out.2.1 x, M15.out x, M16.out x]
    rw [hEI.out.2.1 x, hED.out.2.1 x]; exact ⟨fun h => h.elim And.left And.left, fun h => (Classical.em (x ∈ lb)).imp (fun k => ⟨h, k⟩) fun k => ⟨h, k⟩⟩).symm
  have O18 := hidden (restF fc17 (by have := hEA.out.2.2; omega))
  clear fc17 m17 M15 M16 O17
  go_wp2_with fail
  refine O18.out.mono ?_
  rintro e v18 ⟨A18, c18, rfl, i18, b18⟩
  have HB19 := hidden (HB14.out.trans (b18.mono HB14.out.size))
  have HA19 := hidden (HA14.out.on b18)
  have HX19 := hidden (HX14.out.on b18)
  have R3x19 := hidden (R3x14.out.on b18)
  have R8x19 := hidden (R8x14.out.on b18)
  have R13x19 := hidden (R13x13.out.on b18)
  clear b18 HB14 HA14 HX14 R3x14 R8x14 R13x13 O18
  have R18x18 := hidden i18
  clear i18
  have O20 := hidden (sameI_yes _ _ _ c18 c3 _ _ R18x18.out R3x19.out)
  go_wp2_with fail
  refine O20.out.mono ?_
  rintro e v20 ⟨rfl, b20⟩
  have HB21 := hidden (HB19.out.trans (b20.mono HB19.out.size))
  have HA21 := hidden (HA19.out.on b20)
  have HX21 := hidden (HX19.out.on b20)
  have R3x21 := hidden (R3x19.out.on b20)
  have R8x21 := hidden (R8x19.out.on b20)
  have R13x21 := hidden (R13x19.out.on b20)
  have R18x21 := hidden (R18x18.out.on b20)
  clear b20 HB19 HA19 HX19 R3x19 R8x19 R13x19 R18x18 O20
  clear R18x21
  have O22 := hidden (ofTF _ _ d _ _ HX21.out)
  go_wp2_with fail
  refine O22.out.mono ?_
  rintro e v22 ⟨a22, E22, F22, rfl, fc22, m22, l22⟩
  have O23 := hidden (ofTF _ _ c _ _ (HA21.out.on fc22.2.2))
  have FC22 := hidden fc22
  have M22 := hidden m22
  clear fc22 m22 l22 O22
  go_wp2_with fail
  refine O23.out.mono ?_
  rintro e v23 ⟨a23, E23, F23, rfl, fc23, m23, l23⟩
  have O24 := hidden (andF FC22.out fc23)
  have M23 := hidden m23
  clear fc23 m23 l23 O23 FC22
  go_wp2_with fail
  refine O24.out.mono ?_
  rintro e v24 ⟨a24, E24, F24, rfl, fc24, m24⟩
  obtain rfl : EI = E24 := (rising_ext fc24.rising hEI.out.1 fun x => by
    rw [m24 x, hEI.out.2.1 x, M22.out x, M23.out x]
    exact And.comm).symm
  have O25 := hidden (restF fc24 (by have := hEI.out.2.2; omega))
  clear fc24 m24 M22 M23 O24
  go_wp2_with fail
  refine O25.out.mono ?_
  rintro e v25 ⟨A25, c25, rfl, i25, b25⟩
  have HB26 := hidden (HB21.out.trans (b25.mono HB21.out.size))
  have HA26 := hidden (HA21.out.on b25)
  have HX26 := hidden (HX21.out.on b25)
  have R3x26 := hidden (R3x21.out.on b25)
  have R8x26 := hidden (R8x21.out.on b25)
  have R13x26 := hidden (R13x21.out.on b25)
  clear b25 HB21 HA21 HX21 R3x21 R8x21 R13x21 O25
  have R25x25 := hidden i25
  clear i25
  have O27 := hidden (sameI_yes _ _ _ c25 c8 _ _ R25x25.out R8x26.out)
  go_wp2_with fail
  refine O27.out.mono ?_
  rintro e v27 ⟨rfl, b27⟩
  have HB28 := hidden (HB26.out.trans (b27.mono HB26.out.size))
  have HA28 := hidden (HA26.out.on b27)
  have HX28 := hidden (HX26.out.on b27)
  have R3x28 := hidden (R3x26.out.on b27)
  have R8x28 := hidden (R8x26.out.on b27)
  have R13x28 := hidden (R13x26.out.on b27)
  have R25x28 := hidden (R25x25.out.on b27)
  clear b27 HB26 HA26 HX26 R3x26 R8x26 R13x26 R25x25 O27
  clear R25x28
  have O29 := hidden (ofTF _ _ c8 _ _ R8x28.out)
  go_wp2_with fail
  refine O29.out.mono ?_
  rintro e v29 ⟨a29, E29, F29, rfl, fc29, m29, l29⟩
  have O30 := hidden (ofTF _ _ c13 _ _ (R13x28.out.on fc29.2.2))
  have FC29 := hidden fc29
  have M29 := hidden m29
  clear fc29 m29 l29 O29
  go_wp2_with fail
  refine O30.out.mono ?_
  rintro e v30 ⟨a30, E30, F30, rfl, fc30, m30, l30⟩
  have O31 := hidden (andF FC29.out fc30)
  have M30 := hidden m30
  clear fc30 m30 l30 O30 FC29
  go_wp2_with fail
  refine O31.out.mono ?_
  rintro e v31 ⟨a31, E31, F31, rfl, fc31, m31⟩
  obtain rfl : EZ = E31 := (rising_ext fc31.rising hEZ.out.1 fun x => by
    rw [m31 x, hEZ.out.2.1 x, M29.out x, M30.out x]
    rw [hEI.out.2.1 x, hED.out.2.1 x]; exact ⟨fun h => absurd h.1.2 h.2.2, False.elim⟩).symm
  have O32 := hidden (restF fc31 (by have := hEZ.out.2.2; omega))
  clear fc31 m31 M29 M30 O31
  go_wp2_with fail
  refine O32.out.mono ?_
  rintro e v32 ⟨A32, c32, rfl, i32, b32⟩
  have HB33 := hidden (HB28.out.trans (b32.mono HB28.out.size))
  have HA33 := hidden (HA28.out.on b32)
  have HX33 := hidden (HX28.out.on b32)
  have R3x33 := hidden (R3x28.out.on b32)
  have R8x33 := hidden (R8x28.out.on b32)
  have R13x33 := hidden (R13x28.out.on b32)
  clear b32 HB28 HA28 HX28 R3x28 R8x28 R13x28 O32
  have R32x32 := hidden i32
  clear i32
  clear R32x32
  have O34 := hidden (ofTF _ _ c _ _ HA33.out)
  go_wp2_with fail
  refine O34.out.mono ?_
  rintro e v34 ⟨a34, E34, F34, rfl, fc34, m34, l34⟩
  have O35 := hidden (ofTF _ _ d _ _ (HX33.out.on fc34.2.2))
  have FC34 := hidden fc34
  have M34 := hidden m34
  clear fc34 m34 l34 O34
  go_wp2_with fail
  refine O35.out.mono ?_
  rintro e v35 ⟨a35, E35, F35, rfl, fc35, m35, l35⟩
  have O36 := hidden (orF FC34.out fc35)
  have M35 := hidden m35
  clear fc35 m35 l35 O35 FC34
  go_wp2_with fail
  refine O36.out.mono ?_
  rintro e v36 ⟨a36, E36, F36, rfl, fc36, m36⟩
  obtain rfl : EU = E36 := (rising_ext fc36.rising hEU.out.1 fun x => by
    rw [m36 x, hEU.out.2.1 x, M34.out x, M35.out x]).symm
  have O37 := hidden (restF fc36 (by have := hEU.out.2.2; omega))
  clear fc36 m36 M34 M35 O36
  go_wp2_with fail
  refine O37.out.mono ?_
  rintro e v37 ⟨A37, c37, rfl, i37, b37⟩
  have HB38 := hidden (HB33.out.trans (b37.mono HB33.out.size))
  have HA38 := hidden (HA33.out.on b37)
  have HX38 := hidden (HX33.out.on b37)
  have R3x38 := hidden (R3x33.out.on b37)
  have R8x38 := hidden (R8x33.out.on b37)
  have R13x38 := hidden (R13x33.out.on b37)
  clear b37 HB33 HA33 HX33 R3x33 R8x33 R13x33 O37
  have R37x37 := hidden i37
  clear i37
  have O39 := hidden (ofTF _ _ d _ _ HX38.out)
  go_wp2_with fail
  refine O39.out.mono ?_
  rintro e v39 ⟨a39, E39, F39, rfl, fc39, m39, l39⟩
  obtain rfl : EB = E39 := (rising_ext fc39.rising hEB.out.1 fun x => by
    rw [m39 x, hEB.out.2.1 x]).symm
  have O40 := hidden (restF fc39 (by have := hEB.out.2.2; omega))
  clear fc39 m39 l39 O39
  go_wp2_with fail
  refine O40.out.mono ?_
  rintro e v40 ⟨A40, c40, rfl, i40, b40⟩
  have HB41 := hidden (HB38.out.trans (b40.mono HB38.out.size))
  have HA41 := hidden (HA38.out.on b40)
  have HX41 := hidden (HX38.out.on b40)
  have R3x41 := hidden (R3x38.out.on b40)
  have R8x41 := hidden (R8x38.out.on b40)
  have R13x41 := hidden (R13x38.out.on b40)
  have R37x41 := hidden (R37x37.out.on b40)
  clear b40 HB38 HA38 HX38 R3x38 R8x38 R13x38 R37x37 O40
  have R40x40 := hidden i40
  clear i40
  go_wp2_with fail
  go_ret
  exact ⟨rfl, HB41.out⟩

section
variable {H : Type} {enc : TypeId × Value → H} {W : World} {b : Nat}
theorem fm_ints : ∀ l : List Int, l.flatMap (fun x : Int => [Value.int .i64 x]) = l.map (Value.int .i64)
  | [] => rfl
  | x :: l => by rw [List.flatMap_cons, fm_ints l]; rfl
theorem open_ints {base : Nat} {v : Value} {d : DataW H} {ps : List MemPlace} (hv : Value.okWide Try.prog W .any base 69 v) (h : DataW.Trod enc Try.prog W 0 (fun _ => true) true 69 v d ps) (hF : Fits Try.prog W b 69 (d, ps)) :
    ∃ s : Sl Int, v = s.val ∧ IntF W s.A s.n s.l ∧ s.n ≤ b := by
  obtain ⟨s, rfl, hs, hok, hn, hb⟩ := open_arg_slice (k := 1) (f := fun x : Int => [Value.int .i64 x]) Try.underlying69 (by kernel_rfl) (by decide) (fun _ => rfl) (opens_int Try.underlying3) hv h hF
  rw [show Try.prog.bytesOf 3 = 8 from by kernel_rfl] at hn
  simp only [reachBytes] at hn
  have hr := hs.2.2
  rw [show s.l.flatMap (fun x : Int => [Value.int .i64 x]) = s.l.map (Value.int .i64) from fm_ints s.l] at hr
  exact ⟨s, rfl, ⟨hr, hs.2.1, hn, fun x hx => by have := wf_i64 (hok x hx); unfold inI; omega⟩, hb⟩
end

theorem postSets_walk {H : Type} (enc : TypeId × Value → H) : LawWalk enc Try.prog 13 Try.f13 (fun ds => Rows.uptoBulkAll ds ≤ 1048576) := by
  intro W base args ds p hval hA hlt hsz hcond
  rw [Try.params13] at hval hA hsz
  obtain ⟨v0, vs0, d0, ds0, p0, q0, hargs, rfl, rfl, h0, r0⟩ := trodAll_cons hA
  obtain ⟨v1, vs1, d1, ds1, p1, q1, rfl, rfl, rfl, h1, r1⟩ := trodAll_cons r0
  obtain ⟨rfl, rfl, rfl⟩ := trodAll_nil r1
  obtain rfl : args = #[v0, v1] := by cases args; simp_all
  obtain ⟨s, rfl, hs, hsn⟩ := open_ints (hval 0 69 v0 rfl rfl) h0 (arg_fits (b := Rows.uptoBulkAll [d0, d1]) (j := 0) rfl rfl (fun x hx => hlt x (by simp [hx])) hsz (Nat.le_refl _))
  obtain ⟨r, rfl, hr, hrn⟩ := open_ints (hval 1 69 v1 rfl rfl) h1 (arg_fits (b := Rows.uptoBulkAll [d0, d1]) (j := 1) rfl rfl (fun x hx => hlt x (by simp [hx])) hsz (Nat.le_refl _))
  exact postSets_any s.A s.n s.c s.l r.A r.n r.c r.l W hs hr (Nat.le_trans hsn hcond) (Nat.le_trans hrn hcond)

namespace postSetsUpto
set_option maxRecDepth 100000 in
theorem lifted (os : Os) (started : os.Started) (H : Type) (enc : TypeId × Value → H) (F : Stop.Interp) :
    ReturnsInHanded {} Try.checked os 13 .any ((Rows.OpenSpec.upto Rows.postSetsSpec).pre6 enc Try.prog Try.f13 Rows.postSetsUptoRow.domain false) (((Rows.OpenSpec.upto Rows.postSetsSpec).at F).post enc Try.prog Try.f13 false true false false) :=
  law_upto (C := Try.checked) (s := Rows.postSetsSpec) (tb := 4) own_prog started (by kernel_rfl) Try.func13
    (OpenSpec.witness (enc := enc) (C := Try.checked) (s := Rows.OpenSpec.upto Rows.postSetsSpec) (k := Rows.uptoSmall) rfl false ⟨#[], #[.slice none 0 0, .slice none 0 0], []⟩ 8 (by kernel_rfl) (by kernel_rfl) (by kernel_rfl)
      (x := ([.nil, .nil], [], [])) (by kernel_rfl) rfl (by kernel_rfl))
    laidOut (by kernel_rfl) rfl Try.underlying4 ⟨rfl, fun H ds h => match ds, h with | [_, _], _ => ⟨rfl, rfl, rfl⟩⟩ (postSets_walk enc)

theorem proved : Rows.PostSetsUptoSaid :=
  OpenClaim.holds_of_cond 13 Try.f13 rfl rfl rfl rfl rfl rfl rfl ⟨rfl, rfl, rfl, rfl, rfl⟩ rfl rfl rfl rfl rfl (by kernel_rfl) Try.func13 (by kernel_rfl)
    (of_decide_eq_true (by kernel_rfl)) (by unfold Func.isWrapper; first | (rw [if_pos (by decide +kernel)]; kernel_rfl) | (rw [if_neg (by decide +kernel)]; exact ⟨rfl, rfl⟩))
    (fun os started H enc _ F => lifted os started H enc F)
#print axioms proved
end postSetsUpto

end Go.Proofs.Ytjklonfheenfbaa
