/- LabelsOne: bytes and texts that are read are the one form of their set. Condition: the arguments are within the bulk that the statement names. -/
import Derived.Test.YtfidneoakcejgaaRdLaw
import Derived.Test.YtfidneoakcejgaaLabLaw
namespace Go.Proofs.Ytfidneoakcejgaa
set_option maxRecDepth 100000
open Go.RowKit Go.WideShapes Go.ChangeShapes Go.Shelf

set_option maxHeartbeats 3200000 in
theorem labelsOne_any (s : List UInt8) (w : World) (hs : s.length ≤ 1048576) :
    Calls Try.prog 12 #[.string ⟨s.toArray⟩] w fun e w' => e = .returned (.bool true) ∧ Below w.heap.size w w' := by
  have S2 := hidden (fun W => decLaw s 0 W (by omega) (by omega) (by omega))
  obtain ⟨X, hX⟩ : ∃ X, (⟨s.toArray⟩ : ByteArray) = X := ⟨_, rfl⟩
  have hXs : X.size = s.length := by rw [← hX]; rfl
  have S3 := hidden (fun W => readLaw X W (by omega))
  have hRE := readL_err X
  have hXX : (X.toList == X.toList) = true := beq_self_eq_true _
  rw [hX] at S2 ⊢
  obtain ⟨L, p, e, hD⟩ : ∃ L p e, decL s 0 = (L, p, e) := ⟨_, _, _, rfl⟩
  obtain ⟨R, f, hR⟩ : ∃ R f, readL X = (R, f) := ⟨_, _, rfl⟩
  rw [hD] at S2
  rw [hR] at S3 hRE
  simp only at S2 S3 hRE
  by_cases he : e = 0
  · subst he
    obtain ⟨hE, hv, hp0, hp1⟩ := decL_form hD
    obtain ⟨m, rfl⟩ : ∃ m : Nat, p = m := ⟨p.toNat, by omega⟩
    rw [Int.toNat_natCast] at hE
    obtain ⟨T, hT⟩ : ∃ T, (⟨(s.take m).toArray⟩ : ByteArray) = T := ⟨_, rfl⟩
    have hsl : X.extract 0 m = T := by rw [← hT, ← hX]; exact bytes_eq (by rw [ext_list]; simp)
    have S1 := hidden (fun B n c w => lenc_any B n c L w)
    rw [hE, hT] at S1
    have hTT : (T.toList == T.toList) = true := beq_self_eq_true _
    have m0 : decide ((m : Int) < 0) = false := by simp
    have m1 : decide ((X.size : Int) < (m : Int)) = false := by simp; omega
    have m2 : (m : Int) ≤ (X.size : Int) := by omega
    have m3 : (0 : Int) ≤ (m : Int) := by omega
    clear hD hE hv hp0 hp1 hT hX
    rcases hRE with hf | hf
    · subst hf
      have hSH := readL_form hR
      have S4 := hidden (fun B n c w => lshow_any B n c R w)
      rw [hSH] at S4
      clear hR hSH hXs
      go_enter Try.func12, Try.ntmps12
      go_wp2_with fail
      refine (wakes04_any _).mono ?_
      rintro e w1 ⟨rfl, b1⟩
      have HB1 := hidden b1
      clear b1
      go_wp2_with fail
      refine (S2.out _).mono ?_
      rintro e w2 ⟨B2, c2, rfl, hl2, hc2, b2⟩
      have HB2 := hidden (HB1.out.trans (b2.mono HB1.out.size))
      have HL2 := hidden hl2
      clear b2 hl2
      go_wp2_with fail
      refine (S1.out _ _ _ _ HL2.out hc2).mono ?_
      rintro e w3 ⟨rfl, b3⟩
      have HB3 := hidden (HB2.out.trans (b3.mono HB2.out.size))
      clear b3
      go_wp2_with fail
      refine (S3.out _).mono ?_
      rintro e w4 ⟨B4, c4, rfl, hl4, hc4, b4⟩
      have HB4 := hidden (HB3.out.trans (b4.mono HB3.out.size))
      have HR4 := hidden hl4
      clear b4 hl4
      go_wp2_with (go_at_call 39; refine (S4.out _ _ _ _ HR4.out hc4).mono ?_; rintro e w5 ⟨rfl, b5⟩; have HB5 := hidden (HB4.out.trans (b5.mono HB4.out.size)); clear b5)
      go_ret
      exact ⟨rfl, HB5.out⟩
    · injection hf with hf1 hf2
      subst hf1
      subst hf2
      clear hR hXs
      go_enter Try.func12, Try.ntmps12
      go_wp2_with fail
      refine (wakes04_any _).mono ?_
      rintro e w1 ⟨rfl, b1⟩
      have HB1 := hidden b1
      clear b1
      go_wp2_with fail
      refine (S2.out _).mono ?_
      rintro e w2 ⟨B2, c2, rfl, hl2, hc2, b2⟩
      have HB2 := hidden (HB1.out.trans (b2.mono HB1.out.size))
      have HL2 := hidden hl2
      clear b2 hl2
      go_wp2_with fail
      refine (S1.out _ _ _ _ HL2.out hc2).mono ?_
      rintro e w3 ⟨rfl, b3⟩
      have HB3 := hidden (HB2.out.trans (b3.mono HB2.out.size))
      clear b3
      go_wp2_with fail
      refine (S3.out _).mono ?_
      rintro e w4 ⟨B4, c4, rfl, hl4, hc4, b4⟩
      have HB4 := hidden (HB3.out.trans (b4.mono HB3.out.size))
      have HR4 := hidden hl4
      clear b4 hl4
      go_wp2_with fail
      go_ret
      exact ⟨rfl, HB4.out⟩
  · have en : (e == 0) = false := by simpa using he
    clear he hD hX
    rcases hRE with hf | hf
    · subst hf
      have hSH := readL_form hR
      have S4 := hidden (fun B n c w => lshow_any B n c R w)
      rw [hSH] at S4
      clear hR hSH hXs
      go_enter Try.func12, Try.ntmps12
      go_wp2_with fail
      refine (wakes04_any _).mono ?_
      rintro e w1 ⟨rfl, b1⟩
      have HB1 := hidden b1
      clear b1
      go_wp2_with fail
      refine (S2.out _).mono ?_
      rintro e w2 ⟨B2, c2, rfl, hl2, hc2, b2⟩
      have HB2 := hidden (HB1.out.trans (b2.mono HB1.out.size))
      have HL2 := hidden hl2
      clear b2 hl2
      go_wp2_with fail
      refine (S3.out _).mono ?_
      rintro e w4 ⟨B4, c4, rfl, hl4, hc4, b4⟩
      have HB4 := hidden (HB2.out.trans (b4.mono HB2.out.size))
      have HR4 := hidden hl4
      clear b4 hl4
      go_wp2_with (go_at_call 39; refine (S4.out _ _ _ _ HR4.out hc4).mono ?_; rintro e w5 ⟨rfl, b5⟩; have HB5 := hidden (HB4.out.trans (b5.mono HB4.out.size)); clear b5)
      go_ret
      exact ⟨rfl, HB5.out⟩
    · injection hf with hf1 hf2
      subst hf1
      subst hf2
      clear hR hXs
      go_enter Try.func12, Try.ntmps12
      go_wp2_with fail
      refine (wakes04_any _).mono ?_
      rintro e w1 ⟨rfl, b1⟩
      have HB1 := hidden b1
      clear b1
      go_wp2_with fail
      refine (S2.out _).mono ?_
      rintro e w2 ⟨B2, c2, rfl, hl2, hc2, b2⟩
      have HB2 := hidden (HB1.out.trans (b2.mono HB1.out.size))
      have HL2 := hidden hl2
      clear b2 hl2
      go_wp2_with fail
      refine (S3.out _).mono ?_
      rintro e w4 ⟨B4, c4, rfl, hl4, hc4, b4⟩
      have HB4 := hidden (HB2.out.trans (b4.mono HB2.out.size))
      have HR4 := hidden hl4
      clear b4 hl4
      go_wp2_with fail
      go_ret
      exact ⟨rfl, HB4.out⟩

theorem labelsOne_walk {H : Type} (enc : TypeId × Value → H) : LawWalk enc Try.prog 12 Try.f12 (fun ds => Rows.uptoBulkAll ds ≤ 1048576) := by
  intro W base args ds p hval hA hlt hsz hcond
  rw [Try.params12] at hval hA hsz
  obtain ⟨v0, vs0, d0, ds0, p0, q0, hargs, rfl, rfl, h0, r0⟩ := trodAll_cons hA
  obtain ⟨rfl, rfl, rfl⟩ := trodAll_nil r0
  obtain rfl : args = #[v0] := by cases args; simp_all
  obtain ⟨r, rfl, hr⟩ := open_text_n Try.underlying9 (hval 0 9 v0 rfl rfl) h0 (arg_fits (b := Rows.uptoBulkAll [d0]) (j := 0) rfl rfl (fun x hx => hlt x (by simp [hx])) hsz (Nat.le_refl _))
  exact labelsOne_any r W (Nat.le_trans hr hcond)

namespace labelsOneUpto
set_option maxRecDepth 100000 in
theorem lifted (os : Os) (started : os.Started) (H : Type) (enc : TypeId × Value → H) (F : Stop.Interp) :
    ReturnsInHanded {} Try.checked os 12 .any ((Rows.OpenSpec.upto Rows.labelsOneSpec).pre6 enc Try.prog Try.f12 Rows.labelsOneUptoRow.domain false) (((Rows.OpenSpec.upto Rows.labelsOneSpec).at F).post enc Try.prog Try.f12 false true false false) :=
  law_upto (C := Try.checked) (s := Rows.labelsOneSpec) (tb := 4) own_prog started (by kernel_rfl) Try.func12
    (OpenSpec.witness (enc := enc) (C := Try.checked) (s := Rows.OpenSpec.upto Rows.labelsOneSpec) (k := Rows.uptoSmall) rfl false ⟨#[], #[.string ⟨#[]⟩], []⟩ 8 (by kernel_rfl) (by kernel_rfl) (by kernel_rfl)
      (x := ([.lit (.string [])], [], [])) (by kernel_rfl) rfl (by kernel_rfl))
    laidOut (by kernel_rfl) rfl Try.underlying4 ⟨rfl, fun H ds h => match ds, h with | [_], _ => ⟨rfl, rfl, rfl⟩⟩ (labelsOne_walk enc)

theorem proved : Rows.LabelsOneUptoSaid :=
  OpenClaim.holds_of_cond 12 Try.f12 rfl rfl rfl rfl rfl rfl rfl ⟨rfl, rfl, rfl, rfl, rfl⟩ rfl rfl rfl rfl rfl (by kernel_rfl) Try.func12 (by kernel_rfl)
    (of_decide_eq_true (by kernel_rfl)) (by unfold Func.isWrapper; first | (rw [if_pos (by decide +kernel)]; kernel_rfl) | (rw [if_neg (by decide +kernel)]; exact ⟨rfl, rfl⟩))
    (fun os started H enc _ F => lifted os started H enc F)
#print axioms proved
end labelsOneUpto

end Go.Proofs.Ytfidneoakcejgaa
