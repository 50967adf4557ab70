/- LabelsBack: a set that is made is read back from its bytes and its text. No condition. -/
import Derived.Test.YtfidneoakcejgaaRdLaw
import Derived.Test.YtfidneoakcejgaaBackP
import Derived.Test.YtfidneoakcejgaaLabLaw
namespace Go.Proofs.Ytfidneoakcejgaa
set_option maxRecDepth 100000
open Go.RowKit Go.WideShapes Go.ChangeShapes

theorem lcmpB (A B : Option Addr) (n m c c2 : Nat) (l l2 : List Lbl) (w : World) (h : LbF w A n l) (h2 : LbF w B m l2) :
    Calls Try.prog 25 #[.slice A n c, .slice B m c2] w fun e w' => e = .returned (.int .i64 (cmpLs l l2)) ∧ Below w.heap.size w w' := by
  refine (lcompare_any A B n m c c2 l l2 w _ _ h.row h2.row (Nat.le_refl _) (Nat.le_refl _) h.len h2.len (by have := h.fit; omega) (by have := h2.fit; omega)).mono ?_
  rintro e w' ⟨rfl, hg⟩
  exact ⟨rfl, hg.below⟩
theorem showL_len {l : List Lbl} (h : validP l) : (showL l).length ≤ 8008 := by
  obtain ⟨h8, hx⟩ := valid_small h
  rw [showL, if_pos h, showP]
  have h1 := joinL_len (l.map partB)
  have h2 := sizes_le (xs := l.map partB) (by
    intro y hy
    obtain ⟨x, hx1, rfl⟩ := List.mem_map.1 hy
    exact partB_size (hx x hx1).1 (hx x hx1).2)
  rw [List.length_map] at h1 h2
  omega

set_option maxHeartbeats 3200000 in
theorem labelsBack_any (A : Option Addr) (n c : Nat) (l : List Lbl) (w : World) (h : LbF w A n l) :
    Calls Try.prog 13 #[.slice A n c] w fun e w' => e = .returned (.bool true) ∧ Below w.heap.size w w' := by
  have H := hidden h
  have S2 := hidden (fun B c w => makeLaw B n c l w)
  clear h
  by_cases he : makeErr l = 0
  · have hM : makeL l = sortN l := if_pos he
    have hv : validP (makeL l) := by rw [hM]; exact sortN_valid he
    have hE := encL_ok hv
    have hS := readL_at hv
    have hSl := showL_len hv
    obtain ⟨hl8, hlx⟩ := valid_small hv
    rw [he] at S2
    clear he hM
    obtain ⟨M, hM⟩ : ∃ M, makeL l = M := ⟨_, rfl⟩
    rw [hM] at S2 hv hE hS hSl hl8 hlx
    have hTz := encB_len hlx
    have hut := uintL_ten (v := M.length) (by omega)
    obtain ⟨T, hT⟩ : ∃ T, (⟨(uintL M.length ++ encB M).toArray⟩ : ByteArray) = T := ⟨_, rfl⟩
    obtain ⟨V, hV⟩ : ∃ V, (⟨(showL M).toArray⟩ : ByteArray) = V := ⟨_, rfl⟩
    have hTs : T.size = (uintL M.length ++ encB M).length := by rw [← hT]; rfl
    have hTl : T.data.toList = uintL M.length ++ encB M := by rw [← hT]
    have hVs : V.size ≤ 16777216 := by rw [← hV]; show (showL M).length ≤ _; omega
    rw [hT] at hE
    rw [hV] at hS
    obtain ⟨X, hX⟩ : ∃ X, (⟨#[120]⟩ : ByteArray) ++ T ++ (⟨#[121]⟩ : ByteArray) = X := ⟨_, rfl⟩
    have hXl : X.data.toList = 120 :: ((uintL M.length ++ encB M) ++ [121]) := by rw [← hX, ← hTl]; simp
    have hTz2 : T.size ≤ 1000 := by rw [hTs, List.length_append]; omega
    have hD := decL_at (s := X.data.toList) (a := 1) hv (by omega) (rest := [121]) (by rw [hXl]; rfl)
    rw [← hTs] at hD
    have S3 := hidden (fun B n c w => lenc_any B n c M w)
    rw [hE] at S3
    have S4 := hidden (fun W => decLaw X.data.toList 1 W (by rw [hXl]; simp only [List.length_cons, List.length_append, List.length_nil] at hTs ⊢; omega) (by omega) (by omega))
    rw [hD, show (⟨X.data.toList.toArray⟩ : ByteArray) = X from bytes_eq (by simp)] at S4
    have S5 := hidden (fun B n c w => lshow_any B n c M w)
    rw [hV] at S5
    have S6 := hidden (fun W => readLaw V W hVs)
    rw [hS] at S6
    simp only at S3 S4 S6
    rw [show (1 : Int) + (T.size : Int) = (T.size : Int) + 1 by omega] at S4
    have hC : Hid (cmpLs M M = 0) := (cmpLs_zero M M).2 rfl
    have S7 := hidden (fun A B n m c c2 w h h2 => lcmpB A B n m c c2 M M w h h2)
    rw [hC.out] at S7
    have n1 : ¬ 9223372036854775807 < 1 + T.size := by omega
    have n2 : ¬ 9223372036854775807 < 1 + T.size + 1 := by omega
    have n3 : IntKind.i64.wrap ((T.size : Int) + 1) = (T.size : Int) + 1 := Go.IntWalk.i64_in _ (by omega)
    have hPP : ((T.size : Int) + 1 == (T.size : Int) + 1) = true := beq_self_eq_true _
    obtain ⟨m, hm⟩ : ∃ m, M.length = m := ⟨_, rfl⟩
    rw [hm] at S2 S4 S6
    have HX := hidden hXl
    clear hE hS hD hT hV hv hM hTl hXl hSl hl8 hlx hTz hut hTs hm
    go_enter Try.func13, Try.ntmps13
    go_wp2_with fail
    refine (wakes04_any _).mono ?_
    rintro e w1 ⟨rfl, b1⟩
    have HB1 := hidden b1
    have HA1 := hidden (H.out.on b1)
    clear b1
    go_wp2_with fail
    refine (twinL _ _ _ _ _ HA1.out).mono ?_
    rintro e w2 ⟨B2, c2, rfl, hl2, hc2, b2⟩
    have HB2 := hidden (HB1.out.trans (b2.mono HB1.out.size))
    have HT2 := hidden hl2
    clear b2 hl2 HA1
    go_wp2_with fail
    refine (S2.out _ _ _ HT2.out hc2).mono ?_
    rintro e w3 ⟨B3, c3, rfl, hl3, hc3, b3⟩
    have HB3 := hidden (HB2.out.trans (b3.mono HB2.out.size))
    have HM3 := hidden hl3
    clear b3 hl3 HT2 S2
    go_wp2_with fail
    refine (S3.out _ _ _ _ HM3.out hc3).mono ?_
    rintro e w4 ⟨rfl, b4⟩
    have HB4 := hidden (HB3.out.trans (b4.mono HB3.out.size))
    have HM4 := hidden (HM3.out.on b4)
    clear b4 HM3 S3
    go_wp2_with fail
    refine (S4.out _).mono ?_
    rintro e w5 ⟨B5, c5, rfl, hl5, hc5, b5⟩
    have HB5 := hidden (HB4.out.trans (b5.mono HB4.out.size))
    have HM5 := hidden (HM4.out.on b5)
    have HA5 := hidden hl5
    clear b5 HM4 S4 hl5
    go_wp2_with fail
    refine (S5.out _ _ _ _ HM5.out hc3).mono ?_
    rintro e w6 ⟨rfl, b6⟩
    have HB6 := hidden (HB5.out.trans (b6.mono HB5.out.size))
    have HM6 := hidden (HM5.out.on b6)
    have HA6 := hidden (HA5.out.on b6)
    clear b6 HM5 HA5 S5
    go_wp2_with fail
    refine (S6.out _).mono ?_
    rintro e w7 ⟨B7, c7, rfl, hl7, hc7, b7⟩
    have HB7 := hidden (HB6.out.trans (b7.mono HB6.out.size))
    have HM7 := hidden (HM6.out.on b7)
    have HA7 := hidden (HA6.out.on b7)
    have HR7 := hidden hl7
    clear b7 hl7 HM6 HA6 S6
    go_wp2_with (first
      | (go_at_call 25; refine (S7.out _ _ _ _ _ _ _ HAb.out HRb.out).mono ?_; rintro e wc ⟨rfl, bc⟩; have HBc := hidden (HBb.out.trans (bc.mono HBb.out.size)); clear bc)
      | (go_at_call 19; refine (alikeL _ _ _ _ _ _ _ HRa.out HTa.out).mono ?_; rintro e wb ⟨rfl, bb⟩; have HBb := hidden (HBa.out.trans (bb.mono HBa.out.size)); have HAb := hidden (HAa.out.on bb); have HRb := hidden (HRa.out.on bb); clear bb)
      | (go_at_call 17; refine (refL _ _ _ _ _ HM9.out).mono ?_; rintro e wa ⟨Ba, ca, rfl, hla, hca, ba⟩; have HBa := hidden (HB9.out.trans (ba.mono HB9.out.size)); have HTa := hidden hla; have HAa := hidden (HA9.out.on ba); have HRa := hidden (HR9.out.on ba); clear ba hla)
      | (go_at_call 19; refine (alikeL _ _ _ _ _ _ _ HA8.out HT8.out).mono ?_; rintro e w9 ⟨rfl, b9⟩; have HB9 := hidden (HB8.out.trans (b9.mono HB8.out.size)); have HM9 := hidden (HM8.out.on b9); have HA9 := hidden (HA8.out.on b9); have HR9 := hidden (HR8.out.on b9); clear b9)
      | (go_at_call 17; refine (refL _ _ _ _ _ HM7.out).mono ?_; rintro e w8 ⟨B8, c8, rfl, hl8, hc8, b8⟩; have HB8 := hidden (HB7.out.trans (b8.mono HB7.out.size)); have HT8 := hidden hl8; have HM8 := hidden (HM7.out.on b8); have HA8 := hidden (HA7.out.on b8); have HR8 := hidden (HR7.out.on b8); clear b8 hl8))
    go_ret
    exact ⟨rfl, HBc.out⟩
  · have hM : makeL l = [] := if_neg he
    have e0 : (((makeErr l : Nat) : Int) != 0) = true := by simpa using he
    rw [hM] at S2
    obtain ⟨E, hE⟩ : ∃ E : Int, ((makeErr l : Nat) : Int) = E := ⟨_, rfl⟩
    rw [hE] at S2 e0
    clear he hM hE
    go_enter Try.func13, Try.ntmps13
    go_wp2_with fail
    refine (wakes04_any _).mono ?_
    rintro e w1 ⟨rfl, b1⟩
    have HB1 := hidden b1
    have HA1 := hidden (H.out.on b1)
    clear b1
    go_wp2_with fail
    refine (twinL _ _ _ _ _ HA1.out).mono ?_
    rintro e w2 ⟨B2, c2, rfl, hl2, hc2, b2⟩
    have HB2 := hidden (HB1.out.trans (b2.mono HB1.out.size))
    have HT2 := hidden hl2
    clear b2 hl2 HA1
    go_wp2_with fail
    refine (S2.out _ _ _ HT2.out hc2).mono ?_
    rintro e w3 ⟨B3, c3, rfl, hl3, hc3, b3⟩
    have HB3 := hidden (HB2.out.trans (b3.mono HB2.out.size))
    clear b3 hl3 HT2 S2
    go_wp2_with fail
    go_ret
    exact ⟨rfl, HB3.out⟩

theorem labelsBack_walk {H : Type} (enc : TypeId × Value → H) : LawWalk enc Try.prog 13 Try.f13 (fun _ => True) := by
  intro W base args ds p hval hA hlt hsz _
  rw [Try.params13] at hval hA hsz
  obtain ⟨v0, vs0, d0, ds0, p0, q0, hargs, rfl, rfl, h0, r0⟩ := trodAll_cons hA
  obtain ⟨rfl, rfl, rfl⟩ := trodAll_nil r0
  obtain rfl : args = #[v0] := by cases args; simp_all
  obtain ⟨A, n, c, l, rfl, hl, _⟩ := open_labels (hval 0 22 v0 rfl rfl) h0 (arg_fits (b := Rows.uptoBulkAll [d0]) (j := 0) rfl rfl (fun x hx => hlt x (by simp [hx])) hsz (Nat.le_refl _))
  exact labelsBack_any A n c l W hl

namespace labelsBack
set_option maxRecDepth 100000 in
theorem lifted (os : Os) (started : os.Started) (H : Type) (enc : TypeId × Value → H) :
    ReturnsInHanded {} Try.checked os 13 .any (Rows.labelsBackSpec.pre6 enc Try.prog Try.f13 Rows.labelsBackRow.domain false) (Rows.labelsBackSpec.post enc Try.prog Try.f13 false true false false) :=
  law_said (C := Try.checked) (s := Rows.labelsBackSpec) (tb := 4) own_prog started (by kernel_rfl) Try.func13
    (ChangeSpec.witness6 (enc := enc) (C := Try.checked) false ⟨#[], #[.slice none 0 0], []⟩ 8 (by kernel_rfl) (by kernel_rfl) (by kernel_rfl) (by kernel_rfl))
    laidOut (by kernel_rfl) rfl Try.underlying4 ⟨rfl, fun H ds h => match ds, h with | [_], _ => ⟨rfl, rfl, rfl⟩⟩ (labelsBack_walk enc)

theorem proved : Rows.LabelsBackSaid :=
  OpenClaim.holds_of_wide 13 Try.f13 rfl rfl rfl rfl rfl rfl rfl ⟨rfl, rfl, rfl, rfl, rfl⟩ rfl rfl rfl rfl rfl (by kernel_rfl) Try.func13 (by kernel_rfl)
    (of_decide_eq_true (by kernel_rfl)) (by unfold Func.isWrapper; first | (rw [if_pos (by decide +kernel)]; kernel_rfl) | (rw [if_neg (by decide +kernel)]; exact ⟨rfl, rfl⟩))
    (fun os started H enc _ => lifted os started H enc)
#print axioms proved
end labelsBack

end Go.Proofs.Ytfidneoakcejgaa
