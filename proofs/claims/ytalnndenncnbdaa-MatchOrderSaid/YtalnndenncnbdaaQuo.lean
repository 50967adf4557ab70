/- labels.Quote, walked: a text in quotation marks. Condition: the text is within the reach. -/
import Derived.Test.YtalnndenncnbdaaQuoP
import Derived.Test.YtalnndenncnbdaaEncU
import Derived.Test.YtalnndenncnbdaaLabFit
import Derived.Deep.RegionHeld3
namespace Go.Proofs.Ytalnndenncnbdaa
set_option maxRecDepth 100000
open Go.RowKit

theorem bytes_one (b : UInt8) : Lib.byteCells [b] = [.int .u8 (b.toNat : Int)] := by
  have := byteCells_one b.toNat_lt
  simpa using this
theorem hexs : ∀ (H L : Fin 16), ((⟨#[92, 120]⟩ : ByteArray) ++ (⟨#[48, 49, 50, 51, 52, 53, 54, 55, 56, 57, 97, 98, 99, 100, 101, 102]⟩ : ByteArray).extract H.val (H.val + 1) ++ (⟨#[48, 49, 50, 51, 52, 53, 54, 55, 56, 57, 97, 98, 99, 100, 101, 102]⟩ : ByteArray).extract L.val (L.val + 1)).data.toList = [92, 120, hexD H.val, hexD L.val] := by decide +kernel
theorem hexs_of {H L : Nat} (h : H < 16) (l : L < 16) : ((⟨#[92, 120]⟩ : ByteArray) ++ (⟨#[48, 49, 50, 51, 52, 53, 54, 55, 56, 57, 97, 98, 99, 100, 101, 102]⟩ : ByteArray).extract H (H + 1) ++ (⟨#[48, 49, 50, 51, 52, 53, 54, 55, 56, 57, 97, 98, 99, 100, 101, 102]⟩ : ByteArray).extract L (L + 1)) = ⟨[92, 120, hexD H, hexD L].toArray⟩ :=
  bytes_eq (hexs ⟨H, h⟩ ⟨L, l⟩)
theorem ext_ones : ∀ H : Fin 16, ((⟨#[48, 49, 50, 51, 52, 53, 54, 55, 56, 57, 97, 98, 99, 100, 101, 102]⟩ : ByteArray).extract H.val (H.val + 1)).size = 1 := by decide +kernel
theorem ext_one {H : Nat} (h : H < 16) : ((⟨#[48, 49, 50, 51, 52, 53, 54, 55, 56, 57, 97, 98, 99, 100, 101, 102]⟩ : ByteArray).extract H (H + 1)).size = 1 := ext_ones ⟨H, h⟩
theorem and15s : ∀ n : Fin 256, bits .and .u8 ((n.val : Nat) : Int) 15 = ((n.val % 16 : Nat) : Int) := by decide +kernel
theorem and15 (b : UInt8) : bits .and .u8 (b.toNat : Int) 15 = ((b.toNat % 16 : Nat) : Int) := and15s ⟨b.toNat, b.toNat_lt⟩
theorem strCells_list (l : List UInt8) : Lib.strCells ⟨l.toArray⟩ = Lib.byteCells l := by
  simp [Lib.strCells, Lib.byteCells]
set_option maxHeartbeats 6400000 in
theorem lquote_any (v : ByteArray) (w : World) (hv : v.size * 4 + 2 ≤ 140737488355328) :
    Calls Try.prog 20 #[.string v] w fun e w' => e = .returned (.string ⟨(quoteL v.data.toList).toArray⟩) ∧ Below w.heap.size w w' := by
  go_enter Try.func20, Try.ntmps20
  go_wp2_with fail
  have hI : Lib.IsBuilder 74 5 w.heap.size w.heap.size (Lib.byteCells []) (w.alloc (.cells #[.pointer none, .slice none 0 0] 74)) := bld_new w
  have hB : Below w.heap.size w (w.alloc (.cells #[.pointer none, .slice none 0 0] 74)) := (Below.refl _ _).alloc (Nat.le_refl _) _
  generalize w.alloc (.cells #[.pointer none, .slice none 0 0] 74) = w1 at hI hB ⊢
  obtain ⟨g, hg⟩ : ∃ g, w.heap.size = g := ⟨_, rfl⟩
  rw [hg] at hI hB ⊢
  refine (bldByte_any g g (Lib.byteCells []) 34 w1 hI (by decide) (by have := hB.size; omega)).mono ?_
  rintro e w2 ⟨rfl, hb2, hbl2, _⟩
  have hb2' : Lib.IsBuilder 74 5 g g (Lib.byteCells (34 :: quoL (v.data.toList.take 0))) w2 := .inr (by have h := hb2; exact h)
  have HB2 := hidden hb2'
  have HBL2 := hidden (hB.trans hbl2)
  clear hb2 hbl2 hI hB hb2'
  go_wp2_with fail
  go_loopw [9] (fun vi wr => ∃ k : Nat, vi = .int .i64 k ∧ k ≤ v.size ∧ Hid (Lib.IsBuilder 74 5 g g (Lib.byteCells (34 :: quoL (v.data.toList.take k))) wr) ∧ Below g w wr) (fun vi _ => v.size - (intOf vi).toNat)
  case atStart => exact ⟨0, rfl, Nat.zero_le _, HB2, HBL2.out⟩
  case round =>
    obtain ⟨k, rfl, hk, hb, hbl⟩ := hrel
    have k0 : (0 : Int) ≤ (k : Int) := by omega
    have HBL := hidden hbl
    clear hbl
    have hql := quoL_len (v.data.toList.take k)
    by_cases hlt : k < v.size
    · have k1 : (k : Int) < (v.size : Int) := by omega
      obtain ⟨b, hbe, hbat⟩ := str_at hlt
      have hT := hidden (take_snoc? hbat)
      have h256 := size_lt b
      have hsz : (Lib.byteCells (34 :: quoL (v.data.toList.take k))).length ≤ 4 * k + 1 := by
        rw [Lib.byteCells_length, List.length_cons]
        have : (v.data.toList.take k).length ≤ k := List.length_take_le _ _
        omega
      clear hbat
      by_cases h1 : b.toNat = 34
      · have e34 : ((b.toNat : Int) == 34) = true := by simp [h1]
        have HQ := hidden (show b.toNat = 34 ∨ b.toNat = 92 from .inl h1)
        clear h1
        go_wp2_with fail
        refine (bldByte_any g g _ 92 wr hb.out (by omega) (by have := HBL.out.size; omega)).mono ?_
        rintro e w5 ⟨rfl, hb5, hbl5, _⟩
        have HB5 := hidden hb5
        have HBL5 := hidden (HBL.out.trans hbl5)
        clear hb5 hbl5
        go_wp2_with fail
        refine (bldByte_any g g _ (b.toNat : Int) w5 (.inr HB5.out) (by rw [List.length_append]; simp only [List.length_singleton]; omega) (by have := HBL5.out.size; omega)).mono ?_
        rintro e w6 ⟨rfl, hb6, hbl6, _⟩
        have hby : Lib.byteCells (34 :: quoL (v.data.toList.take k)) ++ [.int .u8 92] ++ [.int .u8 (b.toNat : Int)] = Lib.byteCells (34 :: quoL (v.data.toList.take (k + 1))) := by
          have e2 : quoB b = [92] ++ [b] := by unfold quoB; rw [if_pos HQ.out]; rfl
          rw [hT.out, quoL_snoc, e2, ← List.append_assoc, ← List.cons_append, ← List.cons_append, Lib.byteCells_append, Lib.byteCells_append, bytes_one b]; rfl
        rw [hby] at hb6
        have HB6 : Hid (Lib.IsBuilder 74 5 g g (Lib.byteCells (34 :: quoL (v.data.toList.take (k + 1)))) w6) := .inr hb6
        have HBL6 := hidden (HBL5.out.trans hbl6)
        clear hb6 hbl6 hby
        go_wp2_with fail
        go_roundw
        case rel => exact ⟨k + 1, by go_num, by omega, HB6, HBL6.out⟩
        case measure => simp [intOf]; omega
      · have e34 : ((b.toNat : Int) == 34) = false := by simp; omega
        by_cases h2 : b.toNat = 92
        · have e92 : ((b.toNat : Int) == 92) = true := by simp [h2]
          have HQ := hidden (show b.toNat = 34 ∨ b.toNat = 92 from .inr h2)
          clear h2
          go_wp2_with fail
          refine (bldByte_any g g _ 92 wr hb.out (by omega) (by have := HBL.out.size; omega)).mono ?_
          rintro e w5 ⟨rfl, hb5, hbl5, _⟩
          have HB5 := hidden hb5
          have HBL5 := hidden (HBL.out.trans hbl5)
          clear hb5 hbl5
          go_wp2_with fail
          refine (bldByte_any g g _ (b.toNat : Int) w5 (.inr HB5.out) (by rw [List.length_append]; simp only [List.length_singleton]; omega) (by have := HBL5.out.size; omega)).mono ?_
          rintro e w6 ⟨rfl, hb6, hbl6, _⟩
          have hby : Lib.byteCells (34 :: quoL (v.data.toList.take k)) ++ [.int .u8 92] ++ [.int .u8 (b.toNat : Int)] = Lib.byteCells (34 :: quoL (v.data.toList.take (k + 1))) := by
            have e2 : quoB b = [92] ++ [b] := by unfold quoB; rw [if_pos HQ.out]; rfl
            rw [hT.out, quoL_snoc, e2, ← List.append_assoc, ← List.cons_append, ← List.cons_append, Lib.byteCells_append, Lib.byteCells_append, bytes_one b]; rfl
          rw [hby] at hb6
          have HB6 : Hid (Lib.IsBuilder 74 5 g g (Lib.byteCells (34 :: quoL (v.data.toList.take (k + 1)))) w6) := .inr hb6
          have HBL6 := hidden (HBL5.out.trans hbl6)
          clear hb6 hbl6 hby
          go_wp2_with fail
          go_roundw
          case rel => exact ⟨k + 1, by go_num, by omega, HB6, HBL6.out⟩
          case measure => simp [intOf]; omega
        · have e92 : ((b.toNat : Int) == 92) = false := by simp; omega
          by_cases h3 : 32 ≤ b.toNat ∧ b.toNat ≤ 126
          · have i32 : (32 : Int) ≤ (b.toNat : Int) := by omega
            have i126 : (b.toNat : Int) ≤ 126 := by omega
            go_wp2_with fail
            refine (bldByte_any g g _ (b.toNat : Int) wr hb.out (by omega) (by have := HBL.out.size; omega)).mono ?_
            rintro e w6 ⟨rfl, hb6, hbl6, _⟩
            have hby : Lib.byteCells (34 :: quoL (v.data.toList.take k)) ++ [.int .u8 (b.toNat : Int)] = Lib.byteCells (34 :: quoL (v.data.toList.take (k + 1))) := by
              have e2 : quoB b = [b] := by unfold quoB; rw [if_neg (by omega), if_pos h3]
              rw [hT.out, quoL_snoc, e2, ← List.cons_append, Lib.byteCells_append, bytes_one b]
            rw [hby] at hb6
            have HB6 : Hid (Lib.IsBuilder 74 5 g g (Lib.byteCells (34 :: quoL (v.data.toList.take (k + 1)))) w6) := .inr hb6
            have HBL6 := hidden (HBL.out.trans hbl6)
            clear hb6 hbl6 hby
            go_wp2_with fail
            go_roundw
            case rel => exact ⟨k + 1, by go_num, by omega, HB6, HBL6.out⟩
            case measure => simp [intOf]; omega
          · by_cases h4 : 32 ≤ b.toNat
            · have i32 : (32 : Int) ≤ (b.toNat : Int) := by omega
              have i126 : decide ((b.toNat : Int) ≤ 126) = false := by simp; omega
              obtain ⟨H, hH⟩ : ∃ H, b.toNat / 16 = H := ⟨_, rfl⟩
              obtain ⟨D, hD⟩ : ∃ D, b.toNat % 16 = D := ⟨_, rfl⟩
              have fH : (b.toNat : Int) / 16 = (H : Int) := by omega
              have fD : (b.toNat : Int) % 16 = (D : Int) := by omega
              have hH16 : H < 16 := by omega
              have hD16 : D < 16 := by omega
              have wH : IntKind.u8.wrap ((H : Int) + 1) = (H : Int) + 1 := by rw [IntKind.wrap_u8']; omega
              have wD : IntKind.u8.wrap ((D : Int) + 1) = (D : Int) + 1 := by rw [IntKind.wrap_u8']; omega
              have b1 : (0 : Int) ≤ (H : Int) := by omega
              have b2 : (H : Int) ≤ (H : Int) + 1 := by omega
              have b3 : (H : Int) + 1 ≤ 16 := by omega
              have b4 : (0 : Int) ≤ (D : Int) := by omega
              have b5 : (D : Int) ≤ (D : Int) + 1 := by omega
              have b6 : (D : Int) + 1 ≤ 16 := by omega
              have b7 : ((H : Int) + 1).toNat = H + 1 := by omega
              have b8 : ((D : Int) + 1).toNat = D + 1 := by omega
              have hstr := hexs_of hH16 hD16
              obtain ⟨X1, hX1⟩ : ∃ X, (⟨#[48, 49, 50, 51, 52, 53, 54, 55, 56, 57, 97, 98, 99, 100, 101, 102]⟩ : ByteArray).extract H (H + 1) = X := ⟨_, rfl⟩
              obtain ⟨X2, hX2⟩ : ∃ X, (⟨#[48, 49, 50, 51, 52, 53, 54, 55, 56, 57, 97, 98, 99, 100, 101, 102]⟩ : ByteArray).extract D (D + 1) = X := ⟨_, rfl⟩
              rw [hX1, hX2] at hstr
              have HSTR := hidden hstr
              have hsz4 : ((⟨#[92, 120]⟩ : ByteArray) ++ X1 ++ X2).size = 4 := by rw [hstr]; rfl
              have HSZ4 := hidden hsz4
              have HH := hidden (And.intro hH hD)
              have S1 := hidden (bldStr_any g g _ ((⟨#[92, 120]⟩ : ByteArray) ++ X1 ++ X2) wr.drew (bld_below hb.out (Below.refl _ _).drew) (by rw [HSZ4.out]; omega) (by have := HBL.out.size; show g ≤ wr.heap.size; omega))
              have z1 : X1.size = 1 := by rw [← hX1]; exact ext_one hH16
              have z2 : X2.size = 1 := by rw [← hX2]; exact ext_one hD16
              have fD2 : bits .and .u8 (b.toNat : Int) 15 = (D : Int) := by rw [and15 b, hD]
              clear hH hD hstr hsz4
              go_wp2_with fail
              go_region_held3 (fun w' => True) (trivial) (first | (go_at_call 34; refine S1.out.mono ?_; rintro e w6 ⟨rfl, hb6, hbl6, _⟩))
              have hby : Lib.byteCells (34 :: quoL (v.data.toList.take k)) ++ Lib.strCells ((⟨#[92, 120]⟩ : ByteArray) ++ X1 ++ X2) = Lib.byteCells (34 :: quoL (v.data.toList.take (k + 1))) := by
                have e2 : quoB b = [92, 120, hexD H, hexD D] := by unfold quoB; rw [if_neg (by omega), if_neg (by omega), HH.out.1, HH.out.2]
                rw [HSTR.out, hT.out, quoL_snoc, e2, ← List.cons_append, Lib.byteCells_append, strCells_list]
              rw [hby] at hb6
              have HB6 : Hid (Lib.IsBuilder 74 5 g g (Lib.byteCells (34 :: quoL (v.data.toList.take (k + 1)))) w6) := .inr hb6
              have HBL6 := hidden (HBL.out.trans ((Below.refl _ _).drew.trans hbl6))
              clear hb6 hbl6 hby S1
              go_wp2_with fail
              go_roundw
              case rel => exact ⟨k + 1, by go_num, by omega, HB6, HBL6.out⟩
              case measure => simp [intOf]; omega
            · have i32 : ¬ (32 : Int) ≤ (b.toNat : Int) := by omega
              obtain ⟨H, hH⟩ : ∃ H, b.toNat / 16 = H := ⟨_, rfl⟩
              obtain ⟨D, hD⟩ : ∃ D, b.toNat % 16 = D := ⟨_, rfl⟩
              have fH : (b.toNat : Int) / 16 = (H : Int) := by omega
              have fD : (b.toNat : Int) % 16 = (D : Int) := by omega
              have hH16 : H < 16 := by omega
              have hD16 : D < 16 := by omega
              have wH : IntKind.u8.wrap ((H : Int) + 1) = (H : Int) + 1 := by rw [IntKind.wrap_u8']; omega
              have wD : IntKind.u8.wrap ((D : Int) + 1) = (D : Int) + 1 := by rw [IntKind.wrap_u8']; omega
              have b1 : (0 : Int) ≤ (H : Int) := by omega
              have b2 : (H : Int) ≤ (H : Int) + 1 := by omega
              have b3 : (H : Int) + 1 ≤ 16 := by omega
              have b4 : (0 : Int) ≤ (D : Int) := by omega
              have b5 : (D : Int) ≤ (D : Int) + 1 := by omega
              have b6 : (D : Int) + 1 ≤ 16 := by omega
              have b7 : ((H : Int) + 1).toNat = H + 1 := by omega
              have b8 : ((D : Int) + 1).toNat = D + 1 := by omega
              have hstr := hexs_of hH16 hD16
              obtain ⟨X1, hX1⟩ : ∃ X, (⟨#[48, 49, 50, 51, 52, 53, 54, 55, 56, 57, 97, 98, 99, 100, 101, 102]⟩ : ByteArray).extract H (H + 1) = X := ⟨_, rfl⟩
              obtain ⟨X2, hX2⟩ : ∃ X, (⟨#[48, 49, 50, 51, 52, 53, 54, 55, 56, 57, 97, 98, 99, 100, 101, 102]⟩ : ByteArray).extract D (D + 1) = X := ⟨_, rfl⟩
              rw [hX1, hX2] at hstr
              have HSTR := hidden hstr
              have hsz4 : ((⟨#[92, 120]⟩ : ByteArray) ++ X1 ++ X2).size = 4 := by rw [hstr]; rfl
              have HSZ4 := hidden hsz4
              have HH := hidden (And.intro hH hD)
              have S1 := hidden (bldStr_any g g _ ((⟨#[92, 120]⟩ : ByteArray) ++ X1 ++ X2) wr.drew (bld_below hb.out (Below.refl _ _).drew) (by rw [HSZ4.out]; omega) (by have := HBL.out.size; show g ≤ wr.heap.size; omega))
              have z1 : X1.size = 1 := by rw [← hX1]; exact ext_one hH16
              have z2 : X2.size = 1 := by rw [← hX2]; exact ext_one hD16
              have fD2 : bits .and .u8 (b.toNat : Int) 15 = (D : Int) := by rw [and15 b, hD]
              clear hH hD hstr hsz4
              go_wp2_with fail
              go_region_held3 (fun w' => True) (trivial) (first | (go_at_call 34; refine S1.out.mono ?_; rintro e w6 ⟨rfl, hb6, hbl6, _⟩))
              have hby : Lib.byteCells (34 :: quoL (v.data.toList.take k)) ++ Lib.strCells ((⟨#[92, 120]⟩ : ByteArray) ++ X1 ++ X2) = Lib.byteCells (34 :: quoL (v.data.toList.take (k + 1))) := by
                have e2 : quoB b = [92, 120, hexD H, hexD D] := by unfold quoB; rw [if_neg (by omega), if_neg (by omega), HH.out.1, HH.out.2]
                rw [HSTR.out, hT.out, quoL_snoc, e2, ← List.cons_append, Lib.byteCells_append, strCells_list]
              rw [hby] at hb6
              have HB6 : Hid (Lib.IsBuilder 74 5 g g (Lib.byteCells (34 :: quoL (v.data.toList.take (k + 1)))) w6) := .inr hb6
              have HBL6 := hidden (HBL.out.trans ((Below.refl _ _).drew.trans hbl6))
              clear hb6 hbl6 hby S1
              go_wp2_with fail
              go_roundw
              case rel => exact ⟨k + 1, by go_num, by omega, HB6, HBL6.out⟩
              case measure => simp [intOf]; omega
    · obtain rfl : k = v.size := by omega
      have k1 : ¬ (v.size : Int) < (v.size : Int) := by omega
      have hfull : v.data.toList.take v.size = v.data.toList := List.take_of_length_le (Nat.le_refl _)
      rw [hfull] at hb hql
      have hbl3 : (Lib.byteCells (34 :: quoL v.data.toList)).length ≤ 4 * v.size + 1 := by
        rw [Lib.byteCells_length, List.length_cons]
        have : v.data.toList.length = v.size := rfl
        omega
      go_wp2_with fail
      refine (bldByte_any g g _ 34 wr hb.out (by omega) (by have := HBL.out.size; omega)).mono ?_
      rintro e w6 ⟨rfl, hb6, hbl6, _⟩
      have hby : Lib.byteCells (34 :: quoL v.data.toList) ++ [.int .u8 34] = Lib.byteCells (quoteL v.data.toList) := by
        rw [quoteL, ← List.cons_append, Lib.byteCells_append]; rfl
      rw [hby] at hb6
      have HB6 := hidden hb6
      have HBL6 := hidden (HBL.out.trans hbl6)
      clear hb6 hbl6 hby
      go_wp2_with fail
      refine (bldString_any g g (quoteL v.data.toList) w6 (.inr HB6.out) (by simp [quoteL])).mono ?_
      rintro e w7 ⟨rfl, hbl7⟩
      have HBL7 := hidden (HBL6.out.trans hbl7)
      clear hbl7
      go_wp2_with fail
      go_ret
      subst hg
      exact ⟨rfl, HBL7.out⟩
end Go.Proofs.Ytalnndenncnbdaa
