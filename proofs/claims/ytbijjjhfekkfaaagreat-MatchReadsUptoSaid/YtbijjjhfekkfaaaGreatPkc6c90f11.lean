/- labels.Quote, walked: a text in quotation marks. Condition: the text is within the reach. match: Show, walked. Condition: the text is within the reach. An append within a region that draws its order. Condition: the row is the call's own. Whole aggregates of many cells, loaded and stored at once: laws for the walk. No program is walked here. Which blocks may have turned, told by their kinds. No program is walked here. -/
import Derived.Test.YtbijjjhfekkfaaaGreatPk33371d00
import Derived.Test.YtbijjjhfekkfaaaGreatPk3512f865
import Derived.Deep.RegionHeld3
import Derived.Test.YtbijjjhfekkfaaaGreatPk9c512980
import Derived.Laws.Concat
import Derived.Test.YtbijjjhfekkfaaaGreatBase
import Derived.Deep.WholeRow
import Derived.Test.YtbijjjhfekkfaaaGreatPk26e8f8ea
namespace Go.Proofs.YtbijjjhfekkfaaaGreat
set_option maxRecDepth 100000
open Go.RowKit

theorem bytes_one (b : UInt8) : Lib.byteCells [b] = [.int .u8 (b.toNat : Int)] := by
  have := byteCells_one b.toNat_lt
  simpa using this
theorem hexs : ∀ (H L : Fin 16), ((⟨#[92, 120]⟩ : ByteArray) ++ (⟨#[48, 49, 50, 51, 52, 53, 54, 55, 56, 57, 97, 98, 99, 100, 101, 102]⟩ : ByteArray).extract H.val (H.val + 1) ++ (⟨#[48, 49, 50, 51, 52, 53, 54, 55, 56, 57, 97, 98, 99, 100, 101, 102]⟩ : ByteArray).extract L.val (L.val + 1)).data.toList = [92, 120, hexD H.val, hexD L.val] := by decide +kernel
theorem hexs_of {H L : Nat} (h : H < 16) (l : L < 16) : ((⟨#[92, 120]⟩ : ByteArray) ++ (⟨#[48, 49, 50, 51, 52, 53, 54, 55, 56, 57, 97, 98, 99, 100, 101, 102]⟩ : ByteArray).extract H (H + 1) ++ (⟨#[48, 49, 50, 51, 52, 53, 54, 55, 56, 57, 97, 98, 99, 100, 101, 102]⟩ : ByteArray).extract L (L + 1)) = ⟨[92, 120, hexD H, hexD L].toArray⟩ :=
  bytes_eq (hexs ⟨H, h⟩ ⟨L, l⟩)
theorem ext_ones : ∀ H : Fin 16, ((⟨#[48, 49, 50, 51, 52, 53, 54, 55, 56, 57, 97, 98, 99, 100, 101, 102]⟩ : ByteArray).extract H.val (H.val + 1)).size = 1 := by decide +kernel
theorem ext_one {H : Nat} (h : H < 16) : ((⟨#[48, 49, 50, 51, 52, 53, 54, 55, 56, 57, 97, 98, 99, 100, 101, 102]⟩ : ByteArray).extract H (H + 1)).size = 1 := ext_ones ⟨H, h⟩
theorem and15s : ∀ n : Fin 256, bits .and .u8 ((n.val : Nat) : Int) 15 = ((n.val % 16 : Nat) : Int) := by decide +kernel
theorem and15 (b : UInt8) : bits .and .u8 (b.toNat : Int) 15 = ((b.toNat % 16 : Nat) : Int) := and15s ⟨b.toNat, b.toNat_lt⟩
theorem strCells_list (l : List UInt8) : Lib.strCells ⟨l.toArray⟩ = Lib.byteCells l := by
  simp [Lib.strCells, Lib.byteCells]
set_option maxHeartbeats 6400000 in
theorem lquote_any (v : ByteArray) (w : World) (hv : v.size * 4 + 2 ≤ 140737488355328) :
    Calls Tryz.prog 57 #[.string v] w fun e w' => e = .returned (.string ⟨(quoteL v.data.toList).toArray⟩) ∧ Below w.heap.size w w' := by
  go_enter Tryz.func57, Tryz.ntmps57
  go_wp2_with fail
  have hI : Lib.IsBuilder 270 5 w.heap.size w.heap.size (Lib.byteCells []) (w.alloc (.cells #[.pointer none, .slice none 0 0] 270)) := bld_new w
  have hB : Below w.heap.size w (w.alloc (.cells #[.pointer none, .slice none 0 0] 270)) := (Below.refl _ _).alloc (Nat.le_refl _) _
  generalize w.alloc (.cells #[.pointer none, .slice none 0 0] 270) = w1 at hI hB ⊢
  obtain ⟨g, hg⟩ : ∃ g, w.heap.size = g := ⟨_, rfl⟩
  rw [hg] at hI hB ⊢
  refine (bldByte_any g g (Lib.byteCells []) 34 w1 hI (by decide) (by have := hB.size; omega)).mono ?_
  rintro e w2 ⟨rfl, hb2, hbl2, _⟩
  have hb2' : Lib.IsBuilder 270 5 g g (Lib.byteCells (34 :: quoL (v.data.toList.take 0))) w2 := .inr (by have h := hb2; exact h)
  have HB2 := hidden hb2'
  have HBL2 := hidden (hB.trans hbl2)
  clear hb2 hbl2 hI hB hb2'
  go_wp2_with fail
  go_loopw [9] (fun vi wr => ∃ k : Nat, vi = .int .i64 k ∧ k ≤ v.size ∧ Hid (Lib.IsBuilder 270 5 g g (Lib.byteCells (34 :: quoL (v.data.toList.take k))) wr) ∧ Below g w wr) (fun vi _ => v.size - (intOf vi).toNat)
  case atStart => exact ⟨0, rfl, Nat.zero_le _, HB2, HBL2.out⟩
  case round =>
    obtain ⟨k, rfl, hk, hb, hbl⟩ := hrel
    have k0 : (0 : Int) ≤ (k : Int) := by omega
    have HBL := hidden hbl
    clear hbl
    have hql := quoL_len (v.data.toList.take k)
    by_cases hlt : k < v.size
    · have k1 : (k : Int) < (v.size : Int) := by omega
      obtain ⟨b, hbe, hbat⟩ := str_at hlt
      have hT := hidden (take_snoc? hbat)
      have h256 := size_lt b
      have hsz : (Lib.byteCells (34 :: quoL (v.data.toList.take k))).length ≤ 4 * k + 1 := by
        rw [Lib.byteCells_length, List.length_cons]
        have : (v.data.toList.take k).length ≤ k := List.length_take_le _ _
        omega
      clear hbat
      by_cases h1 : b.toNat = 34
      · have e34 : ((b.toNat : Int) == 34) = true := by simp [h1]
        have HQ := hidden (show b.toNat = 34 ∨ b.toNat = 92 from .inl h1)
        clear h1
        go_wp2_with fail
        refine (bldByte_any g g _ 92 wr hb.out (by omega) (by have := HBL.out.size; omega)).mono ?_
        rintro e w5 ⟨rfl, hb5, hbl5, _⟩
        have HB5 := hidden hb5
        have HBL5 := hidden (HBL.out.trans hbl5)
        clear hb5 hbl5
        go_wp2_with fail
        refine (bldByte_any g g _ (b.toNat : Int) w5 (.inr HB5.out) (by rw [List.length_append]; simp only [List.length_singleton]; omega) (by have := HBL5.out.size; omega)).mono ?_
        rintro e w6 ⟨rfl, hb6, hbl6, _⟩
        have hby : Lib.byteCells (34 :: quoL (v.data.toList.take k)) ++ [.int .u8 92] ++ [.int .u8 (b.toNat : Int)] = Lib.byteCells (34 :: quoL (v.data.toList.take (k + 1))) := by
          have e2 : quoB b = [92] ++ [b] := by unfold quoB; rw [if_pos HQ.out]; rfl
          rw [hT.out, quoL_snoc, e2, ← List.append_assoc, ← List.cons_append, ← List.cons_append, Lib.byteCells_append, Lib.byteCells_append, bytes_one b]; rfl
        rw [hby] at hb6
        have HB6 : Hid (Lib.IsBuilder 270 5 g g (Lib.byteCells (34 :: quoL (v.data.toList.take (k + 1)))) w6) := .inr hb6
        have HBL6 := hidden (HBL5.out.trans hbl6)
        clear hb6 hbl6 hby
        go_wp2_with fail
        go_roundw
        case rel => exact ⟨k + 1, by go_num, by omega, HB6, HBL6.out⟩
        case measure => simp [intOf]; omega
      · have e34 : ((b.toNat : Int) == 34) = false := by simp; omega
        by_cases h2 : b.toNat = 92
        · have e92 : ((b.toNat : Int) == 92) = true := by simp [h2]
          have HQ := hidden (show b.toNat = 34 ∨ b.toNat = 92 from .inr h2)
          clear h2
          go_wp2_with fail
          refine (bldByte_any g g _ 92 wr hb.out (by omega) (by have := HBL.out.size; omega)).mono ?_
          rintro e w5 ⟨rfl, hb5, hbl5, _⟩
          have HB5 := hidden hb5
          have HBL5 := hidden (HBL.out.trans hbl5)
          clear hb5 hbl5
          go_wp2_with fail
          refine (bldByte_any g g _ (b.toNat : Int) w5 (.inr HB5.out) (by rw [List.length_append]; simp only [List.length_singleton]; omega) (by have := HBL5.out.size; omega)).mono ?_
          rintro e w6 ⟨rfl, hb6, hbl6, _⟩
          have hby : Lib.byteCells (34 :: quoL (v.data.toList.take k)) ++ [.int .u8 92] ++ [.int .u8 (b.toNat : Int)] = Lib.byteCells (34 :: quoL (v.data.toList.take (k + 1))) := by
            have e2 : quoB b = [92] ++ [b] := by unfold quoB; rw [if_pos HQ.out]; rfl
            rw [hT.out, quoL_snoc, e2, ← List.append_assoc, ← List.cons_append, ← List.cons_append, Lib.byteCells_append, Lib.byteCells_append, bytes_one b]; rfl
          rw [hby] at hb6
          have HB6 : Hid (Lib.IsBuilder 270 5 g g (Lib.byteCells (34 :: quoL (v.data.toList.take (k + 1)))) w6) := .inr hb6
          have HBL6 := hidden (HBL5.out.trans hbl6)
          clear hb6 hbl6 hby
          go_wp2_with fail
          go_roundw
          case rel => exact ⟨k + 1, by go_num, by omega, HB6, HBL6.out⟩
          case measure => simp [intOf]; omega
        · have e92 : ((b.toNat : Int) == 92) = false := by simp; omega
          by_cases h3 : 32 ≤ b.toNat ∧ b.toNat ≤ 126
          · have i32 : (32 : Int) ≤ (b.toNat : Int) := by omega
            have i126 : (b.toNat : Int) ≤ 126 := by omega
            go_wp2_with fail
            refine (bldByte_any g g _ (b.toNat : Int) wr hb.out (by omega) (by have := HBL.out.size; omega)).mono ?_
            rintro e w6 ⟨rfl, hb6, hbl6, _⟩
            have hby : Lib.byteCells (34 :: quoL (v.data.toList.take k)) ++ [.int .u8 (b.toNat : Int)] = Lib.byteCells (34 :: quoL (v.data.toList.take (k + 1))) := by
              have e2 : quoB b = [b] := by unfold quoB; rw [if_neg (by omega), if_pos h3]
              rw [hT.out, quoL_snoc, e2, ← List.cons_append, Lib.byteCells_append, bytes_one b]
            rw [hby] at hb6
            have HB6 : Hid (Lib.IsBuilder 270 5 g g (Lib.byteCells (34 :: quoL (v.data.toList.take (k + 1)))) w6) := .inr hb6
            have HBL6 := hidden (HBL.out.trans hbl6)
            clear hb6 hbl6 hby
            go_wp2_with fail
            go_roundw
            case rel => exact ⟨k + 1, by go_num, by omega, HB6, HBL6.out⟩
            case measure => simp [intOf]; omega
          · by_cases h4 : 32 ≤ b.toNat
            · have i32 : (32 : Int) ≤ (b.toNat : Int) := by omega
              have i126 : decide ((b.toNat : Int) ≤ 126) = false := by simp; omega
              obtain ⟨H, hH⟩ : ∃ H, b.toNat / 16 = H := ⟨_, rfl⟩
              obtain ⟨D, hD⟩ : ∃ D, b.toNat % 16 = D := ⟨_, rfl⟩
              have fH : (b.toNat : Int) / 16 = (H : Int) := by omega
              have fD : (b.toNat : Int) % 16 = (D : Int) := by omega
              have hH16 : H < 16 := by omega
              have hD16 : D < 16 := by omega
              have wH : IntKind.u8.wrap ((H : Int) + 1) = (H : Int) + 1 := by rw [IntKind.wrap_u8']; omega
              have wD : IntKind.u8.wrap ((D : Int) + 1) = (D : Int) + 1 := by rw [IntKind.wrap_u8']; omega
              have b1 : (0 : Int) ≤ (H : Int) := by omega
              have b2 : (H : Int) ≤ (H : Int) + 1 := by omega
              have b3 : (H : Int) + 1 ≤ 16 := by omega
              have b4 : (0 : Int) ≤ (D : Int) := by omega
              have b5 : (D : Int) ≤ (D : Int) + 1 := by omega
              have b6 : (D : Int) + 1 ≤ 16 := by omega
              have b7 : ((H : Int) + 1).toNat = H + 1 := by omega
              have b8 : ((D : Int) + 1).toNat = D + 1 := by omega
              have hstr := hexs_of hH16 hD16
              obtain ⟨X1, hX1⟩ : ∃ X, (⟨#[48, 49, 50, 51, 52, 53, 54, 55, 56, 57, 97, 98, 99, 100, 101, 102]⟩ : ByteArray).extract H (H + 1) = X := ⟨_, rfl⟩
              obtain ⟨X2, hX2⟩ : ∃ X, (⟨#[48, 49, 50, 51, 52, 53, 54, 55, 56, 57, 97, 98, 99, 100, 101, 102]⟩ : ByteArray).extract D (D + 1) = X := ⟨_, rfl⟩
              rw [hX1, hX2] at hstr
              have HSTR := hidden hstr
              have hsz4 : ((⟨#[92, 120]⟩ : ByteArray) ++ X1 ++ X2).size = 4 := by rw [hstr]; rfl
              have HSZ4 := hidden hsz4
              have HH := hidden (And.intro hH hD)
              have S1 := hidden (bldStr_any g g _ ((⟨#[92, 120]⟩ : ByteArray) ++ X1 ++ X2) wr.drew (bld_below hb.out (Below.refl _ _).drew) (by rw [HSZ4.out]; omega) (by have := HBL.out.size; show g ≤ wr.heap.size; omega))
              have z1 : X1.size = 1 := by rw [← hX1]; exact ext_one hH16
              have z2 : X2.size = 1 := by rw [← hX2]; exact ext_one hD16
              have fD2 : bits .and .u8 (b.toNat : Int) 15 = (D : Int) := by rw [and15 b, hD]
              clear hH hD hstr hsz4
              go_wp2_with fail
              go_region_held3 (fun w' => True) (trivial) (first | (go_at_call 128; refine S1.out.mono ?_; rintro e w6 ⟨rfl, hb6, hbl6, _⟩))
              have hby : Lib.byteCells (34 :: quoL (v.data.toList.take k)) ++ Lib.strCells ((⟨#[92, 120]⟩ : ByteArray) ++ X1 ++ X2) = Lib.byteCells (34 :: quoL (v.data.toList.take (k + 1))) := by
                have e2 : quoB b = [92, 120, hexD H, hexD D] := by unfold quoB; rw [if_neg (by omega), if_neg (by omega), HH.out.1, HH.out.2]
                rw [HSTR.out, hT.out, quoL_snoc, e2, ← List.cons_append, Lib.byteCells_append, strCells_list]
              rw [hby] at hb6
              have HB6 : Hid (Lib.IsBuilder 270 5 g g (Lib.byteCells (34 :: quoL (v.data.toList.take (k + 1)))) w6) := .inr hb6
              have HBL6 := hidden (HBL.out.trans ((Below.refl _ _).drew.trans hbl6))
              clear hb6 hbl6 hby S1
              go_wp2_with fail
              go_roundw
              case rel => exact ⟨k + 1, by go_num, by omega, HB6, HBL6.out⟩
              case measure => simp [intOf]; omega
            · have i32 : ¬ (32 : Int) ≤ (b.toNat : Int) := by omega
              obtain ⟨H, hH⟩ : ∃ H, b.toNat / 16 = H := ⟨_, rfl⟩
              obtain ⟨D, hD⟩ : ∃ D, b.toNat % 16 = D := ⟨_, rfl⟩
              have fH : (b.toNat : Int) / 16 = (H : Int) := by omega
              have fD : (b.toNat : Int) % 16 = (D : Int) := by omega
              have hH16 : H < 16 := by omega
              have hD16 : D < 16 := by omega
              have wH : IntKind.u8.wrap ((H : Int) + 1) = (H : Int) + 1 := by rw [IntKind.wrap_u8']; omega
              have wD : IntKind.u8.wrap ((D : Int) + 1) = (D : Int) + 1 := by rw [IntKind.wrap_u8']; omega
              have b1 : (0 : Int) ≤ (H : Int) := by omega
              have b2 : (H : Int) ≤ (H : Int) + 1 := by omega
              have b3 : (H : Int) + 1 ≤ 16 := by omega
              have b4 : (0 : Int) ≤ (D : Int) := by omega
              have b5 : (D : Int) ≤ (D : Int) + 1 := by omega
              have b6 : (D : Int) + 1 ≤ 16 := by omega
              have b7 : ((H : Int) + 1).toNat = H + 1 := by omega
              have b8 : ((D : Int) + 1).toNat = D + 1 := by omega
              have hstr := hexs_of hH16 hD16
              obtain ⟨X1, hX1⟩ : ∃ X, (⟨#[48, 49, 50, 51, 52, 53, 54, 55, 56, 57, 97, 98, 99, 100, 101, 102]⟩ : ByteArray).extract H (H + 1) = X := ⟨_, rfl⟩
              obtain ⟨X2, hX2⟩ : ∃ X, (⟨#[48, 49, 50, 51, 52, 53, 54, 55, 56, 57, 97, 98, 99, 100, 101, 102]⟩ : ByteArray).extract D (D + 1) = X := ⟨_, rfl⟩
              rw [hX1, hX2] at hstr
              have HSTR := hidden hstr
              have hsz4 : ((⟨#[92, 120]⟩ : ByteArray) ++ X1 ++ X2).size = 4 := by rw [hstr]; rfl
              have HSZ4 := hidden hsz4
              have HH := hidden (And.intro hH hD)
              have S1 := hidden (bldStr_any g g _ ((⟨#[92, 120]⟩ : ByteArray) ++ X1 ++ X2) wr.drew (bld_below hb.out (Below.refl _ _).drew) (by rw [HSZ4.out]; omega) (by have := HBL.out.size; show g ≤ wr.heap.size; omega))
              have z1 : X1.size = 1 := by rw [← hX1]; exact ext_one hH16
              have z2 : X2.size = 1 := by rw [← hX2]; exact ext_one hD16
              have fD2 : bits .and .u8 (b.toNat : Int) 15 = (D : Int) := by rw [and15 b, hD]
              clear hH hD hstr hsz4
              go_wp2_with fail
              go_region_held3 (fun w' => True) (trivial) (first | (go_at_call 128; refine S1.out.mono ?_; rintro e w6 ⟨rfl, hb6, hbl6, _⟩))
              have hby : Lib.byteCells (34 :: quoL (v.data.toList.take k)) ++ Lib.strCells ((⟨#[92, 120]⟩ : ByteArray) ++ X1 ++ X2) = Lib.byteCells (34 :: quoL (v.data.toList.take (k + 1))) := by
                have e2 : quoB b = [92, 120, hexD H, hexD D] := by unfold quoB; rw [if_neg (by omega), if_neg (by omega), HH.out.1, HH.out.2]
                rw [HSTR.out, hT.out, quoL_snoc, e2, ← List.cons_append, Lib.byteCells_append, strCells_list]
              rw [hby] at hb6
              have HB6 : Hid (Lib.IsBuilder 270 5 g g (Lib.byteCells (34 :: quoL (v.data.toList.take (k + 1)))) w6) := .inr hb6
              have HBL6 := hidden (HBL.out.trans ((Below.refl _ _).drew.trans hbl6))
              clear hb6 hbl6 hby S1
              go_wp2_with fail
              go_roundw
              case rel => exact ⟨k + 1, by go_num, by omega, HB6, HBL6.out⟩
              case measure => simp [intOf]; omega
    · obtain rfl : k = v.size := by omega
      have k1 : ¬ (v.size : Int) < (v.size : Int) := by omega
      have hfull : v.data.toList.take v.size = v.data.toList := List.take_of_length_le (Nat.le_refl _)
      rw [hfull] at hb hql
      have hbl3 : (Lib.byteCells (34 :: quoL v.data.toList)).length ≤ 4 * v.size + 1 := by
        rw [Lib.byteCells_length, List.length_cons]
        have : v.data.toList.length = v.size := rfl
        omega
      go_wp2_with fail
      refine (bldByte_any g g _ 34 wr hb.out (by omega) (by have := HBL.out.size; omega)).mono ?_
      rintro e w6 ⟨rfl, hb6, hbl6, _⟩
      have hby : Lib.byteCells (34 :: quoL v.data.toList) ++ [.int .u8 34] = Lib.byteCells (quoteL v.data.toList) := by
        rw [quoteL, ← List.cons_append, Lib.byteCells_append]; rfl
      rw [hby] at hb6
      have HB6 := hidden hb6
      have HBL6 := hidden (HBL.out.trans hbl6)
      clear hb6 hbl6 hby
      go_wp2_with fail
      refine (bldString_any g g (quoteL v.data.toList) w6 (.inr HB6.out) (by simp [quoteL])).mono ?_
      rintro e w7 ⟨rfl, hbl7⟩
      have HBL7 := hidden (HBL6.out.trans hbl7)
      clear hbl7
      go_wp2_with fail
      go_ret
      subst hg
      exact ⟨rfl, HBL7.out⟩
end Go.Proofs.YtbijjjhfekkfaaaGreat

namespace Go.Proofs.YtbijjjhfekkfaaaGreat
set_option maxRecDepth 100000
open Go.RowKit

/-- a kind's sign -/
def signK (k : Nat) : ByteArray := if k = 0 then ⟨#[61]⟩ else if k = 1 then ⟨#[33, 61]⟩ else if k = 2 then ⟨#[61, 126]⟩ else ⟨#[33, 126]⟩
/-- a matcher's text -/
def showM (k : Nat) (name value : ByteArray) : ByteArray := name ++ signK k ++ ⟨(quoteL value.data.toList).toArray⟩
theorem signs_any (w : World) : Calls Tryz.prog 51 #[] w fun e w' => e = .returned (.agg #[.string ⟨#[61]⟩, .string ⟨#[33, 61]⟩, .string ⟨#[61, 126]⟩, .string ⟨#[33, 126]⟩]) ∧ Below w.heap.size w w' := by
  have hw := Whole1.new w 133 #[.string ⟨#[61]⟩, .string ⟨#[33, 61]⟩, .string ⟨#[61, 126]⟩, .string ⟨#[33, 126]⟩]
  have c0 := hw.cell 0
  have c1 := hw.cell 1
  have c2 := hw.cell 2
  have c3 := hw.cell 3
  have hb : Below w.heap.size w (w.alloc (.cells #[.string ⟨#[61]⟩, .string ⟨#[33, 61]⟩, .string ⟨#[61, 126]⟩, .string ⟨#[33, 126]⟩] 133)) := (Below.refl _ _).alloc (Nat.le_refl _) _
  clear hw
  go_enter Tryz.func51, Tryz.ntmps51
  go_wp2_with fail
  simp [bodyPost, results, Tryz.results51, go_sem, c0, c1, c2, c3, hb]

theorem ix_arr {P : Program} {t e : TypeId} {n i : Nat} {d : TypeDesc} {f : TypeInfo} {cs : Array Value} {v : Value} (ht : P.underlying t = some (.array n e)) (he : P.underlying e = some d) (hd : (match d with | .struct _ | .array _ _ => true | _ => false) = false) (hf : P.info? e = some f) (hs : f.size = 1) (hi : i < n) (hv : cs[i]? = some v) (w : World) :
    (Instr.index t (.agg cs) (.int .i64 (i : Int))).run P w = .ok v w := by
  have h1 : (0 : Int) ≤ (i : Int) ∧ (i : Int) < (n : Int) := by omega
  have hp : (part e cs i).run P w = .ok v w := by
    cases d <;> simp at hd <;> simp [part, isAgg, run_underlying he, hv]
  simp [Instr.index, run_underlying ht, sizeOf, typeInfo, hf, hs, h1, hp, Result.andThen, asIntOf]
  intro h; omega
theorem infoStrM : (Tryz.prog.info? 9).map (fun i => i.size) = some 1 := by kernel_rfl
theorem ix_signs (k : Nat) (hk : k < 4) (w : World) : (Instr.index 133 (.agg #[.string ⟨#[61]⟩, .string ⟨#[33, 61]⟩, .string ⟨#[61, 126]⟩, .string ⟨#[33, 126]⟩]) (.int .i64 (k : Int))).run Tryz.prog w = .ok (.string (signK k)) w := by
  obtain ⟨f, hf, hs⟩ := Option.map_eq_some_iff.1 infoStrM
  refine ix_arr Tryz.underlying133 Tryz.underlying9 rfl hf hs hk ?_ w
  have hkk : k = 0 ∨ k = 1 ∨ k = 2 ∨ k = 3 := by omega
  rcases hkk with rfl | rfl | rfl | rfl <;> rfl

set_option maxHeartbeats 3200000 in
theorem mshow_any (M : Nat) (k : Nat) (name value : ByteArray) (F : ByteArray → Bool) (w : World) (h : MatAt w M k name value F) (hk : k < 4) (hn : name.size ≤ 140737488355328) (hv : value.size * 4 + 2 ≤ 140737488355328) :
    Calls Tryz.prog 13 #[.pointer (some ⟨M, 0, none⟩)] w fun e w' => e = .returned (.string (showM k name value)) ∧ Below w.heap.size w w' := by
  obtain ⟨fv, h1, _⟩ := h
  have H := hidden (fun W (hW : Below w.heap.size w W) => (⟨(h1.below hW h1.lt).cell 0, (h1.below hW h1.lt).cell 1, (h1.below hW h1.lt).cell 2⟩ : W.cell? ⟨M, 0, none⟩ = some (.int .i64 (k : Int)) ∧ W.cell? ⟨M, 1, none⟩ = some (.string name) ∧ W.cell? ⟨M, 2, none⟩ = some (.string value)))
  have hix := ix_signs k hk
  have eS : showM k name value = name ++ signK k ++ ⟨(quoteL value.data.toList).toArray⟩ := rfl
  rw [eS]
  have hsg : (signK k).size ≤ 2 := by
    have hkk : k = 0 ∨ k = 1 ∨ k = 2 ∨ k = 3 := by omega
    rcases hkk with rfl | rfl | rfl | rfl <;> decide
  have hql : (⟨(quoteL value.data.toList).toArray⟩ : ByteArray).size ≤ 140737488355328 := by
    have h1 := quoL_len value.data.toList
    have h2 : value.data.toList.length = value.size := rfl
    show (quoteL value.data.toList).toArray.size ≤ _
    rw [List.size_toArray, quoteL, List.length_cons, List.length_append, List.length_singleton]
    omega
  generalize signK k = sg at *
  have ha1 : ∀ w, (Op.stringOp .add name sg).run Tryz.prog w = .ok (.string (name ++ sg)) w := fun w => run_string_add_sum w _ _ (by omega)
  have ha2 : ∀ w, (Op.stringOp .add (name ++ sg) ⟨(quoteL value.data.toList).toArray⟩).run Tryz.prog w = .ok (.string (name ++ sg ++ ⟨(quoteL value.data.toList).toArray⟩)) w := fun w => run_string_add_sum w _ _ (by rw [ByteArray.size_append]; omega)
  clear h1 eS hsg
  obtain ⟨Q, hQ⟩ : ∃ Q, (⟨(quoteL value.data.toList).toArray⟩ : ByteArray) = Q := ⟨_, rfl⟩
  have SQ := hidden (fun W => lquote_any value W hv)
  rw [hQ] at ha2 SQ ⊢
  clear hQ hql
  go_enter Tryz.func13, Tryz.ntmps13
  go_upto_region 3 with (fail)
  go_region_held3 (fun W => W.cell? ⟨M, 0, none⟩ = some (.int .i64 (k : Int)) ∧ W.cell? ⟨M, 1, none⟩ = some (.string name) ∧ W.cell? ⟨M, 2, none⟩ = some (.string value))
      (first | exact H.out _ (Below.refl _ _) | exact H.out _ (Below.refl _ _).drew | exact H.out _ (by assumption))
      (first
        | (go_at_call 51; refine (signs_any _).mono ?_; rintro e wA ⟨rfl, bA⟩; have kA : Below w.heap.size w wA := (by first | exact (kB.trans (bA.mono kB.size)) | exact (Below.refl _ _).drew.trans bA))
        | (go_at_call 57; refine (SQ.out _).mono ?_; rintro e wB ⟨rfl, bB⟩; have kB : Below w.heap.size w wB := (by first | exact (kA.trans (bB.mono kA.size)) | exact (Below.refl _ _).drew.trans bB)))
  all_goals (
    go_wp2_with fail
    go_ret
    refine ⟨rfl, ?_⟩
    first | exact kB | exact kA)
end Go.Proofs.YtbijjjhfekkfaaaGreat

namespace Go.Proofs.YtbijjjhfekkfaaaGreat
set_option maxRecDepth 100000
open Go.RowKit

section
variable {P : Program} (w : World)
theorem step_appA {ops : Array Oper} {o : Oper} {a : Act} {K : Act → World → Prop} {Q : Exit → Act → World → Prop} {E : Prop} (hgd : o.guard = none) (s x : Operand) (t : TypeId)
    (ho : o.op = .call { callee := .builtin .append, args := #[s, x], argTypes := #[t, t] })
    (base : Nat) (e : TypeId) (i : TypeInfo) (z : Value) (size bytes : Nat) (ht : P.underlying t = some (.slice e)) (hi : P.info? e = some i) (hz : i.zero = some z)
    (hsize : i.size = size) (hby : i.bytes = bytes) (hzs : z.cells.size = size) (hsz : 0 < size)
    (v : Value) (n : Nat) (xs : List Value) (hs : a.eval s = v) (hown : w.ownsRow base e size v n xs)
    (B : Nat) (A : Option Addr) (m c : Nat) (news : List Value) (hx : a.eval x = .slice A m c) (hr : Row w B size A m news) (h1 : ∀ u ∈ news, u.oneCell' = true)
    (h63 : n + m ≤ maxLen) (hbytes : (n + m) * bytes ≤ 140737488355328) (hbase : base ≤ w.heap.size)
    (h : ∀ v' w', w'.ownsRow base e size v' (n + m) (xs ++ news) → w.grownBy w' v.ownBlock → (v'.ownBlock = v.ownBlock ∨ v'.ownBlock = some w.heap.size) → K (a.put o.dst v') w') :
    if Region.wanted o (yielded ops a.tmps) = true then Oper.wp P o a w K Q else E := by
  have hw : Region.wanted o (yielded ops a.tmps) = true := by simp [Region.wanted, hgd]
  rw [if_pos hw]
  exact wp_app w s x t ho base e i z size bytes ht hi hz hsize hby hzs hsz v n xs hs hown B A m c news hx hr h1 h63 hbytes hbase h
end
end Go.Proofs.YtbijjjhfekkfaaaGreat

namespace Go.Proofs.YtbijjjhfekkfaaaGreat
set_option maxRecDepth 100000
open Go.RowKit

section
variable {P : Program} {w w' : World} {ops : Array Oper} {rest : List Oper} {o : Oper} {a : Act} {Q : Exit → Act → World → Prop} {K : Act → World → Prop} {E : Prop}
theorem run_loadCells_whole {g : Nat} {t : TypeId} {c : Array Value} (hw : Whole1 w g t c) : (loadCells ⟨g, 0, none⟩ c.size).run P w = .ok c w := by
  have := run_loadCells_list (P := P) w ⟨g, 0, none⟩ c.toList (fun j v hv => by
    have hadd : (⟨g, 0, none⟩ : Addr).add j = ⟨g, j, none⟩ := by unfold Addr.add; split <;> simp_all
    rw [hadd, hw.cell]
    simpa using hv)
  simpa using this
theorem run_loadW {g : Nat} {t u : TypeId} {c : Array Value} {n : Nat} (ha : ∀ w, (isAgg t).run P w = .ok true w) (hz : ∀ w, (Go.sizeOf t).run P w = .ok n w) (hw : Whole1 w g u c) (hn : c.size = n) :
    (Instr.loadAt t (.pointer (some ⟨g, 0, none⟩))).run P w = .ok (.agg c) w := by
  subst hn
  simp only [Instr.loadAt, Instr.sureAddr, Sem.run_bind, Sem.run_pure, Result.andThen]
  simp [loadVar, ha, hz, run_loadCells_whole hw, Result.andThen]
theorem wpList_loadW (hg : o.guard = none) (x : Operand) (t : TypeId) (hop : o.op = .load t x) (p : Value) (hx : a.eval x = p) (v : Value) (hl : (Instr.loadAt t p).run P w = .ok v w) (hK : wpList P ops Q rest (a.put o.dst v) w) : wpList P ops Q (o :: rest) a w := by
  refine wpList_plain hg fun K' hK' => ?_
  unfold Oper.wp
  simp [execOp, hop, hx, hl, Result.andThen]
  exact hK' _ _ hK
theorem wpList_storeW (hg : o.guard = none) (x y : Operand) (t : TypeId) (hop : o.op = .store t x y) (p v : Value) (hx : a.eval x = p) (hy : a.eval y = v) (hl : (Instr.storeAt t p v).run P w = .ok () w') (hK : wpList P ops Q rest (a.put o.dst undef) w') : wpList P ops Q (o :: rest) a w := by
  refine wpList_plain hg fun K' hK' => ?_
  unfold Oper.wp
  simp [execOp, hop, hx, hy, hl, Result.andThen]
  exact hK' _ _ hK
theorem step_loadW (hg : o.guard = none) (x : Operand) (t : TypeId) (hop : o.op = .load t x) (p : Value) (hx : a.eval x = p) (v : Value) (hl : (Instr.loadAt t p).run P w = .ok v w) (hK : K (a.put o.dst v) w) :
    if Region.wanted o (yielded ops a.tmps) = true then Oper.wp P o a w K Q else E := by
  have hw : Region.wanted o (yielded ops a.tmps) = true := by simp [Region.wanted, hg]
  rw [if_pos hw]
  unfold Oper.wp
  simp [execOp, hop, hx, hl, Result.andThen]
  exact hK
end
theorem fold_at : ∀ (l : List Value) (k : Nat) (arr : Array Value) (j : Nat), ((l.zipIdx k).foldl (fun cs x => cs.setIfInBounds x.2 x.1) arr)[j]? = if j < arr.size then (if k ≤ j ∧ j < k + l.length then l[j - k]? else arr[j]?) else none
  | [], k, arr, j => by
    rw [List.zipIdx_nil, List.foldl_nil]
    split
    · rw [if_neg (by simp)]
    · rename_i h; exact Array.getElem?_eq_none (by omega)
  | x :: l, k, arr, j => by
    rw [List.zipIdx_cons, List.foldl_cons, fold_at l (k + 1) (arr.setIfInBounds k x) j, Array.size_setIfInBounds]
    split
    · rename_i h
      by_cases h1 : k = j
      · subst h1
        rw [if_neg (by omega), if_pos (by simp)]
        simp [h]
      · rw [Array.getElem?_setIfInBounds, if_neg h1]
        by_cases h2 : k ≤ j ∧ j < k + (x :: l).length
        · rw [if_pos h2, if_pos (by simp at h2; omega), show j - k = (j - (k + 1)) + 1 from by omega, List.getElem?_cons_succ]
        · rw [if_neg h2, if_neg (by simp at h2; omega)]
    · rfl
/-- cells laid one by one over others are these cells -/
theorem fold_all (cs0 cs : Array Value) (h : cs0.size = cs.size) : Array.foldl (fun cs x => cs.setIfInBounds x.snd x.fst) cs0 cs.zipIdx 0 cs.size = cs := by
  have h1 : cs.size = cs.zipIdx.size := by simp
  conv => lhs; arg 5; rw [h1]
  rw [← Array.foldl_toList, Array.toList_zipIdx]
  apply Array.ext_getElem?
  intro j
  rw [fold_at]
  split
  · rename_i h2
    rw [if_pos (by simp; omega), Nat.sub_zero, Array.getElem?_toList]
  · rename_i h2
    exact (Array.getElem?_eq_none (by omega)).symm
end Go.Proofs.YtbijjjhfekkfaaaGreat

namespace Go.Proofs.YtbijjjhfekkfaaaGreat
set_option maxRecDepth 100000
open Go.RowKit

/-- a block of cells of one of these types; or a map -/
def kindIn (ts : List TypeId) (mp : Bool) : Option Obj → Prop
  | some (.cells _ t _) => t ∈ ts
  | some (.map _ _) => mp = true
  | _ => False
/-- from w to w' only blocks of these kinds, at base and above, and what is new, may have turned -/
structure Turn (base : Nat) (ts : List TypeId) (mp : Bool) (w w' : World) : Prop where
  os : w'.os = w.os
  tape : w'.tape = w.tape
  output : w'.output = w.output
  size : w.heap.size ≤ w'.heap.size
  block : ∀ g, g < w.heap.size → (g < base ∨ ¬ kindIn ts mp w.heap[g]?) → w'.heap[g]? = w.heap[g]?
section
variable {base base' : Nat} {ts us : List TypeId} {mp mq : Bool} {a b c w w' : World}
theorem Turn.refl (base : Nat) (ts : List TypeId) (mp : Bool) (w : World) : Turn base ts mp w w := ⟨rfl, rfl, rfl, Nat.le_refl _, fun _ _ _ => rfl⟩
theorem Turn.trans (h : Turn base ts mp a b) (k : Turn base ts mp b c) : Turn base ts mp a c :=
  ⟨k.os.trans h.os, k.tape.trans h.tape, k.output.trans h.output, Nat.le_trans h.size k.size, fun g hg hn => by
    have e := h.block g hg hn
    rw [k.block g (Nat.lt_of_lt_of_le hg h.size) (by rw [e]; exact hn), e]⟩
theorem Turn.wider (h : Turn base ts mp a b) (hb : base' ≤ base) (ht : ∀ t ∈ ts, t ∈ us) (hm : mp = true → mq = true) : Turn base' us mq a b :=
  ⟨h.os, h.tape, h.output, h.size, fun g hg hn => h.block g hg (by
    rcases hn with hn | hn
    · exact .inl (by omega)
    · refine .inr fun hk => hn ?_
      unfold kindIn at hk ⊢
      split at hk
      · exact ht _ hk
      · exact hm hk
      · exact hk.elim)⟩
theorem Turn.of_below (h : Below a.heap.size a b) (base : Nat) (ts : List TypeId) (mp : Bool) : Turn base ts mp a b := ⟨h.os, h.tape, h.output, h.size, fun g hg _ => h.block g hg⟩
theorem Turn.drew (h : Turn base ts mp a b) : Turn base ts mp a b.drew := ⟨h.os, h.tape, h.output, h.size, h.block⟩
theorem Turn.drewN (h : Turn base ts mp a b) (n : Nat) : Turn base ts mp a (b.drewN n) := ⟨h.os, h.tape, h.output, h.size, h.block⟩
theorem Turn.alloc (h : Turn base ts mp a b) (o : Obj) : Turn base ts mp a (b.alloc o) :=
  ⟨h.os, h.tape, h.output, by have := h.size; simp; omega, fun g hg hn => (Below.heap_alloc b o g (Nat.lt_of_lt_of_le hg h.size)).trans (h.block g hg hn)⟩
theorem Turn.of_grown {row : Option Nat} (h : a.grownBy b row) (hr : ∀ g, row = some g → base ≤ g ∧ (g < a.heap.size → kindIn ts mp a.heap[g]?)) : Turn base ts mp a b :=
  ⟨h.os, h.tape, h.output, h.size, fun g hg hn => h.block g hg fun e => by
    obtain ⟨h1, h2⟩ := hr g e.symm
    rcases hn with hn | hn
    · omega
    · exact hn (h2 hg)⟩
theorem Turn.put {g : Nat} {t : TypeId} {cs : Array Value} (hw : Whole1 a g t cs) (hb : base ≤ g) (ht : t ∈ ts) (i : Nat) (u : Value) : Turn base ts mp a (a.setCell ⟨g, i, none⟩ u) :=
  Turn.of_grown (gb_put (gb_refl a _) i u) fun k e => by
    cases e
    exact ⟨hb, fun _ => by rw [show a.heap[g]? = some (.cells cs t (0, 0)) from hw]; exact ht⟩
theorem Turn.below (h : Turn base ts mp a b) {B : Nat} (hB : B ≤ base) (hs : B ≤ a.heap.size) : Below B a b := ⟨h.os, h.tape, h.output, h.size, fun g hg => h.block g (by omega) (.inl (by omega))⟩
/-! what stays -/
theorem Turn.whole (h : Turn base ts mp w w') {g : Nat} {t : TypeId} {cs : Array Value} (hw : Whole1 w g t cs) (hn : g < base ∨ t ∉ ts) : Whole1 w' g t cs :=
  (h.block g hw.lt (by
    rcases hn with hn | hn
    · exact .inl hn
    · refine .inr ?_
      rw [show w.heap[g]? = some (.cells cs t (0, 0)) from hw]
      exact hn)).trans hw
theorem Turn.mapV {S : Value → Prop} {m : List (Value × Value)} {g : Nat} (h : Turn base ts mp w w') (hm : MapV S w g m) (hn : g < base ∨ mp = false) : MapV S w' g m :=
  hm.kept (h.block g hm.lt (by
    rcases hn with hn | hn
    · exact .inl hn
    · refine .inr ?_
      obtain ⟨⟨es, clock, hb, _⟩, _⟩ := hm
      rw [hb]
      show ¬ mp = true
      rw [hn]
      simp))
theorem Turn.own (h : Turn base ts mp w w') {B n size : Nat} {T : TypeId} {v : Value} {xs : List Value} (ho : w.ownsRow B T size v n xs) (hn : T ∉ ts ∨ ∀ g, v.ownBlock = some g → g < base) : w'.ownsRow B T size v n xs := by
  refine ⟨ho.1, ho.2.imp id ?_⟩
  rintro ⟨g, cap, cur, h1, h2, h3, h4⟩
  have hw : Whole1 w g T cur := h3
  exact ⟨g, cap, cur, h1, h2, h.whole hw (hn.symm.imp (fun hk => hk g (by rw [h1]; rfl)) id), h4⟩
theorem Turn.row (h : Turn base ts mp w w') {B size n : Nat} {A : Option Addr} {xs : List Value} (hr : Row w B size A n xs) (hB : B ≤ base) (hs : B ≤ w.heap.size) : Row w' B size A n xs :=
  hr.below (h.below hB hs)
/-- a map's block is no block of cells -/
theorem map_off {S : Value → Prop} {m : List (Value × Value)} {g k : Nat} {t : TypeId} {cs : Array Value} (hm : MapV S w g m) (hw : Whole1 w k t cs) : g ≠ k := by
  rintro rfl
  obtain ⟨⟨es, clock, hb, _⟩, _⟩ := hm
  rw [show w.heap[g]? = some (.cells cs t (0, 0)) from hw] at hb
  cases hb
theorem Turn.of_map {S : Value → Prop} {m : List (Value × Value)} {g : Nat} (hm : MapV S w g m) (hb : base ≤ g) (hg : w.grownBy w' (some g)) : Turn base ts true w w' :=
  Turn.of_grown hg fun k e => by
    cases e
    refine ⟨hb, fun _ => ?_⟩
    obtain ⟨⟨es, clock, hb, _⟩, _⟩ := hm
    rw [hb]
    exact rfl
theorem Turn.of_own {B n size : Nat} {T : TypeId} {v : Value} {xs : List Value} (ho : w.ownsRow B T size v n xs) (hb : base ≤ B) (ht : T ∈ ts) (hg : w.grownBy w' v.ownBlock) : Turn base ts mp w w' :=
  Turn.of_grown hg fun k e => by
    rcases ho.2 with ⟨h1, _⟩ | ⟨g, cap, cur, h1, h2, h3, _⟩
    · rw [h1] at e; cases e
    · rw [h1] at e
      cases e
      exact ⟨Nat.le_trans hb h2, fun _ => by rw [show w.heap[g]? = some (.cells cur T (0, 0)) from h3]; exact ht⟩
end
end Go.Proofs.YtbijjjhfekkfaaaGreat
