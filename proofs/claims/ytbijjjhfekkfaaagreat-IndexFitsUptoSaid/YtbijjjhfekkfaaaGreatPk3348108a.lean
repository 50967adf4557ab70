/- labels.Quote, walked: a text in quotation marks. Condition: the text is within the reach. match: Show, walked. Condition: the text is within the reach. An append within a region that draws its order. Condition: the row is the call's own. Whole aggregates of many cells, loaded and stored at once: laws for the walk. No program is walked here. Which blocks may have turned, told by their kinds. No program is walked here. The document's reader of patterns: put, next, fail. Condition: the tree is one. A set of bytes, bit by bit. No program is walked here. -/
import Derived.Test.YtbijjjhfekkfaaaGreatPk21fc8dba
import Derived.Test.YtbijjjhfekkfaaaGreatPkac060fbc
import Derived.Deep.RegionHeld3
import Derived.Laws.Concat
import Derived.Test.YtbijjjhfekkfaaaGreatBase
import Derived.Deep.WholeRow
import Derived.Test.YtbijjjhfekkfaaaGreatPk26e8f8ea
import Derived.Shelf.RegionOpenPlain
import Derived.Test.YtbijjjhfekkfaaaGreatPkf0f0479b
namespace Go.Proofs.YtbijjjhfekkfaaaGreat
set_option maxRecDepth 100000
open Go.RowKit

theorem bytes_one (b : UInt8) : Lib.byteCells [b] = [.int .u8 (b.toNat : Int)] := by
  have := byteCells_one b.toNat_lt
  simpa using this
theorem hexs : ∀ (H L : Fin 16), ((⟨#[92, 120]⟩ : ByteArray) ++ (⟨#[48, 49, 50, 51, 52, 53, 54, 55, 56, 57, 97, 98, 99, 100, 101, 102]⟩ : ByteArray).extract H.val (H.val + 1) ++ (⟨#[48, 49, 50, 51, 52, 53, 54, 55, 56, 57, 97, 98, 99, 100, 101, 102]⟩ : ByteArray).extract L.val (L.val + 1)).data.toList = [92, 120, hexD H.val, hexD L.val] := by decide +kernel
theorem hexs_of {H L : Nat} (h : H < 16) (l : L < 16) : ((⟨#[92, 120]⟩ : ByteArray) ++ (⟨#[48, 49, 50, 51, 52, 53, 54, 55, 56, 57, 97, 98, 99, 100, 101, 102]⟩ : ByteArray).extract H (H + 1) ++ (⟨#[48, 49, 50, 51, 52, 53, 54, 55, 56, 57, 97, 98, 99, 100, 101, 102]⟩ : ByteArray).extract L (L + 1)) = ⟨[92, 120, hexD H, hexD L].toArray⟩ :=
  bytes_eq (hexs ⟨H, h⟩ ⟨L, l⟩)
theorem ext_ones : ∀ H : Fin 16, ((⟨#[48, 49, 50, 51, 52, 53, 54, 55, 56, 57, 97, 98, 99, 100, 101, 102]⟩ : ByteArray).extract H.val (H.val + 1)).size = 1 := by decide +kernel
theorem ext_one {H : Nat} (h : H < 16) : ((⟨#[48, 49, 50, 51, 52, 53, 54, 55, 56, 57, 97, 98, 99, 100, 101, 102]⟩ : ByteArray).extract H (H + 1)).size = 1 := ext_ones ⟨H, h⟩
theorem and15s : ∀ n : Fin 256, bits .and .u8 ((n.val : Nat) : Int) 15 = ((n.val % 16 : Nat) : Int) := by decide +kernel
theorem and15 (b : UInt8) : bits .and .u8 (b.toNat : Int) 15 = ((b.toNat % 16 : Nat) : Int) := and15s ⟨b.toNat, b.toNat_lt⟩
theorem strCells_list (l : List UInt8) : Lib.strCells ⟨l.toArray⟩ = Lib.byteCells l := by
  simp [Lib.strCells, Lib.byteCells]
set_option maxHeartbeats 6400000 in
theorem lquote_any (v : ByteArray) (w : World) (hv : v.size * 4 + 2 ≤ 140737488355328) :
    Calls Tryz.prog 57 #[.string v] w fun e w' => e = .returned (.string ⟨(quoteL v.data.toList).toArray⟩) ∧ Below w.heap.size w w' := by
  go_enter Tryz.func57, Tryz.ntmps57
  go_wp2_with fail
  have hI : Lib.IsBuilder 270 5 w.heap.size w.heap.size (Lib.byteCells []) (w.alloc (.cells #[.pointer none, .slice none 0 0] 270)) := bld_new w
  have hB : Below w.heap.size w (w.alloc (.cells #[.pointer none, .slice none 0 0] 270)) := (Below.refl _ _).alloc (Nat.le_refl _) _
  generalize w.alloc (.cells #[.pointer none, .slice none 0 0] 270) = w1 at hI hB ⊢
  obtain ⟨g, hg⟩ : ∃ g, w.heap.size = g := ⟨_, rfl⟩
  rw [hg] at hI hB ⊢
  refine (bldByte_any g g (Lib.byteCells []) 34 w1 hI (by decide) (by have := hB.size; omega)).mono ?_
  rintro e w2 ⟨rfl, hb2, hbl2, _⟩
  have hb2' : Lib.IsBuilder 270 5 g g (Lib.byteCells (34 :: quoL (v.data.toList.take 0))) w2 := .inr (by have h := hb2; exact h)
  have HB2 := hidden hb2'
  have HBL2 := hidden (hB.trans hbl2)
  clear hb2 hbl2 hI hB hb2'
  go_wp2_with fail
  go_loopw [9] (fun vi wr => ∃ k : Nat, vi = .int .i64 k ∧ k ≤ v.size ∧ Hid (Lib.IsBuilder 270 5 g g (Lib.byteCells (34 :: quoL (v.data.toList.take k))) wr) ∧ Below g w wr) (fun vi _ => v.size - (intOf vi).toNat)
  case atStart => exact ⟨0, rfl, Nat.zero_le _, HB2, HBL2.out⟩
  case round =>
    obtain ⟨k, rfl, hk, hb, hbl⟩ := hrel
    have k0 : (0 : Int) ≤ (k : Int) := by omega
    have HBL := hidden hbl
    clear hbl
    have hql := quoL_len (v.data.toList.take k)
    by_cases hlt : k < v.size
    · have k1 : (k : Int) < (v.size : Int) := by omega
      obtain ⟨b, hbe, hbat⟩ := str_at hlt
      have hT := hidden (take_snoc? hbat)
      have h256 := size_lt b
      have hsz : (Lib.byteCells (34 :: quoL (v.data.toList.take k))).length ≤ 4 * k + 1 := by
        rw [Lib.byteCells_length, List.length_cons]
        have : (v.data.toList.take k).length ≤ k := List.length_take_le _ _
        omega
      clear hbat
      by_cases h1 : b.toNat = 34
      · have e34 : ((b.toNat : Int) == 34) = true := by simp [h1]
        have HQ := hidden (show b.toNat = 34 ∨ b.toNat = 92 from .inl h1)
        clear h1
        go_wp2_with fail
        refine (bldByte_any g g _ 92 wr hb.out (by omega) (by have := HBL.out.size; omega)).mono ?_
        rintro e w5 ⟨rfl, hb5, hbl5, _⟩
        have HB5 := hidden hb5
        have HBL5 := hidden (HBL.out.trans hbl5)
        clear hb5 hbl5
        go_wp2_with fail
        refine (bldByte_any g g _ (b.toNat : Int) w5 (.inr HB5.out) (by rw [List.length_append]; simp only [List.length_singleton]; omega) (by have := HBL5.out.size; omega)).mono ?_
        rintro e w6 ⟨rfl, hb6, hbl6, _⟩
        have hby : Lib.byteCells (34 :: quoL (v.data.toList.take k)) ++ [.int .u8 92] ++ [.int .u8 (b.toNat : Int)] = Lib.byteCells (34 :: quoL (v.data.toList.take (k + 1))) := by
          have e2 : quoB b = [92] ++ [b] := by unfold quoB; rw [if_pos HQ.out]; rfl
          rw [hT.out, quoL_snoc, e2, ← List.append_assoc, ← List.cons_append, ← List.cons_append, Lib.byteCells_append, Lib.byteCells_append, bytes_one b]; rfl
        rw [hby] at hb6
        have HB6 : Hid (Lib.IsBuilder 270 5 g g (Lib.byteCells (34 :: quoL (v.data.toList.take (k + 1)))) w6) := .inr hb6
        have HBL6 := hidden (HBL5.out.trans hbl6)
        clear hb6 hbl6 hby
        go_wp2_with fail
        go_roundw
        case rel => exact ⟨k + 1, by go_num, by omega, HB6, HBL6.out⟩
        case measure => simp [intOf]; omega
      · have e34 : ((b.toNat : Int) == 34) = false := by simp; omega
        by_cases h2 : b.toNat = 92
        · have e92 : ((b.toNat : Int) == 92) = true := by simp [h2]
          have HQ := hidden (show b.toNat = 34 ∨ b.toNat = 92 from .inr h2)
          clear h2
          go_wp2_with fail
          refine (bldByte_any g g _ 92 wr hb.out (by omega) (by have := HBL.out.size; omega)).mono ?_
          rintro e w5 ⟨rfl, hb5, hbl5, _⟩
          have HB5 := hidden hb5
          have HBL5 := hidden (HBL.out.trans hbl5)
          clear hb5 hbl5
          go_wp2_with fail
          refine (bldByte_any g g _ (b.toNat : Int) w5 (.inr HB5.out) (by rw [List.length_append]; simp only [List.length_singleton]; omega) (by have := HBL5.out.size; omega)).mono ?_
          rintro e w6 ⟨rfl, hb6, hbl6, _⟩
          have hby : Lib.byteCells (34 :: quoL (v.data.toList.take k)) ++ [.int .u8 92] ++ [.int .u8 (b.toNat : Int)] = Lib.byteCells (34 :: quoL (v.data.toList.take (k + 1))) := by
            have e2 : quoB b = [92] ++ [b] := by unfold quoB; rw [if_pos HQ.out]; rfl
            rw [hT.out, quoL_snoc, e2, ← List.append_assoc, ← List.cons_append, ← List.cons_append, Lib.byteCells_append, Lib.byteCells_append, bytes_one b]; rfl
          rw [hby] at hb6
          have HB6 : Hid (Lib.IsBuilder 270 5 g g (Lib.byteCells (34 :: quoL (v.data.toList.take (k + 1)))) w6) := .inr hb6
          have HBL6 := hidden (HBL5.out.trans hbl6)
          clear hb6 hbl6 hby
          go_wp2_with fail
          go_roundw
          case rel => exact ⟨k + 1, by go_num, by omega, HB6, HBL6.out⟩
          case measure => simp [intOf]; omega
        · have e92 : ((b.toNat : Int) == 92) = false := by simp; omega
          by_cases h3 : 32 ≤ b.toNat ∧ b.toNat ≤ 126
          · have i32 : (32 : Int) ≤ (b.toNat : Int) := by omega
            have i126 : (b.toNat : Int) ≤ 126 := by omega
            go_wp2_with fail
            refine (bldByte_any g g _ (b.toNat : Int) wr hb.out (by omega) (by have := HBL.out.size; omega)).mono ?_
            rintro e w6 ⟨rfl, hb6, hbl6, _⟩
            have hby : Lib.byteCells (34 :: quoL (v.data.toList.take k)) ++ [.int .u8 (b.toNat : Int)] = Lib.byteCells (34 :: quoL (v.data.toList.take (k + 1))) := by
              have e2 : quoB b = [b] := by unfold quoB; rw [if_neg (by omega), if_pos h3]
              rw [hT.out, quoL_snoc, e2, ← List.cons_append, Lib.byteCells_append, bytes_one b]
            rw [hby] at hb6
            have HB6 : Hid (Lib.IsBuilder 270 5 g g (Lib.byteCells (34 :: quoL (v.data.toList.take (k + 1)))) w6) := .inr hb6
            have HBL6 := hidden (HBL.out.trans hbl6)
            clear hb6 hbl6 hby
            go_wp2_with fail
            go_roundw
            case rel => exact ⟨k + 1, by go_num, by omega, HB6, HBL6.out⟩
            case measure => simp [intOf]; omega
          · by_cases h4 : 32 ≤ b.toNat
            · have i32 : (32 : Int) ≤ (b.toNat : Int) := by omega
              have i126 : decide ((b.toNat : Int) ≤ 126) = false := by simp; omega
              obtain ⟨H, hH⟩ : ∃ H, b.toNat / 16 = H := ⟨_, rfl⟩
              obtain ⟨D, hD⟩ : ∃ D, b.toNat % 16 = D := ⟨_, rfl⟩
              have fH : (b.toNat : Int) / 16 = (H : Int) := by omega
              have fD : (b.toNat : Int) % 16 = (D : Int) := by omega
              have hH16 : H < 16 := by omega
              have hD16 : D < 16 := by omega
              have wH : IntKind.u8.wrap ((H : Int) + 1) = (H : Int) + 1 := by rw [IntKind.wrap_u8']; omega
              have wD : IntKind.u8.wrap ((D : Int) + 1) = (D : Int) + 1 := by rw [IntKind.wrap_u8']; omega
              have b1 : (0 : Int) ≤ (H : Int) := by omega
              have b2 : (H : Int) ≤ (H : Int) + 1 := by omega
              have b3 : (H : Int) + 1 ≤ 16 := by omega
              have b4 : (0 : Int) ≤ (D : Int) := by omega
              have b5 : (D : Int) ≤ (D : Int) + 1 := by omega
              have b6 : (D : Int) + 1 ≤ 16 := by omega
              have b7 : ((H : Int) + 1).toNat = H + 1 := by omega
              have b8 : ((D : Int) + 1).toNat = D + 1 := by omega
              have hstr := hexs_of hH16 hD16
              obtain ⟨X1, hX1⟩ : ∃ X, (⟨#[48, 49, 50, 51, 52, 53, 54, 55, 56, 57, 97, 98, 99, 100, 101, 102]⟩ : ByteArray).extract H (H + 1) = X := ⟨_, rfl⟩
              obtain ⟨X2, hX2⟩ : ∃ X, (⟨#[48, 49, 50, 51, 52, 53, 54, 55, 56, 57, 97, 98, 99, 100, 101, 102]⟩ : ByteArray).extract D (D + 1) = X := ⟨_, rfl⟩
              rw [hX1, hX2] at hstr
              have HSTR := hidden hstr
              have hsz4 : ((⟨#[92, 120]⟩ : ByteArray) ++ X1 ++ X2).size = 4 := by rw [hstr]; rfl
              have HSZ4 := hidden hsz4
              have HH := hidden (And.intro hH hD)
              have S1 := hidden (bldStr_any g g _ ((⟨#[92, 120]⟩ : ByteArray) ++ X1 ++ X2) wr.drew (bld_below hb.out (Below.refl _ _).drew) (by rw [HSZ4.out]; omega) (by have := HBL.out.size; show g ≤ wr.heap.size; omega))
              have z1 : X1.size = 1 := by rw [← hX1]; exact ext_one hH16
              have z2 : X2.size = 1 := by rw [← hX2]; exact ext_one hD16
              have fD2 : bits .and .u8 (b.toNat : Int) 15 = (D : Int) := by rw [and15 b, hD]
              clear hH hD hstr hsz4
              go_wp2_with fail
              go_region_held3 (fun w' => True) (trivial) (first | (go_at_call 128; refine S1.out.mono ?_; rintro e w6 ⟨rfl, hb6, hbl6, _⟩))
              have hby : Lib.byteCells (34 :: quoL (v.data.toList.take k)) ++ Lib.strCells ((⟨#[92, 120]⟩ : ByteArray) ++ X1 ++ X2) = Lib.byteCells (34 :: quoL (v.data.toList.take (k + 1))) := by
                have e2 : quoB b = [92, 120, hexD H, hexD D] := by unfold quoB; rw [if_neg (by omega), if_neg (by omega), HH.out.1, HH.out.2]
                rw [HSTR.out, hT.out, quoL_snoc, e2, ← List.cons_append, Lib.byteCells_append, strCells_list]
              rw [hby] at hb6
              have HB6 : Hid (Lib.IsBuilder 270 5 g g (Lib.byteCells (34 :: quoL (v.data.toList.take (k + 1)))) w6) := .inr hb6
              have HBL6 := hidden (HBL.out.trans ((Below.refl _ _).drew.trans hbl6))
              clear hb6 hbl6 hby S1
              go_wp2_with fail
              go_roundw
              case rel => exact ⟨k + 1, by go_num, by omega, HB6, HBL6.out⟩
              case measure => simp [intOf]; omega
            · have i32 : ¬ (32 : Int) ≤ (b.toNat : Int) := by omega
              obtain ⟨H, hH⟩ : ∃ H, b.toNat / 16 = H := ⟨_, rfl⟩
              obtain ⟨D, hD⟩ : ∃ D, b.toNat % 16 = D := ⟨_, rfl⟩
              have fH : (b.toNat : Int) / 16 = (H : Int) := by omega
              have fD : (b.toNat : Int) % 16 = (D : Int) := by omega
              have hH16 : H < 16 := by omega
              have hD16 : D < 16 := by omega
              have wH : IntKind.u8.wrap ((H : Int) + 1) = (H : Int) + 1 := by rw [IntKind.wrap_u8']; omega
              have wD : IntKind.u8.wrap ((D : Int) + 1) = (D : Int) + 1 := by rw [IntKind.wrap_u8']; omega
              have b1 : (0 : Int) ≤ (H : Int) := by omega
              have b2 : (H : Int) ≤ (H : Int) + 1 := by omega
              have b3 : (H : Int) + 1 ≤ 16 := by omega
              have b4 : (0 : Int) ≤ (D : Int) := by omega
              have b5 : (D : Int) ≤ (D : Int) + 1 := by omega
              have b6 : (D : Int) + 1 ≤ 16 := by omega
              have b7 : ((H : Int) + 1).toNat = H + 1 := by omega
              have b8 : ((D : Int) + 1).toNat = D + 1 := by omega
              have hstr := hexs_of hH16 hD16
              obtain ⟨X1, hX1⟩ : ∃ X, (⟨#[48, 49, 50, 51, 52, 53, 54, 55, 56, 57, 97, 98, 99, 100, 101, 102]⟩ : ByteArray).extract H (H + 1) = X := ⟨_, rfl⟩
              obtain ⟨X2, hX2⟩ : ∃ X, (⟨#[48, 49, 50, 51, 52, 53, 54, 55, 56, 57, 97, 98, 99, 100, 101, 102]⟩ : ByteArray).extract D (D + 1) = X := ⟨_, rfl⟩
              rw [hX1, hX2] at hstr
              have HSTR := hidden hstr
              have hsz4 : ((⟨#[92, 120]⟩ : ByteArray) ++ X1 ++ X2).size = 4 := by rw [hstr]; rfl
              have HSZ4 := hidden hsz4
              have HH := hidden (And.intro hH hD)
              have S1 := hidden (bldStr_any g g _ ((⟨#[92, 120]⟩ : ByteArray) ++ X1 ++ X2) wr.drew (bld_below hb.out (Below.refl _ _).drew) (by rw [HSZ4.out]; omega) (by have := HBL.out.size; show g ≤ wr.heap.size; omega))
              have z1 : X1.size = 1 := by rw [← hX1]; exact ext_one hH16
              have z2 : X2.size = 1 := by rw [← hX2]; exact ext_one hD16
              have fD2 : bits .and .u8 (b.toNat : Int) 15 = (D : Int) := by rw [and15 b, hD]
              clear hH hD hstr hsz4
              go_wp2_with fail
              go_region_held3 (fun w' => True) (trivial) (first | (go_at_call 128; refine S1.out.mono ?_; rintro e w6 ⟨rfl, hb6, hbl6, _⟩))
              have hby : Lib.byteCells (34 :: quoL (v.data.toList.take k)) ++ Lib.strCells ((⟨#[92, 120]⟩ : ByteArray) ++ X1 ++ X2) = Lib.byteCells (34 :: quoL (v.data.toList.take (k + 1))) := by
                have e2 : quoB b = [92, 120, hexD H, hexD D] := by unfold quoB; rw [if_neg (by omega), if_neg (by omega), HH.out.1, HH.out.2]
                rw [HSTR.out, hT.out, quoL_snoc, e2, ← List.cons_append, Lib.byteCells_append, strCells_list]
              rw [hby] at hb6
              have HB6 : Hid (Lib.IsBuilder 270 5 g g (Lib.byteCells (34 :: quoL (v.data.toList.take (k + 1)))) w6) := .inr hb6
              have HBL6 := hidden (HBL.out.trans ((Below.refl _ _).drew.trans hbl6))
              clear hb6 hbl6 hby S1
              go_wp2_with fail
              go_roundw
              case rel => exact ⟨k + 1, by go_num, by omega, HB6, HBL6.out⟩
              case measure => simp [intOf]; omega
    · obtain rfl : k = v.size := by omega
      have k1 : ¬ (v.size : Int) < (v.size : Int) := by omega
      have hfull : v.data.toList.take v.size = v.data.toList := List.take_of_length_le (Nat.le_refl _)
      rw [hfull] at hb hql
      have hbl3 : (Lib.byteCells (34 :: quoL v.data.toList)).length ≤ 4 * v.size + 1 := by
        rw [Lib.byteCells_length, List.length_cons]
        have : v.data.toList.length = v.size := rfl
        omega
      go_wp2_with fail
      refine (bldByte_any g g _ 34 wr hb.out (by omega) (by have := HBL.out.size; omega)).mono ?_
      rintro e w6 ⟨rfl, hb6, hbl6, _⟩
      have hby : Lib.byteCells (34 :: quoL v.data.toList) ++ [.int .u8 34] = Lib.byteCells (quoteL v.data.toList) := by
        rw [quoteL, ← List.cons_append, Lib.byteCells_append]; rfl
      rw [hby] at hb6
      have HB6 := hidden hb6
      have HBL6 := hidden (HBL.out.trans hbl6)
      clear hb6 hbl6 hby
      go_wp2_with fail
      refine (bldString_any g g (quoteL v.data.toList) w6 (.inr HB6.out) (by simp [quoteL])).mono ?_
      rintro e w7 ⟨rfl, hbl7⟩
      have HBL7 := hidden (HBL6.out.trans hbl7)
      clear hbl7
      go_wp2_with fail
      go_ret
      subst hg
      exact ⟨rfl, HBL7.out⟩
end Go.Proofs.YtbijjjhfekkfaaaGreat

namespace Go.Proofs.YtbijjjhfekkfaaaGreat
set_option maxRecDepth 100000
open Go.RowKit

/-- a kind's sign -/
def signK (k : Nat) : ByteArray := if k = 0 then ⟨#[61]⟩ else if k = 1 then ⟨#[33, 61]⟩ else if k = 2 then ⟨#[61, 126]⟩ else ⟨#[33, 126]⟩
/-- a matcher's text -/
def showM (k : Nat) (name value : ByteArray) : ByteArray := name ++ signK k ++ ⟨(quoteL value.data.toList).toArray⟩
theorem signs_any (w : World) : Calls Tryz.prog 51 #[] w fun e w' => e = .returned (.agg #[.string ⟨#[61]⟩, .string ⟨#[33, 61]⟩, .string ⟨#[61, 126]⟩, .string ⟨#[33, 126]⟩]) ∧ Below w.heap.size w w' := by
  have hw := Whole1.new w 133 #[.string ⟨#[61]⟩, .string ⟨#[33, 61]⟩, .string ⟨#[61, 126]⟩, .string ⟨#[33, 126]⟩]
  have c0 := hw.cell 0
  have c1 := hw.cell 1
  have c2 := hw.cell 2
  have c3 := hw.cell 3
  have hb : Below w.heap.size w (w.alloc (.cells #[.string ⟨#[61]⟩, .string ⟨#[33, 61]⟩, .string ⟨#[61, 126]⟩, .string ⟨#[33, 126]⟩] 133)) := (Below.refl _ _).alloc (Nat.le_refl _) _
  clear hw
  go_enter Tryz.func51, Tryz.ntmps51
  go_wp2_with fail
  simp [bodyPost, results, Tryz.results51, go_sem, c0, c1, c2, c3, hb]

theorem ix_arr {P : Program} {t e : TypeId} {n i : Nat} {d : TypeDesc} {f : TypeInfo} {cs : Array Value} {v : Value} (ht : P.underlying t = some (.array n e)) (he : P.underlying e = some d) (hd : (match d with | .struct _ | .array _ _ => true | _ => false) = false) (hf : P.info? e = some f) (hs : f.size = 1) (hi : i < n) (hv : cs[i]? = some v) (w : World) :
    (Instr.index t (.agg cs) (.int .i64 (i : Int))).run P w = .ok v w := by
  have h1 : (0 : Int) ≤ (i : Int) ∧ (i : Int) < (n : Int) := by omega
  have hp : (part e cs i).run P w = .ok v w := by
    cases d <;> simp at hd <;> simp [part, isAgg, run_underlying he, hv]
  simp [Instr.index, run_underlying ht, sizeOf, typeInfo, hf, hs, h1, hp, Result.andThen, asIntOf]
  intro h; omega
theorem infoStrM : (Tryz.prog.info? 9).map (fun i => i.size) = some 1 := by kernel_rfl
theorem ix_signs (k : Nat) (hk : k < 4) (w : World) : (Instr.index 133 (.agg #[.string ⟨#[61]⟩, .string ⟨#[33, 61]⟩, .string ⟨#[61, 126]⟩, .string ⟨#[33, 126]⟩]) (.int .i64 (k : Int))).run Tryz.prog w = .ok (.string (signK k)) w := by
  obtain ⟨f, hf, hs⟩ := Option.map_eq_some_iff.1 infoStrM
  refine ix_arr Tryz.underlying133 Tryz.underlying9 rfl hf hs hk ?_ w
  have hkk : k = 0 ∨ k = 1 ∨ k = 2 ∨ k = 3 := by omega
  rcases hkk with rfl | rfl | rfl | rfl <;> rfl

set_option maxHeartbeats 3200000 in
theorem mshow_any (M : Nat) (k : Nat) (name value : ByteArray) (F : ByteArray → Bool) (w : World) (h : MatAt w M k name value F) (hk : k < 4) (hn : name.size ≤ 140737488355328) (hv : value.size * 4 + 2 ≤ 140737488355328) :
    Calls Tryz.prog 13 #[.pointer (some ⟨M, 0, none⟩)] w fun e w' => e = .returned (.string (showM k name value)) ∧ Below w.heap.size w w' := by
  obtain ⟨fv, h1, _⟩ := h
  have H := hidden (fun W (hW : Below w.heap.size w W) => (⟨(h1.below hW h1.lt).cell 0, (h1.below hW h1.lt).cell 1, (h1.below hW h1.lt).cell 2⟩ : W.cell? ⟨M, 0, none⟩ = some (.int .i64 (k : Int)) ∧ W.cell? ⟨M, 1, none⟩ = some (.string name) ∧ W.cell? ⟨M, 2, none⟩ = some (.string value)))
  have hix := ix_signs k hk
  have eS : showM k name value = name ++ signK k ++ ⟨(quoteL value.data.toList).toArray⟩ := rfl
  rw [eS]
  have hsg : (signK k).size ≤ 2 := by
    have hkk : k = 0 ∨ k = 1 ∨ k = 2 ∨ k = 3 := by omega
    rcases hkk with rfl | rfl | rfl | rfl <;> decide
  have hql : (⟨(quoteL value.data.toList).toArray⟩ : ByteArray).size ≤ 140737488355328 := by
    have h1 := quoL_len value.data.toList
    have h2 : value.data.toList.length = value.size := rfl
    show (quoteL value.data.toList).toArray.size ≤ _
    rw [List.size_toArray, quoteL, List.length_cons, List.length_append, List.length_singleton]
    omega
  generalize signK k = sg at *
  have ha1 : ∀ w, (Op.stringOp .add name sg).run Tryz.prog w = .ok (.string (name ++ sg)) w := fun w => run_string_add_sum w _ _ (by omega)
  have ha2 : ∀ w, (Op.stringOp .add (name ++ sg) ⟨(quoteL value.data.toList).toArray⟩).run Tryz.prog w = .ok (.string (name ++ sg ++ ⟨(quoteL value.data.toList).toArray⟩)) w := fun w => run_string_add_sum w _ _ (by rw [ByteArray.size_append]; omega)
  clear h1 eS hsg
  obtain ⟨Q, hQ⟩ : ∃ Q, (⟨(quoteL value.data.toList).toArray⟩ : ByteArray) = Q := ⟨_, rfl⟩
  have SQ := hidden (fun W => lquote_any value W hv)
  rw [hQ] at ha2 SQ ⊢
  clear hQ hql
  go_enter Tryz.func13, Tryz.ntmps13
  go_upto_region 3 with (fail)
  go_region_held3 (fun W => W.cell? ⟨M, 0, none⟩ = some (.int .i64 (k : Int)) ∧ W.cell? ⟨M, 1, none⟩ = some (.string name) ∧ W.cell? ⟨M, 2, none⟩ = some (.string value))
      (first | exact H.out _ (Below.refl _ _) | exact H.out _ (Below.refl _ _).drew | exact H.out _ (by assumption))
      (first
        | (go_at_call 51; refine (signs_any _).mono ?_; rintro e wA ⟨rfl, bA⟩; have kA : Below w.heap.size w wA := (by first | exact (kB.trans (bA.mono kB.size)) | exact (Below.refl _ _).drew.trans bA))
        | (go_at_call 57; refine (SQ.out _).mono ?_; rintro e wB ⟨rfl, bB⟩; have kB : Below w.heap.size w wB := (by first | exact (kA.trans (bB.mono kA.size)) | exact (Below.refl _ _).drew.trans bB)))
  all_goals (
    go_wp2_with fail
    go_ret
    refine ⟨rfl, ?_⟩
    first | exact kB | exact kA)
end Go.Proofs.YtbijjjhfekkfaaaGreat

namespace Go.Proofs.YtbijjjhfekkfaaaGreat
set_option maxRecDepth 100000
open Go.RowKit

section
variable {P : Program} (w : World)
theorem step_appA {ops : Array Oper} {o : Oper} {a : Act} {K : Act → World → Prop} {Q : Exit → Act → World → Prop} {E : Prop} (hgd : o.guard = none) (s x : Operand) (t : TypeId)
    (ho : o.op = .call { callee := .builtin .append, args := #[s, x], argTypes := #[t, t] })
    (base : Nat) (e : TypeId) (i : TypeInfo) (z : Value) (size bytes : Nat) (ht : P.underlying t = some (.slice e)) (hi : P.info? e = some i) (hz : i.zero = some z)
    (hsize : i.size = size) (hby : i.bytes = bytes) (hzs : z.cells.size = size) (hsz : 0 < size)
    (v : Value) (n : Nat) (xs : List Value) (hs : a.eval s = v) (hown : w.ownsRow base e size v n xs)
    (B : Nat) (A : Option Addr) (m c : Nat) (news : List Value) (hx : a.eval x = .slice A m c) (hr : Row w B size A m news) (h1 : ∀ u ∈ news, u.oneCell' = true)
    (h63 : n + m ≤ maxLen) (hbytes : (n + m) * bytes ≤ 140737488355328) (hbase : base ≤ w.heap.size)
    (h : ∀ v' w', w'.ownsRow base e size v' (n + m) (xs ++ news) → w.grownBy w' v.ownBlock → (v'.ownBlock = v.ownBlock ∨ v'.ownBlock = some w.heap.size) → K (a.put o.dst v') w') :
    if Region.wanted o (yielded ops a.tmps) = true then Oper.wp P o a w K Q else E := by
  have hw : Region.wanted o (yielded ops a.tmps) = true := by simp [Region.wanted, hgd]
  rw [if_pos hw]
  exact wp_app w s x t ho base e i z size bytes ht hi hz hsize hby hzs hsz v n xs hs hown B A m c news hx hr h1 h63 hbytes hbase h
end
end Go.Proofs.YtbijjjhfekkfaaaGreat

namespace Go.Proofs.YtbijjjhfekkfaaaGreat
set_option maxRecDepth 100000
open Go.RowKit

section
variable {P : Program} {w w' : World} {ops : Array Oper} {rest : List Oper} {o : Oper} {a : Act} {Q : Exit → Act → World → Prop} {K : Act → World → Prop} {E : Prop}
theorem run_loadCells_whole {g : Nat} {t : TypeId} {c : Array Value} (hw : Whole1 w g t c) : (loadCells ⟨g, 0, none⟩ c.size).run P w = .ok c w := by
  have := run_loadCells_list (P := P) w ⟨g, 0, none⟩ c.toList (fun j v hv => by
    have hadd : (⟨g, 0, none⟩ : Addr).add j = ⟨g, j, none⟩ := by unfold Addr.add; split <;> simp_all
    rw [hadd, hw.cell]
    simpa using hv)
  simpa using this
theorem run_loadW {g : Nat} {t u : TypeId} {c : Array Value} {n : Nat} (ha : ∀ w, (isAgg t).run P w = .ok true w) (hz : ∀ w, (Go.sizeOf t).run P w = .ok n w) (hw : Whole1 w g u c) (hn : c.size = n) :
    (Instr.loadAt t (.pointer (some ⟨g, 0, none⟩))).run P w = .ok (.agg c) w := by
  subst hn
  simp only [Instr.loadAt, Instr.sureAddr, Sem.run_bind, Sem.run_pure, Result.andThen]
  simp [loadVar, ha, hz, run_loadCells_whole hw, Result.andThen]
theorem wpList_loadW (hg : o.guard = none) (x : Operand) (t : TypeId) (hop : o.op = .load t x) (p : Value) (hx : a.eval x = p) (v : Value) (hl : (Instr.loadAt t p).run P w = .ok v w) (hK : wpList P ops Q rest (a.put o.dst v) w) : wpList P ops Q (o :: rest) a w := by
  refine wpList_plain hg fun K' hK' => ?_
  unfold Oper.wp
  simp [execOp, hop, hx, hl, Result.andThen]
  exact hK' _ _ hK
theorem wpList_storeW (hg : o.guard = none) (x y : Operand) (t : TypeId) (hop : o.op = .store t x y) (p v : Value) (hx : a.eval x = p) (hy : a.eval y = v) (hl : (Instr.storeAt t p v).run P w = .ok () w') (hK : wpList P ops Q rest (a.put o.dst undef) w') : wpList P ops Q (o :: rest) a w := by
  refine wpList_plain hg fun K' hK' => ?_
  unfold Oper.wp
  simp [execOp, hop, hx, hy, hl, Result.andThen]
  exact hK' _ _ hK
theorem step_loadW (hg : o.guard = none) (x : Operand) (t : TypeId) (hop : o.op = .load t x) (p : Value) (hx : a.eval x = p) (v : Value) (hl : (Instr.loadAt t p).run P w = .ok v w) (hK : K (a.put o.dst v) w) :
    if Region.wanted o (yielded ops a.tmps) = true then Oper.wp P o a w K Q else E := by
  have hw : Region.wanted o (yielded ops a.tmps) = true := by simp [Region.wanted, hg]
  rw [if_pos hw]
  unfold Oper.wp
  simp [execOp, hop, hx, hl, Result.andThen]
  exact hK
end
theorem fold_at : ∀ (l : List Value) (k : Nat) (arr : Array Value) (j : Nat), ((l.zipIdx k).foldl (fun cs x => cs.setIfInBounds x.2 x.1) arr)[j]? = if j < arr.size then (if k ≤ j ∧ j < k + l.length then l[j - k]? else arr[j]?) else none
  | [], k, arr, j => by
    rw [List.zipIdx_nil, List.foldl_nil]
    split
    · rw [if_neg (by simp)]
    · rename_i h; exact Array.getElem?_eq_none (by omega)
  | x :: l, k, arr, j => by
    rw [List.zipIdx_cons, List.foldl_cons, fold_at l (k + 1) (arr.setIfInBounds k x) j, Array.size_setIfInBounds]
    split
    · rename_i h
      by_cases h1 : k = j
      · subst h1
        rw [if_neg (by omega), if_pos (by simp)]
        simp [h]
      · rw [Array.getElem?_setIfInBounds, if_neg h1]
        by_cases h2 : k ≤ j ∧ j < k + (x :: l).length
        · rw [if_pos h2, if_pos (by simp at h2; omega), show j - k = (j - (k + 1)) + 1 from by omega, List.getElem?_cons_succ]
        · rw [if_neg h2, if_neg (by simp at h2; omega)]
    · rfl
/-- cells laid one by one over others are these cells -/
theorem fold_all (cs0 cs : Array Value) (h : cs0.size = cs.size) : Array.foldl (fun cs x => cs.setIfInBounds x.snd x.fst) cs0 cs.zipIdx 0 cs.size = cs := by
  have h1 : cs.size = cs.zipIdx.size := by simp
  conv => lhs; arg 5; rw [h1]
  rw [← Array.foldl_toList, Array.toList_zipIdx]
  apply Array.ext_getElem?
  intro j
  rw [fold_at]
  split
  · rename_i h2
    rw [if_pos (by simp; omega), Nat.sub_zero, Array.getElem?_toList]
  · rename_i h2
    exact (Array.getElem?_eq_none (by omega)).symm
end Go.Proofs.YtbijjjhfekkfaaaGreat

namespace Go.Proofs.YtbijjjhfekkfaaaGreat
set_option maxRecDepth 100000
open Go.RowKit

/-- a block of cells of one of these types; or a map -/
def kindIn (ts : List TypeId) (mp : Bool) : Option Obj → Prop
  | some (.cells _ t _) => t ∈ ts
  | some (.map _ _) => mp = true
  | _ => False
/-- from w to w' only blocks of these kinds, at base and above, and what is new, may have turned -/
structure Turn (base : Nat) (ts : List TypeId) (mp : Bool) (w w' : World) : Prop where
  os : w'.os = w.os
  tape : w'.tape = w.tape
  output : w'.output = w.output
  size : w.heap.size ≤ w'.heap.size
  block : ∀ g, g < w.heap.size → (g < base ∨ ¬ kindIn ts mp w.heap[g]?) → w'.heap[g]? = w.heap[g]?
section
variable {base base' : Nat} {ts us : List TypeId} {mp mq : Bool} {a b c w w' : World}
theorem Turn.refl (base : Nat) (ts : List TypeId) (mp : Bool) (w : World) : Turn base ts mp w w := ⟨rfl, rfl, rfl, Nat.le_refl _, fun _ _ _ => rfl⟩
theorem Turn.trans (h : Turn base ts mp a b) (k : Turn base ts mp b c) : Turn base ts mp a c :=
  ⟨k.os.trans h.os, k.tape.trans h.tape, k.output.trans h.output, Nat.le_trans h.size k.size, fun g hg hn => by
    have e := h.block g hg hn
    rw [k.block g (Nat.lt_of_lt_of_le hg h.size) (by rw [e]; exact hn), e]⟩
theorem Turn.wider (h : Turn base ts mp a b) (hb : base' ≤ base) (ht : ∀ t ∈ ts, t ∈ us) (hm : mp = true → mq = true) : Turn base' us mq a b :=
  ⟨h.os, h.tape, h.output, h.size, fun g hg hn => h.block g hg (by
    rcases hn with hn | hn
    · exact .inl (by omega)
    · refine .inr fun hk => hn ?_
      unfold kindIn at hk ⊢
      split at hk
      · exact ht _ hk
      · exact hm hk
      · exact hk.elim)⟩
theorem Turn.of_below (h : Below a.heap.size a b) (base : Nat) (ts : List TypeId) (mp : Bool) : Turn base ts mp a b := ⟨h.os, h.tape, h.output, h.size, fun g hg _ => h.block g hg⟩
theorem Turn.drew (h : Turn base ts mp a b) : Turn base ts mp a b.drew := ⟨h.os, h.tape, h.output, h.size, h.block⟩
theorem Turn.drewN (h : Turn base ts mp a b) (n : Nat) : Turn base ts mp a (b.drewN n) := ⟨h.os, h.tape, h.output, h.size, h.block⟩
theorem Turn.alloc (h : Turn base ts mp a b) (o : Obj) : Turn base ts mp a (b.alloc o) :=
  ⟨h.os, h.tape, h.output, by have := h.size; simp; omega, fun g hg hn => (Below.heap_alloc b o g (Nat.lt_of_lt_of_le hg h.size)).trans (h.block g hg hn)⟩
theorem Turn.of_grown {row : Option Nat} (h : a.grownBy b row) (hr : ∀ g, row = some g → base ≤ g ∧ (g < a.heap.size → kindIn ts mp a.heap[g]?)) : Turn base ts mp a b :=
  ⟨h.os, h.tape, h.output, h.size, fun g hg hn => h.block g hg fun e => by
    obtain ⟨h1, h2⟩ := hr g e.symm
    rcases hn with hn | hn
    · omega
    · exact hn (h2 hg)⟩
theorem Turn.put {g : Nat} {t : TypeId} {cs : Array Value} (hw : Whole1 a g t cs) (hb : base ≤ g) (ht : t ∈ ts) (i : Nat) (u : Value) : Turn base ts mp a (a.setCell ⟨g, i, none⟩ u) :=
  Turn.of_grown (gb_put (gb_refl a _) i u) fun k e => by
    cases e
    exact ⟨hb, fun _ => by rw [show a.heap[g]? = some (.cells cs t (0, 0)) from hw]; exact ht⟩
theorem Turn.below (h : Turn base ts mp a b) {B : Nat} (hB : B ≤ base) (hs : B ≤ a.heap.size) : Below B a b := ⟨h.os, h.tape, h.output, h.size, fun g hg => h.block g (by omega) (.inl (by omega))⟩
/-! what stays -/
theorem Turn.whole (h : Turn base ts mp w w') {g : Nat} {t : TypeId} {cs : Array Value} (hw : Whole1 w g t cs) (hn : g < base ∨ t ∉ ts) : Whole1 w' g t cs :=
  (h.block g hw.lt (by
    rcases hn with hn | hn
    · exact .inl hn
    · refine .inr ?_
      rw [show w.heap[g]? = some (.cells cs t (0, 0)) from hw]
      exact hn)).trans hw
theorem Turn.mapV {S : Value → Prop} {m : List (Value × Value)} {g : Nat} (h : Turn base ts mp w w') (hm : MapV S w g m) (hn : g < base ∨ mp = false) : MapV S w' g m :=
  hm.kept (h.block g hm.lt (by
    rcases hn with hn | hn
    · exact .inl hn
    · refine .inr ?_
      obtain ⟨⟨es, clock, hb, _⟩, _⟩ := hm
      rw [hb]
      show ¬ mp = true
      rw [hn]
      simp))
theorem Turn.own (h : Turn base ts mp w w') {B n size : Nat} {T : TypeId} {v : Value} {xs : List Value} (ho : w.ownsRow B T size v n xs) (hn : T ∉ ts ∨ ∀ g, v.ownBlock = some g → g < base) : w'.ownsRow B T size v n xs := by
  refine ⟨ho.1, ho.2.imp id ?_⟩
  rintro ⟨g, cap, cur, h1, h2, h3, h4⟩
  have hw : Whole1 w g T cur := h3
  exact ⟨g, cap, cur, h1, h2, h.whole hw (hn.symm.imp (fun hk => hk g (by rw [h1]; rfl)) id), h4⟩
theorem Turn.row (h : Turn base ts mp w w') {B size n : Nat} {A : Option Addr} {xs : List Value} (hr : Row w B size A n xs) (hB : B ≤ base) (hs : B ≤ w.heap.size) : Row w' B size A n xs :=
  hr.below (h.below hB hs)
/-- a map's block is no block of cells -/
theorem map_off {S : Value → Prop} {m : List (Value × Value)} {g k : Nat} {t : TypeId} {cs : Array Value} (hm : MapV S w g m) (hw : Whole1 w k t cs) : g ≠ k := by
  rintro rfl
  obtain ⟨⟨es, clock, hb, _⟩, _⟩ := hm
  rw [show w.heap[g]? = some (.cells cs t (0, 0)) from hw] at hb
  cases hb
theorem Turn.of_map {S : Value → Prop} {m : List (Value × Value)} {g : Nat} (hm : MapV S w g m) (hb : base ≤ g) (hg : w.grownBy w' (some g)) : Turn base ts true w w' :=
  Turn.of_grown hg fun k e => by
    cases e
    refine ⟨hb, fun _ => ?_⟩
    obtain ⟨⟨es, clock, hb, _⟩, _⟩ := hm
    rw [hb]
    exact rfl
theorem Turn.of_own {B n size : Nat} {T : TypeId} {v : Value} {xs : List Value} (ho : w.ownsRow B T size v n xs) (hb : base ≤ B) (ht : T ∈ ts) (hg : w.grownBy w' v.ownBlock) : Turn base ts mp w w' :=
  Turn.of_grown hg fun k e => by
    rcases ho.2 with ⟨h1, _⟩ | ⟨g, cap, cur, h1, h2, h3, _⟩
    · rw [h1] at e; cases e
    · rw [h1] at e
      cases e
      exact ⟨Nat.le_trans hb h2, fun _ => by rw [show w.heap[g]? = some (.cells cur T (0, 0)) from h3]; exact ht⟩
end
end Go.Proofs.YtbijjjhfekkfaaaGreat

namespace Go.Proofs.YtbijjjhfekkfaaaGreat
set_option maxRecDepth 100000
open Go.RowKit

theorem nodeAgg (w : World) : (isAgg 350).run Tryz.prog w = .ok true w := Tryz.isAgg350 w
theorem nodeSize (w : World) : (Go.sizeOf 350).run Tryz.prog w = .ok 259 w := Tryz.sizeOf350 w
theorem infoNd : (Tryz.prog.info? 350).map (fun i => (i.zero.map (fun z => z.cells.size), i.size, i.bytes)) = some (some 259, 259, 280) := by kernel_rfl
/-- the tree under way, its nodes' row: how many nodes, where, how deep, what failed -/
structure TrV (w : World) (base T : Nat) (nv : Value) (s : ByteArray) (n i d f : Nat) : Prop where
  blk : Whole1 w T 347 #[nv, .string s, .int .i64 (i : Int), .int .i64 (d : Int), .int .i64 (f : Int)]
  own : ∃ xs, w.ownsRow base 350 259 nv n xs
  tb : base ≤ T
  bs : base ≤ w.heap.size
section
variable {w w' : World} {base T n i d f : Nat} {nv : Value} {s : ByteArray} {ts : List TypeId} {mp : Bool} {b : Nat}
theorem TrV.turn (h : TrV w base T nv s n i d f) (k : Turn b ts mp w w') (h1 : 347 ∉ ts) (h2 : 350 ∉ ts) : TrV w' base T nv s n i d f := by
  obtain ⟨xs, ho⟩ := h.own
  exact ⟨k.whole h.blk (.inr h1), ⟨xs, k.own ho (.inl h2)⟩, h.tb, Nat.le_trans h.bs k.size⟩
theorem TrV.on (h : TrV w base T nv s n i d f) (k : Below w.heap.size w w') : TrV w' base T nv s n i d f := h.turn (Turn.of_below k 0 [] false) (by simp) (by simp)
theorem TrV.drewN (h : TrV w base T nv s n i d f) (m : Nat) : TrV (w.drewN m) base T nv s n i d f := h.on (below_drewN (Below.refl _ _) m)
/-- a block of a node of one's own was turned -/
theorem TrV.grown {X : Nat} (h : TrV w base T nv s n i d f) (k : w.grownBy w' (some X)) (h1 : X ≠ T) (h2 : nv.ownBlock ≠ some X) : TrV w' base T nv s n i d f := by
  obtain ⟨xs, ho⟩ := h.own
  refine ⟨(k.block T h.blk.lt (by simpa using Ne.symm h1)).trans h.blk, ⟨xs, ho.kept k ?_⟩, h.tb, Nat.le_trans h.bs k.size⟩
  cases hv : nv.ownBlock with
  | none => exact .inl rfl
  | some g => exact .inr fun e => h2 (by rw [hv, e])
end
/-- what a call of the reader may turn -/
abbrev TB (base : Nat) (w w' : World) : Prop := Turn base [347] false w w'
/-- what a call of the reader that lays nodes may turn -/
abbrev TT (base : Nat) (w w' : World) : Prop := Turn base [347, 350] false w w'
/-- the next byte, or -1 -/
def nextB (s : ByteArray) (i f : Nat) : Int := if f ≠ 0 ∨ s.size ≤ i then -1 else ((s.data.toList[i]?.getD 0).toNat : Nat)
set_option maxHeartbeats 1600000 in
theorem rnext_any (base T : Nat) (nv : Value) (s : ByteArray) (n i d f : Nat) (w : World) (h : TrV w base T nv s n i d f) (_ : s.size ≤ 64) (hi : i ≤ 1000) (hf : f ≤ 1000) :
    Calls Tryz.prog 250 #[.pointer (some ⟨T, 0, none⟩)] w fun e w' => e = .returned (.int .i64 (nextB s i f)) ∧ ∃ q, w' = w.drewN q := by
  have c1 := h.blk.cell 1
  have c2 := h.blk.cell 2
  have c4 := h.blk.cell 4
  clear h
  by_cases h0 : f = 0
  · subst h0
    by_cases h1 : i < s.size
    · have hn : nextB s i 0 = ((s.data.toList[i]?.getD 0).toNat : Nat) := by rw [nextB, if_neg (by omega)]
      rw [hn]
      go_enter Tryz.func250, Tryz.ntmps250
      go_wp2_with fail
      have i0 : (0 : Int) ≤ (i : Int) := by omega
      have i1 : (i : Int) < (s.size : Int) := by omega
      have i2 : decide (s.size ≤ i) = false := decide_eq_false (by omega)
      go_quiet (fail)
      go_wp2_with fail
      obtain ⟨m1, hm1⟩ : ∃ m1, nq = m1 := ⟨_, rfl⟩
      have HM := hidden hm1
      rw [hm1]
      clear hm1
      obtain ⟨w2, hw2⟩ : ∃ w2, w.drewN m1 = w2 := ⟨_, rfl⟩
      have d1 : w2.cell? ⟨T, 1, none⟩ = some (.string s) := by rw [← hw2]; exact c1
      have d2 : w2.cell? ⟨T, 2, none⟩ = some (.int .i64 (i : Int)) := by rw [← hw2]; exact c2
      have HW := hidden hw2
      rw [hw2]
      clear hw2 c1 c2 c4
      go_quiet (fail)
      go_wp2_with fail
      go_ret
      refine ⟨ret_int ?_, m1 + nq, by rw [← HW.out, World.drewN_drewN]⟩
      have h2 : s.data.toList[i]?.getD 0 = s[i] := by
        rw [List.getElem?_eq_getElem (show i < s.data.toList.length from h1)]
        rfl
      rw [h2]
      have := UInt8.toNat_lt (s[i])
      unfold wrap64
      omega
    · have hn : nextB s i 0 = -1 := by rw [nextB, if_pos (by omega)]
      rw [hn]
      have i2 : decide (s.size ≤ i) = true := decide_eq_true (by omega)
      go_enter Tryz.func250, Tryz.ntmps250
      go_wp2_with fail
      go_quiet (fail)
      go_wp2_with fail
      go_ret
      exact ⟨rfl, nq, rfl⟩
  · have hn : nextB s i f = -1 := by rw [nextB, if_pos (by omega)]
    rw [hn]
    have f0 : ((f : Int) != 0) = true := by simpa using h0
    have f1 : (f != 0) = true := by simpa using h0
    go_enter Tryz.func250, Tryz.ntmps250
    go_wp2_with fail
    go_quiet (fail)
    go_wp2_with fail
    go_ret
    exact ⟨rfl, nq, rfl⟩
/-- a program that bears put, and is silent on a node's size -/
structure PutP (P : Program) (N : Nat) : Prop where
  mixed : P.follows .mixedOrders = true
  fn : P.funcs[196]? = some Tryz.f196
  t3 : P.underlying 3 = some (TypeDesc.int IntKind.i64)
  a3 : ∀ w, (isAgg 3).run P w = .ok false w
  z3 : ∀ w, (Go.sizeOf 3).run P w = .ok 1 w
  ts : P.underlying 345 = some (TypeDesc.slice 350)
  as_ : ∀ w, (isAgg 345).run P w = .ok false w
  zs : ∀ w, (Go.sizeOf 345).run P w = .ok 1 w
  tp : P.underlying 265 = Tryz.prog.underlying 265
  ap : ∀ w, (isAgg 265).run P w = .ok false w
  zp : ∀ w, (Go.sizeOf 265).run P w = .ok 1 w
  tt : P.underlying 347 = Tryz.prog.underlying 347
  nd : P.info? 350 = Tryz.prog.info? 350
  aN : ∀ w, (isAgg 350).run P w = .ok true w
  zN : ∀ w, (Go.sizeOf 350).run P w = .ok N w
  vN : ∃ zc, zc.size = N ∧ ∀ w, (zeroValue 350).run P w = .ok (.agg zc) w
theorem putP : PutP Tryz.prog 259 where
  mixed := by kernel_rfl
  fn := Tryz.func196
  t3 := by kernel_rfl
  a3 := fun w => by kernel_rfl
  z3 := fun w => by kernel_rfl
  ts := by kernel_rfl
  as_ := fun w => by kernel_rfl
  zs := fun w => by kernel_rfl
  tp := rfl
  ap := fun w => by kernel_rfl
  zp := fun w => by kernel_rfl
  tt := rfl
  nd := rfl
  aN := nodeAgg
  zN := nodeSize
  vN := ⟨Tryz.zeroCells350, by kernel_rfl, Tryz.zeroValue350⟩
set_option maxHeartbeats 1600000 in
theorem rput_P {P : Program} {N : Nat} (L : PutP P N) (base T : Nat) (nv : Value) (s : ByteArray) (n i d f : Nat) (cs : Array Value) (hN : N = 259) (hcs : cs.size = N) (hone : ∀ u ∈ cs.toList, u.oneCell' = true) (w : World) (h : TrV w base T nv s n i d f) (hn : n ≤ 1000000) :
    Calls P 196 #[.pointer (some ⟨T, 0, none⟩), .agg cs] w fun e w' => e = .returned (.int .i64 (n : Int)) ∧ (∃ nv', TrV w' base T nv' s (n + 1) i d f) ∧ TT base w w' := by
  obtain ⟨xs, ho⟩ := h.own
  have hw := h.blk
  obtain ⟨A, c, rfl, _, _⟩ := own_shape ho
  obtain ⟨iz, hiz⟩ : ∃ iz, P.info? 350 = some iz := by
    rw [L.nd]
    have := infoNd
    cases hi : Tryz.prog.info? 350 with
    | none => rw [hi] at this; cases this
    | some iz => exact ⟨iz, rfl⟩
  have hinf := infoNd
  rw [← L.nd, hiz] at hinf
  simp only [Option.map_some, Option.some.injEq, Prod.mk.injEq] at hinf
  obtain ⟨hz, hsz, hby⟩ := hinf
  obtain ⟨z, hz1, hz2⟩ := Option.map_eq_some_iff.1 hz
  obtain ⟨w1, hw1⟩ : ∃ w1, w.alloc (.cells cs 350) = w1 := ⟨_, rfl⟩
  obtain ⟨X, hX⟩ : ∃ X, w.heap.size = X := ⟨_, rfl⟩
  have hx : Whole1 w1 X 350 cs := by rw [← hX, ← hw1]; exact Whole1.new w _ _
  have hb1 : Below w.heap.size w w1 := hw1 ▸ (Below.refl _ _).alloc (Nat.le_refl _) _
  have hw1' := hw.below hb1 hw.lt
  have ho1 := own_below ho hb1 (Nat.le_refl _)
  have hl : (loadCellsFrom ⟨X, 0, none⟩ 0 N #[]).run P w1.drew = .ok cs w1.drew := by
    have := run_loadCells_whole (P := P) (w := w1.drew) hx
    rw [hcs] at this
    exact this
  have aN := L.aN; have zN := L.zN
  obtain ⟨zc, hzc, vN⟩ := L.vN
  have hb1' : ¬ 16777216 < N := by omega
  have hn0 : ¬ N = 0 := by omega
  have hfold : Array.foldl (fun cs x => cs.setIfInBounds x.snd x.fst) (Array.map (fun x => zc[x % N]!) (Array.range N)) cs.zipIdx 0 N = cs := by
    have := fold_all (Array.map (fun x => zc[x % N]!) (Array.range N)) cs (by simp [hcs])
    rw [hcs] at this
    exact this
  have HN := hidden hN
  clear hN
  have d0 : w1.drew.cell? ⟨T, 0, none⟩ = some (.slice A n c) := hw1'.cell 0
  have HB1 := hidden hb1
  have HBS := hidden h.bs
  have HTB := hidden h.tb
  have HX := hidden hx
  have HW1 := hidden hw1'
  have HO1 := hidden ho1
  have mixed := L.mixed; have t3 := L.t3; have a3 := L.a3; have z3 := L.z3; have ts := L.ts; have as_ := L.as_; have zs := L.zs; have ap := L.ap; have zp := L.zp
  have tp : P.underlying 265 = _ := L.tp.trans Tryz.underlying265
  have tt : P.underlying 347 = _ := L.tt.trans Tryz.underlying347
  have us := run_underlying L.ts
  have ut := run_underlying tt
  have HXE := hidden hX
  have HWE := hidden hw1
  clear hx hb1 hw1' ho1 h hw ho hz hX hw1
  go_enter L.fn, Tryz.ntmps196
  go_wp2_with fail
  rw [HXE.out, HWE.out]
  have hownN : ((w1.alloc (.cells cs 350)).drew).ownsRow base 350 N (.slice A n c) n xs := by
    rw [HN.out]
    exact own_drewN (HO1.out.alloc _) 1
  have hgr : ∀ {v : Value} {w10 : World}, w10.ownsRow base 350 N v (n + 1) (xs ++ cs.toList) → ((w1.alloc (.cells cs 350)).drew).grownBy w10 (Value.slice A n c).ownBlock → Whole1 w10 T 347 #[.slice A n c, .string s, .int .i64 (i : Int), .int .i64 (d : Int), .int .i64 (f : Int)] ∧ Turn base [350] false w1 w10 := fun {v w10} _ hg => by
    have t1 : Turn base [350] false w1 ((w1.alloc (.cells cs 350)).drew) := ((Turn.refl _ _ _ _).alloc _).drew
    have t2 : Turn base [350] false ((w1.alloc (.cells cs 350)).drew) w10 := Turn.of_own hownN (Nat.le_refl _) (by simp) hg
    exact ⟨(t1.trans t2).whole HW1.out (.inr (by decide)), t1.trans t2⟩
  have HGR := hidden (fun v w10 => @hgr v w10)
  clear hgr
  have T0 := fun (ops : Array Oper) (o : Oper) (a : Act) (K : Act → World → Prop) (Q : Exit → Act → World → Prop) (E : Prop) (hg : o.guard = none) (s1 s2 : Operand) (ho : o.op = .call { callee := .builtin .append, args := #[s1, s2], argTypes := #[345, 345] }) (hs : a.eval s1 = .slice A n c) (hx : a.eval s2 = .slice (some ⟨w1.heap.size, 0, none⟩) 1 1) hh =>
    step_appA (P := P) (ops := ops) (o := o) (a := a) (K := K) (Q := Q) (E := E) ((w1.alloc (.cells cs 350)).drew) hg s1 s2 345 ho base 350 iz z N 280 L.ts hiz hz1 (by rw [HN.out]; exact hsz) hby (by rw [HN.out]; exact hz2) (by have := HN.out; omega) (.slice A n c) n xs hs hownN (w1.heap.size + 1) (some ⟨w1.heap.size, 0, none⟩) 1 1 cs.toList hx (by have := (Row.fresh w1 350 N 1 cs.toList (by rw [Array.length_toList, hcs, Nat.one_mul])).drewN 1; rw [Array.toArray_toList] at this; exact this) hone (by unfold maxLen; omega) (by omega) (by have := HB1.out.size; have := HBS.out; simp; omega) hh
  have d0' : ((w1.alloc (.cells cs 350)).drew).cell? ⟨T, 0, none⟩ = some (.slice A n c) := (HW1.out.alloc _).cell 0
  go_region_law_o (refine T0 _ _ _ _ _ _ rfl _ _ rfl rfl rfl ?_; intro v10 w10 hown10 hg10 hat10; obtain ⟨A10, c10, rfl, hc10, _⟩ := own_shape hown10; obtain ⟨hp10, ht10⟩ := HGR.out _ _ hown10 hg10; have r0 := hp10.cell 0; have f0 := hp10.free 0; have HP10 := hidden hp10; have HT10 := hidden ht10; have HO10 := hidden hown10; clear hp10 ht10 hown10 hg10 hat10)
  all_goals
    have HPF := hidden (HP10.out.put 0 (.slice A10 (n + 1) c10))
    have TF : Turn base [347] false w10 (w10.setCell ⟨T, 0, none⟩ (.slice A10 (n + 1) c10)) := Turn.put HP10.out HTB.out (by simp) 0 _
    have HOF := hidden (TF.own HO10.out (.inl (by decide)))
    have HTF := hidden (show TT base w (w10.setCell ⟨T, 0, none⟩ (.slice A10 (n + 1) c10)) from ((Turn.of_below HB1.out _ _ _).trans (HT10.out.wider (Nat.le_refl _) (by simp) (by simp))).trans (TF.wider (Nat.le_refl _) (by simp) (by simp)))
    have q0 := HPF.out.cell 0
    generalize w10.setCell ⟨T, 0, none⟩ (.slice A10 (n + 1) c10) = wf at *
    clear TF r0 f0
    go_wp2_with fail
    go_ret
    exact ⟨rfl, ⟨_, HPF.out, ⟨xs ++ cs.toList, by have := HOF.out; rw [HN.out] at this; exact this⟩, HTB.out, Nat.le_trans HBS.out HTF.out.size⟩, HTF.out⟩
theorem rput_any (base T : Nat) (nv : Value) (s : ByteArray) (n i d f : Nat) (cs : Array Value) (hcs : cs.size = 259) (hone : ∀ u ∈ cs.toList, u.oneCell' = true) (w : World) (h : TrV w base T nv s n i d f) (hn : n ≤ 1000000) :
    Calls Tryz.prog 196 #[.pointer (some ⟨T, 0, none⟩), .agg cs] w fun e w' => e = .returned (.int .i64 (n : Int)) ∧ (∃ nv', TrV w' base T nv' s (n + 1) i d f) ∧ TT base w w' :=
  rput_P putP base T nv s n i d f cs rfl hcs hone w h hn
/-- one field of the tree was stored -/
theorem TrV.store {w : World} {base T n i d f : Nat} {nv : Value} {s : ByteArray} (h : TrV w base T nv s n i d f) (k : Nat) (u : Value) (i' d' f' : Nat)
    (hk : (k = 2 ∧ u = .int .i64 (i' : Int) ∧ d' = d ∧ f' = f) ∨ (k = 3 ∧ u = .int .i64 (d' : Int) ∧ i' = i ∧ f' = f) ∨ (k = 4 ∧ u = .int .i64 (f' : Int) ∧ i' = i ∧ d' = d)) :
    TrV (w.setCell ⟨T, k, none⟩ u) base T nv s n i' d' f' ∧ TB base w (w.setCell ⟨T, k, none⟩ u) := by
  obtain ⟨xs, ho⟩ := h.own
  have hT : TB base w (w.setCell ⟨T, k, none⟩ u) := Turn.put h.blk h.tb (by simp) k u
  have hp := h.blk.put k u
  refine ⟨⟨?_, ⟨xs, hT.own ho (.inl (by decide))⟩, h.tb, Nat.le_trans h.bs hT.size⟩, hT⟩
  rcases hk with ⟨rfl, rfl, rfl, rfl⟩ | ⟨rfl, rfl, rfl, rfl⟩ | ⟨rfl, rfl, rfl, rfl⟩ <;> exact hp
theorem TrV.c {w : World} {base T n i d f : Nat} {nv : Value} {s : ByteArray} (h : TrV w base T nv s n i d f) : w.cell? ⟨T, 1, none⟩ = some (.string s) ∧ w.cell? ⟨T, 2, none⟩ = some (.int .i64 (i : Int)) ∧ w.cell? ⟨T, 3, none⟩ = some (.int .i64 (d : Int)) ∧ w.cell? ⟨T, 4, none⟩ = some (.int .i64 (f : Int)) ∧ (∀ k, w.frozen? ⟨T, k, none⟩ = false) :=
  ⟨h.blk.cell 1, h.blk.cell 2, h.blk.cell 3, h.blk.cell 4, h.blk.free⟩
/-- the first failure is kept -/
def failN (f e : Nat) : Nat := if f = 0 then e else f
theorem rfail_any (base T : Nat) (nv : Value) (s : ByteArray) (n i d f e : Nat) (w : World) (h : TrV w base T nv s n i d f) :
    Calls Tryz.prog 290 #[.pointer (some ⟨T, 0, none⟩), .int .i64 (e : Int)] w fun x w' => x = .returned (.tuple #[]) ∧ TrV w' base T nv s n i d (failN f e) ∧ TB base w w' := by
  obtain ⟨c1, c2, c3, c4, fr⟩ := h.c
  have f4 := fr 4
  have H := hidden h
  by_cases h0 : f = 0
  · have HS := hidden (h.store 4 (.int .i64 (e : Int)) i d e (.inr (.inr ⟨rfl, rfl, rfl, rfl⟩)))
    have hF : Hid (failN f e = e) := if_pos h0
    subst h0
    clear h fr c1 c2 c3
    go_enter Tryz.func290, Tryz.ntmps290
    go_wp2_with fail
    go_end0
    refine ⟨rfl, ?_⟩
    rw [hF.out]
    exact HS.out
  · have hF : Hid (failN f e = f) := if_neg h0
    have f0 : ((f : Int) == 0) = false := by simpa using h0
    have f1 : (f == 0) = false := by simpa using h0
    clear h fr c1 c2 c3
    go_enter Tryz.func290, Tryz.ntmps290
    go_wp2_with fail
    go_end0
    refine ⟨rfl, ?_⟩
    rw [hF.out]
    exact ⟨H.out, Turn.refl _ _ _ _⟩
/-- what a letter gives: the state behind it -/
theorem nextB_ok {s : ByteArray} {i : Nat} (h : i < s.size) : nextB s i 0 = (byteN s.data.toList i : Nat) := by rw [nextB, if_neg (by omega)]; rfl
theorem nextB_end {s : ByteArray} {i f : Nat} (h : f ≠ 0 ∨ s.size ≤ i) : nextB s i f = -1 := if_pos h
theorem byteN_ltR (s : List UInt8) (i : Nat) : byteN s i < 256 := UInt8.toNat_lt _
/-- what comes of reading, if nothing has failed yet -/
def Res {α : Type} (f : Nat) (p : PR α) (ok : α → Nat → Prop) (f' : Nat) : Prop := (f ≠ 0 → f' = f) ∧ (f = 0 → (∃ a j, p = .ok a j ∧ ok a j ∧ f' = 0) ∨ ∃ e, p = .bad e ∧ f' = e ∧ e ≠ 0)
theorem Res.failed {α : Type} {f : Nat} {p : PR α} {ok : α → Nat → Prop} (h : f ≠ 0) : Res f p ok f := ⟨fun _ => rfl, fun h0 => absurd h0 h⟩
theorem Res.of_ok {α : Type} {a : α} {j : Nat} {ok : α → Nat → Prop} (h : ok a j) : Res 0 (.ok a j) ok 0 := ⟨fun h => absurd rfl h, fun _ => .inl ⟨a, j, rfl, h, rfl⟩⟩
theorem Res.of_bad {α : Type} {e : Nat} {ok : α → Nat → Prop} (h : e ≠ 0) : Res (α := α) 0 (.bad e) ok e := ⟨fun h => absurd rfl h, fun _ => .inr ⟨e, rfl, rfl, h⟩⟩
/-- a byte was read -/
def ByteAns (base T : Nat) (nv : Value) (s : ByteArray) (n i d f : Nat) (p : PR Nat) (w : World) (x : Ending) (w' : World) : Prop := ∃ b i' f' : Nat, x = .returned (.int .i64 (b : Int)) ∧ TrV w' base T nv s n i' d f' ∧ TB base w w' ∧ b < 256 ∧ i ≤ i' ∧ (i' ≤ i ∨ i' ≤ s.size) ∧ f' ≤ 1000 ∧ Res f p (fun a j => b = a ∧ i' = j) f'
theorem moved (i : Nat) : Value.int .i64 ((i : Int) + 1) = .int .i64 ((i + 1 : Nat) : Int) := by rw [Int.natCast_succ]
set_option maxHeartbeats 1600000 in
theorem rescaped_any (base T : Nat) (nv : Value) (s : ByteArray) (n i d f : Nat) (w : World) (h : TrV w base T nv s n i d f) (hs : s.size ≤ 64) (hi : i ≤ 1000) (hf : f ≤ 1000) :
    Calls Tryz.prog 325 #[.pointer (some ⟨T, 0, none⟩)] w (ByteAns base T nv s n i d f (escP s.data.toList i) w) := by
  have S1 := hidden (rnext_any base T nv s n i d f w h hs hi hf)
  have H := hidden h
  have hsl : s.data.toList.length = s.size := rfl
  clear h
  go_enter Tryz.func325, Tryz.ntmps325
  go_wp2_with fail
  refine S1.out.mono ?_
  rintro e w1 ⟨rfl, q, rfl⟩
  have H1 := hidden (H.out.drewN q)
  have T1 := hidden (Turn.of_below (below_drewN (Below.refl w.heap.size w) q) base [347] false)
  generalize w.drewN q = w1 at *
  clear S1 H
  by_cases h0 : f = 0 ∧ i < s.size
  · obtain ⟨rfl, h1⟩ := h0
    have HP := hidden (show escP s.data.toList i = .ok (byteN s.data.toList i) (i + 1) from if_pos (by omega))
    rw [nextB_ok h1]
    have hb := byteN_ltR s.data.toList i
    generalize byteN s.data.toList i = b at *
    have hb0 : ¬ (b : Int) < 0 := by omega
    obtain ⟨c1, c2, c3, c4, fr⟩ := H1.out.c
    have f2 := fr 2
    have fw : IntKind.i64.wrap ((i : Int) + 1) = (i : Int) + 1 := Go.IntWalk.i64_in _ (by omega)
    have HS := hidden (H1.out.store 2 (.int .i64 ((i : Int) + 1)) (i + 1) d 0 (.inl ⟨rfl, moved i, rfl, rfl⟩))
    clear c1 c3 c4 fr
    go_wp2_with fail
    go_ret
    exact ⟨b, i + 1, 0, rfl, HS.out.1, T1.out.trans HS.out.2, hb, by omega, .inr h1, by omega, by rw [HP.out]; exact Res.of_ok ⟨rfl, rfl⟩⟩
  · rw [nextB_end (by omega)]
    have S2 := hidden (rfail_any base T nv s n i d f 65 w1 H1.out)
    have h0' := hidden h0
    clear h0
    go_wp2_with fail
    refine S2.out.mono ?_
    rintro e w2 ⟨rfl, H2, T2⟩
    have H2 := hidden H2
    have T2 := hidden (T1.out.trans T2)
    clear S2
    go_wp2_with fail
    go_ret
    refine ⟨0, i, failN f 65, rfl, H2.out, T2.out, by omega, Nat.le_refl _, .inl (Nat.le_refl _), by unfold failN; split <;> omega, ?_⟩
    by_cases hf0 : f = 0
    · subst hf0
      have : escP s.data.toList i = .bad 65 := if_neg (by have := h0'.out; omega)
      rw [this]
      exact Res.of_bad (by omega)
    · rw [failN, if_neg hf0]
      exact Res.failed hf0
set_option maxHeartbeats 1600000 in
theorem rletter_any (base T : Nat) (nv : Value) (s : ByteArray) (n i d f : Nat) (w : World) (h : TrV w base T nv s n i d f) (hs : s.size ≤ 64) (hi : i ≤ 900) (hf : f ≤ 1000) :
    Calls Tryz.prog 328 #[.pointer (some ⟨T, 0, none⟩)] w (ByteAns base T nv s n i d f (letP s.data.toList i) w) := by
  have S1 := hidden (rnext_any base T nv s n i d f w h hs (by omega) hf)
  have H := hidden h
  have hsl : s.data.toList.length = s.size := rfl
  clear h
  go_enter Tryz.func328, Tryz.ntmps328
  go_wp2_with fail
  refine S1.out.mono ?_
  rintro e w1 ⟨rfl, q, rfl⟩
  have H1 := hidden (H.out.drewN q)
  have T1 := hidden (Turn.of_below (below_drewN (Below.refl w.heap.size w) q) base [347] false)
  generalize w.drewN q = w1 at *
  clear S1 H
  by_cases h0 : f = 0 ∧ i < s.size
  · obtain ⟨rfl, h1⟩ := h0
    have HP := hidden (show letP s.data.toList i = (if byteN s.data.toList i = 92 then escP s.data.toList (i + 1) else .ok (byteN s.data.toList i) (i + 1)) from if_pos (by omega))
    rw [nextB_ok h1]
    have hb := byteN_ltR s.data.toList i
    generalize byteN s.data.toList i = b at *
    have hb0 : ¬ (b : Int) < 0 := by omega
    obtain ⟨c1, c2, c3, c4, fr⟩ := H1.out.c
    have f2 := fr 2
    have fw : IntKind.i64.wrap ((i : Int) + 1) = (i : Int) + 1 := Go.IntWalk.i64_in _ (by omega)
    have HS := hidden (H1.out.store 2 (.int .i64 ((i : Int) + 1)) (i + 1) d 0 (.inl ⟨rfl, moved i, rfl, rfl⟩))
    clear c1 c3 c4 fr
    by_cases h92 : b = 92
    · subst h92
      rw [if_pos rfl] at HP
      have S2 := hidden (rescaped_any base T nv s n (i + 1) d 0 _ HS.out.1 hs (by omega) (by omega))
      go_wp2_with fail
      refine S2.out.mono ?_
      rintro e w3 ⟨b3, i3, f3, rfl, t3, u3, hb3, hi3, hj3, hf3, r3⟩
      have HF := hidden (And.intro t3 (And.intro u3 (And.intro hi3 (And.intro hj3 r3))))
      clear S2 t3 u3 hi3 hj3 r3
      go_wp2_with fail
      go_ret
      refine ⟨b3, i3, f3, rfl, HF.out.1, (T1.out.trans HS.out.2).trans HF.out.2.1, hb3, by have := HF.out.2.2.1; omega, by have := HF.out.2.2.2.1; omega, hf3, ?_⟩
      rw [HP.out]
      exact HF.out.2.2.2.2
    · rw [if_neg h92] at HP
      have hn92 : ((b : Int) == 92) = false := by simp; omega
      clear h92
      go_wp2_with fail
      go_ret
      exact ⟨b, i + 1, 0, rfl, HS.out.1, T1.out.trans HS.out.2, hb, by omega, .inr h1, by omega, by rw [HP.out]; exact Res.of_ok ⟨rfl, rfl⟩⟩
  · rw [nextB_end (by omega)]
    have S2 := hidden (rfail_any base T nv s n i d f 63 w1 H1.out)
    have h0' := hidden h0
    clear h0
    go_wp2_with fail
    refine S2.out.mono ?_
    rintro e w2 ⟨rfl, H2, T2⟩
    have H2 := hidden H2
    have T2 := hidden (T1.out.trans T2)
    clear S2
    go_wp2_with fail
    go_ret
    refine ⟨0, i, failN f 63, rfl, H2.out, T2.out, by omega, Nat.le_refl _, .inl (Nat.le_refl _), by unfold failN; split <;> omega, ?_⟩
    by_cases hf0 : f = 0
    · subst hf0
      have : letP s.data.toList i = .bad 63 := if_neg (by have := h0'.out; omega)
      rw [this]
      exact Res.of_bad (by omega)
    · rw [failN, if_neg hf0]
      exact Res.failed hf0
end Go.Proofs.YtbijjjhfekkfaaaGreat

namespace Go.Proofs.YtbijjjhfekkfaaaGreat

/-- is the byte in the set? -/
def BS.has (S : BS) (b : Nat) : Bool := (S.at_ (b / 64)).testBit (b % 64)
theorem BS.at_on (S : BS) (k j : Nat) (f : Nat → Nat) (hk : k < 4) (hj : j < 4) : (S.on k f).at_ j = if j = k then f (S.at_ k) else S.at_ j := by
  have h1 : k = 0 ∨ k = 1 ∨ k = 2 ∨ k = 3 := by omega
  have h2 : j = 0 ∨ j = 1 ∨ j = 2 ∨ j = 3 := by omega
  rcases h1 with rfl | rfl | rfl | rfl <;> rcases h2 with rfl | rfl | rfl | rfl <;> rfl
theorem BS.has_put1 (S : BS) (n b : Nat) (hn : n < 256) (hb : b < 256) : (S.put1 n).has b = (S.has b || decide (b = n)) := by
  unfold BS.has BS.put1
  rw [BS.at_on S (n / 64) (b / 64) _ (by omega) (by omega)]
  split
  · rename_i h
    rw [Nat.testBit_or, Nat.testBit_two_pow, h]
    congr 1
    rw [decide_eq_decide]
    omega
  · rename_i h
    have : decide (b = n) = false := decide_eq_false (by omega)
    rw [this, Bool.or_false]
theorem BS.has_puts (S : BS) (lo b : Nat) (hb : b < 256) : ∀ n, lo + n ≤ 256 → (S.puts lo n).has b = (S.has b || decide (lo ≤ b ∧ b < lo + n))
  | 0, _ => by
    have : decide (lo ≤ b ∧ b < lo + 0) = false := decide_eq_false (by omega)
    rw [this, Bool.or_false]
    rfl
  | n + 1, h => by
    rw [BS.puts, BS.has_put1 _ _ _ (by omega) hb, BS.has_puts S lo b hb n (by omega), Bool.or_assoc]
    congr 1
    rw [← Bool.decide_or, decide_eq_decide]
    omega
theorem BS.has_put (S : BS) (lo hi b : Nat) (hh : hi < 256) (hb : b < 256) : (S.put lo hi).has b = (S.has b || decide (lo ≤ b ∧ b ≤ hi)) := by
  unfold BS.put
  by_cases h : lo ≤ hi + 1
  · rw [BS.has_puts S lo b hb _ (by omega)]
    congr 1
    rw [decide_eq_decide]
    omega
  · rw [show hi + 1 - lo = 0 from by omega]
    have : decide (lo ≤ b ∧ b ≤ hi) = false := decide_eq_false (by omega)
    rw [this, Bool.or_false]
    rfl
theorem BS.at_lt {S : BS} (h : S.fit) (k : Nat) : S.at_ k < 18446744073709551616 := by
  obtain ⟨h1, h2, h3, h4⟩ := h
  unfold BS.at_
  split
  · exact h1
  · split
    · exact h2
    · split
      · exact h3
      · exact h4
theorem BS.at_not (S : BS) (k : Nat) : S.not.at_ k = 18446744073709551615 - S.at_ k := by
  unfold BS.not BS.at_
  split
  · rfl
  · split
    · rfl
    · split <;> rfl
theorem BS.has_not {S : BS} (h : S.fit) (b : Nat) (_ : b < 256) : S.not.has b = !S.has b := by
  unfold BS.has
  rw [BS.at_not]
  have hl := BS.at_lt h (b / 64)
  generalize S.at_ (b / 64) = x at *
  have := Nat.testBit_two_pow_sub_succ (n := 64) (x := x) hl (b % 64)
  rw [show (2 : Nat) ^ 64 - (x + 1) = 18446744073709551615 - x from by omega] at this
  rw [this]
  have : decide (b % 64 < 64) = true := decide_eq_true (by omega)
  rw [this, Bool.true_and]
theorem zero_bits {x : Nat} (h : x < 18446744073709551616) : x = 0 ↔ ∀ i < 64, x.testBit i = false := by
  constructor
  · rintro rfl i _; simp
  · intro hb
    apply Nat.eq_of_testBit_eq
    intro i
    rw [Nat.zero_testBit]
    by_cases hi : i < 64
    · exact hb i hi
    · refine Nat.testBit_lt_two_pow (Nat.lt_of_lt_of_le h ?_)
      exact Nat.pow_le_pow_right (n := 2) (by omega) (show 64 ≤ i by omega)
theorem BS.zero_iff {S : BS} (h : S.fit) : S.isZero = true ↔ ∀ b < 256, S.has b = false := by
  have h0 := zero_bits (BS.at_lt h 0)
  have h1 := zero_bits (BS.at_lt h 1)
  have h2 := zero_bits (BS.at_lt h 2)
  have h3 := zero_bits (BS.at_lt h 3)
  have e : S.isZero = true ↔ S.at_ 0 = 0 ∧ S.at_ 1 = 0 ∧ S.at_ 2 = 0 ∧ S.at_ 3 = 0 := by
    simp [BS.isZero, BS.at_, and_assoc]
  rw [e, h0, h1, h2, h3]
  constructor
  · rintro ⟨a0, a1, a2, a3⟩ b hb
    unfold BS.has
    have : b / 64 = 0 ∨ b / 64 = 1 ∨ b / 64 = 2 ∨ b / 64 = 3 := by omega
    rcases this with e | e | e | e <;> rw [e]
    · exact a0 _ (by omega)
    · exact a1 _ (by omega)
    · exact a2 _ (by omega)
    · exact a3 _ (by omega)
  · intro hb
    refine ⟨fun i hi => ?_, fun i hi => ?_, fun i hi => ?_, fun i hi => ?_⟩
    · have := hb i (by omega); rwa [BS.has, show i / 64 = 0 from by omega, show i % 64 = i from by omega] at this
    · have := hb (64 + i) (by omega); rwa [BS.has, show (64 + i) / 64 = 1 from by omega, show (64 + i) % 64 = i from by omega] at this
    · have := hb (128 + i) (by omega); rwa [BS.has, show (128 + i) / 64 = 2 from by omega, show (128 + i) % 64 = i from by omega] at this
    · have := hb (192 + i) (by omega); rwa [BS.has, show (192 + i) / 64 = 3 from by omega, show (192 + i) % 64 = i from by omega] at this
theorem BS.has_zero (b : Nat) : BS.zero.has b = false := by
  unfold BS.has BS.zero BS.at_
  repeat' split
  all_goals simp
end Go.Proofs.YtbijjjhfekkfaaaGreat
