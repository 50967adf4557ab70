/- labels.fitName, fitValue and the reference's: what is a name, a value. Condition: the text is within the reach. labels.Quote, walked: a text in quotation marks. Condition: the text is within the reach. The reference's Uint and Int, walked. The reference's Quote, walked: a text in quotation marks. Condition: the text is within the reach. The loose reading of a quotation, plainly. No condition. The reference's value of a digit. No condition. -/
import Derived.Test.YthncochjhbmceaaGreatPk00f17a61
import Derived.Test.YthncochjhbmceaaGreatPk3fc1764a
import Derived.Deep.RegionHeld3
import Derived.Laws.IdiomStrings
import Derived.IntWalk
namespace Go.Proofs.YthncochjhbmceaaGreat
set_option maxRecDepth 100000
open Go.RowKit

theorem or32 : ∀ n : Fin 256, (decide (bits .or .u8 ((n.val : Nat) : Int) 32 < 97) || decide (122 < bits .or .u8 ((n.val : Nat) : Int) 32)) = !((decide (97 ≤ n.val) && decide (n.val ≤ 122)) || (decide (65 ≤ n.val) && decide (n.val ≤ 90))) := by decide +kernel
theorem str_at {s : ByteArray} {i : Nat} (h : i < s.size) : ∃ b : UInt8, s[i]'h = b ∧ s.data.toList[i]? = some b := ⟨_, rfl, by
  have h2 : i < s.data.toList.length := h
  rw [List.getElem?_eq_getElem h2]; rfl⟩
theorem size_lt (b : UInt8) : b.toNat < 256 := b.toNat_lt
/-- what the places of b say, as the walk asks it -/
theorem b_or (b : UInt8) : (decide (bits .or .u8 (b.toNat : Int) 32 < 97) || decide (122 < bits .or .u8 (b.toNat : Int) 32)) = !((decide (97 ≤ b.toNat) && decide (b.toNat ≤ 122)) || (decide (65 ≤ b.toNat) && decide (b.toNat ≤ 90))) := or32 ⟨b.toNat, b.toNat_lt⟩

set_option maxHeartbeats 1600000 in
theorem fitName_any (s : ByteArray) (w : World) (hs : s.size < 9223372036854775000) :
    Calls Tryz.prog 102 #[.string s] w fun e w' => e = .returned (.bool (fitN s)) ∧ w = w' := by
  go_enter Tryz.func102, Tryz.ntmps102
  go_wp2_with fail
  go_loopw [7] (fun vi wr => ∃ k : Nat, k ≤ s.size ∧ vi = .int .i64 k ∧ Hid (namesUpto s.data.toList k) ∧ wr = w) (fun vi _ => s.size - (intOf vi).toNat)
  case atStart => exact ⟨0, Nat.zero_le _, rfl, namesUpto_zero _, rfl⟩
  case round =>
    obtain ⟨k, hk, rfl, hno, rfl⟩ := hrel
    have k0 : (0 : Int) ≤ (k : Int) := by omega
    by_cases hlt : k < s.size
    · have k1 : (k : Int) < (s.size : Int) := by omega
      obtain ⟨b, hb, hbl⟩ := str_at hlt
      have HB := hidden hbl
      have hor := b_or b
      have h256 := size_lt b
      clear hbl
      by_cases hd : 48 ≤ b.toNat ∧ b.toNat ≤ 57
      · have d0 : (48 : Int) ≤ (b.toNat : Int) := by omega
        have d1 : (b.toNat : Int) ≤ 57 := by omega
        by_cases hk0 : k = 0
        · subst hk0
          have nb : ((b.toNat : Int) != 95) = true := by simp; omega
          have hlet : (!((decide (97 ≤ b.toNat) && decide (b.toNat ≤ 122)) || (decide (65 ≤ b.toNat) && decide (b.toNat ≤ 90)))) = true := by simp; omega
          rw [hlet] at hor
          have hF := hidden (fitN_no hlt HB.out (show nameB 0 b = false by simp [nameB, letterB]; omega))
          clear hd hlet
          go_wp2_with fail
          all_goals go_ret
          all_goals exact ⟨ret_bool hF.out.symm, rfl⟩
        · have kp : (0 : Int) < (k : Int) := by omega
          have hN := hidden (namesUpto_succ hno.out HB.out (show nameB k b = true by simp [nameB, digitB, hd, hk0]))
          clear hor hd
          go_wp2_with fail
          all_goals go_roundw
          case rel => exact ⟨k + 1, by omega, by go_num, hN, trivial⟩
          case measure => simp [intOf]; omega
      · by_cases h95 : b.toNat = 95
        · have nb : ((b.toNat : Int) != 95) = false := by simp; omega
          have hN := hidden (namesUpto_succ hno.out HB.out (show nameB k b = true by simp [nameB, letterB, h95]))
          have d0 : (48 : Int) ≤ (b.toNat : Int) := by omega
          have d1 : ¬ (b.toNat : Int) ≤ 57 := by omega
          clear hor hd
          go_wp2_with fail
          all_goals go_roundw
          case rel => exact ⟨k + 1, by omega, by go_num, hN, trivial⟩
          case measure => simp [intOf]; omega
        · have nb : ((b.toNat : Int) != 95) = true := by simp; omega
          have hdd : (48 : Int) ≤ (b.toNat : Int) ∧ (decide ((b.toNat : Int) ≤ 57) = false) ∨ ¬ (48 : Int) ≤ (b.toNat : Int) := by
            by_cases h48 : 48 ≤ b.toNat
            · exact .inl ⟨by omega, by simp; omega⟩
            · exact .inr (by omega)
          cases hl : ((decide (97 ≤ b.toNat) && decide (b.toNat ≤ 122)) || (decide (65 ≤ b.toNat) && decide (b.toNat ≤ 90))) with
          | true =>
            rw [hl, Bool.not_true, Bool.or_eq_false_iff] at hor
            obtain ⟨o1, o2⟩ := hor
            have hN := hidden (namesUpto_succ hno.out HB.out (show nameB k b = true by simp [nameB, letterB, hl]))
            have HD := hidden hdd
            clear hd h95 hl hdd
            rcases HD.out with ⟨d0, d1⟩ | d0
            all_goals
              go_wp2_with fail
              go_roundw
              case rel => exact ⟨k + 1, by omega, by go_num, hN, trivial⟩
              case measure => simp [intOf]; omega
          | false =>
            rw [hl, Bool.not_false] at hor
            have hdg : digitB b = false := by simp [digitB]; omega
            have hF := hidden (fitN_no hlt HB.out (show nameB k b = false by simp [nameB, letterB, hl, h95, hdg]))
            have HD := hidden hdd
            clear hd h95 hl hdd hdg
            rcases HD.out with ⟨d0, d1⟩ | d0
            all_goals
              go_wp2_with fail
              all_goals go_ret
              all_goals exact ⟨ret_bool hF.out.symm, rfl⟩
    · obtain rfl : k = s.size := by omega
      have hF := hidden (fitN_end hno.out)
      have k1 : ¬ (s.size : Int) < (s.size : Int) := by omega
      by_cases he : s.size = 0
      · have hse : s = ⟨#[]⟩ := by
          have : s.data.size = 0 := he
          exact congrArg ByteArray.mk (Array.eq_empty_of_size_eq_zero this)
        subst hse
        go_wp2_with fail
        go_ret
        rw [hF.out]
        exact ⟨rfl, rfl⟩
      · have hne : s.toList.isEmpty = false := by
          rw [Lib.toList_data, List.isEmpty_eq_false_iff]
          intro e
          exact he (congrArg List.length e)
        have hd : decide ((s.size : Int) ≤ 32) = decide (s.size ≤ 32) := decide_eq_decide.2 (by omega)
        have hone : decide (1 ≤ s.size) = true := decide_eq_true (by omega)
        rw [hone, Bool.true_and] at hF
        clear hone
        go_wp2_with fail
        go_ret
        rw [hF.out]
        exact ⟨rfl, rfl⟩
/-- labels.fitValue -/
theorem fitValue_any (s : ByteArray) (w : World) (hs : s.size < 9223372036854775000) :
    Calls Tryz.prog 103 #[.string s] w fun e w' => e = .returned (.bool (fitV s)) ∧ w = w' := by
  by_cases he : s.size = 0
  · have hse : s = ⟨#[]⟩ := by
      have : s.data.size = 0 := he
      exact congrArg ByteArray.mk (Array.eq_empty_of_size_eq_zero this)
    subst hse
    go_enter Tryz.func103, Tryz.ntmps103
    go_wp2_with fail
    go_ret
    exact ⟨rfl, rfl⟩
  · have hne : s.toList.isEmpty = false := by
      rw [Lib.toList_data, List.isEmpty_eq_false_iff]
      intro e
      exact he (congrArg List.length e)
    have hF : fitV s = decide (s.size ≤ 64) := by
      unfold fitV
      exact decide_eq_decide.2 ⟨fun h => h.2, fun h => ⟨by omega, h⟩⟩
    rw [hF]
    clear hF
    go_enter Tryz.func103, Tryz.ntmps103
    go_wp2_with fail
    go_ret
    exact ⟨ret_bool (decide_eq_decide.2 (by omega)), rfl⟩
theorem rfitValue_any (s : ByteArray) (w : World) (hs : s.size < 9223372036854775000) :
    Calls Tryz.prog 162 #[.string s] w fun e w' => e = .returned (.bool (fitV s)) ∧ w = w' := by
  by_cases he : s.size = 0
  · have hF : fitV s = false := decide_eq_false fun h => by omega
    have h1 : ¬ (1 : Int) ≤ (s.size : Int) := by omega
    rw [hF]
    go_enter Tryz.func162, Tryz.ntmps162
    go_wp2_with fail
    go_ret
    exact ⟨rfl, rfl⟩
  · have h1 : (1 : Int) ≤ (s.size : Int) := by omega
    have hF : fitV s = decide (s.size ≤ 64) := by
      unfold fitV
      exact decide_eq_decide.2 ⟨fun h => h.2, fun h => ⟨by omega, h⟩⟩
    rw [hF]
    clear hF
    go_enter Tryz.func162, Tryz.ntmps162
    go_wp2_with fail
    go_ret
    exact ⟨ret_bool (decide_eq_decide.2 (by omega)), rfl⟩

set_option maxHeartbeats 3200000 in
theorem rfitName_any (s : ByteArray) (w : World) (hs : s.size < 9223372036854775000) :
    Calls Tryz.prog 97 #[.string s] w fun e w' => e = .returned (.bool (fitN s)) ∧ w = w' := by
  go_enter Tryz.func97, Tryz.ntmps97
  go_wp2_with fail
  go_loopw [3] (fun vi wr => ∃ k : Nat, k ≤ s.size ∧ vi = .int .i64 k ∧ Hid (namesUpto s.data.toList k) ∧ wr = w) (fun vi _ => s.size - (intOf vi).toNat)
  case atStart => exact ⟨0, Nat.zero_le _, rfl, namesUpto_zero _, rfl⟩
  case round =>
    obtain ⟨k, hk, rfl, hno, rfl⟩ := hrel
    have k0 : (0 : Int) ≤ (k : Int) := by omega
    by_cases hlt : k < s.size
    · have k1 : (k : Int) < (s.size : Int) := by omega
      obtain ⟨b, hb, hbl⟩ := str_at hlt
      have HB := hidden hbl
      have h256 := size_lt b
      clear hbl
      have hcl : b.toNat < 48 ∨ (48 ≤ b.toNat ∧ b.toNat ≤ 57) ∨ (58 ≤ b.toNat ∧ b.toNat ≤ 64) ∨ (65 ≤ b.toNat ∧ b.toNat ≤ 90) ∨ (91 ≤ b.toNat ∧ b.toNat ≤ 94) ∨ b.toNat = 95 ∨ b.toNat = 96 ∨ (97 ≤ b.toNat ∧ b.toNat ≤ 122) ∨ 123 ≤ b.toNat := by omega
      rcases hcl with hc | hc | hc | hc | hc | hc | hc | hc | hc
      · have t97 : decide ((97 : Int) ≤ (b.toNat : Int)) = false := by simp; omega
        have t122 : (b.toNat : Int) ≤ 122 := by omega
        have t65 : decide ((65 : Int) ≤ (b.toNat : Int)) = false := by simp; omega
        have t90 : (b.toNat : Int) ≤ 90 := by omega
        have t48 : decide ((48 : Int) ≤ (b.toNat : Int)) = false := by simp; omega
        have t57 : (b.toNat : Int) ≤ 57 := by omega
        have t95 : ((b.toNat : Int) == 95) = false := by simp; omega
        have hF := hidden (fitN_no hlt HB.out (show nameB k b = false by simp [nameB, letterB, digitB]; omega))
        clear hc
        go_wp2_with fail
        go_ret
        exact ⟨ret_bool hF.out.symm, rfl⟩
      · have t97 : decide ((97 : Int) ≤ (b.toNat : Int)) = false := by simp; omega
        have t122 : (b.toNat : Int) ≤ 122 := by omega
        have t65 : decide ((65 : Int) ≤ (b.toNat : Int)) = false := by simp; omega
        have t90 : (b.toNat : Int) ≤ 90 := by omega
        have t48 : (48 : Int) ≤ (b.toNat : Int) := by omega
        have t57 : (b.toNat : Int) ≤ 57 := by omega
        have t95 : ((b.toNat : Int) == 95) = false := by simp; omega
        by_cases hk0 : k = 0
        · subst hk0
          have hF := hidden (fitN_no hlt HB.out (show nameB 0 b = false by simp [nameB, letterB, digitB]; omega))
          clear hc
          go_wp2_with fail
          go_ret
          exact ⟨ret_bool hF.out.symm, rfl⟩
        · have hkz : ((k : Int) == 0) = false := by simp; omega
          have hN := hidden (namesUpto_succ hno.out HB.out (show nameB k b = true by simp [nameB, letterB, digitB]; omega))
          clear hc
          go_wp2_with fail
          go_roundw
          case rel => exact ⟨k + 1, by omega, by go_num, hN, trivial⟩
          case measure => simp [intOf]; omega
      · have t97 : decide ((97 : Int) ≤ (b.toNat : Int)) = false := by simp; omega
        have t122 : (b.toNat : Int) ≤ 122 := by omega
        have t65 : decide ((65 : Int) ≤ (b.toNat : Int)) = false := by simp; omega
        have t90 : (b.toNat : Int) ≤ 90 := by omega
        have t48 : (48 : Int) ≤ (b.toNat : Int) := by omega
        have t57 : decide ((b.toNat : Int) ≤ 57) = false := by simp; omega
        have t95 : ((b.toNat : Int) == 95) = false := by simp; omega
        have hF := hidden (fitN_no hlt HB.out (show nameB k b = false by simp [nameB, letterB, digitB]; omega))
        clear hc
        go_wp2_with fail
        go_ret
        exact ⟨ret_bool hF.out.symm, rfl⟩
      · have t97 : decide ((97 : Int) ≤ (b.toNat : Int)) = false := by simp; omega
        have t122 : (b.toNat : Int) ≤ 122 := by omega
        have t65 : (65 : Int) ≤ (b.toNat : Int) := by omega
        have t90 : (b.toNat : Int) ≤ 90 := by omega
        have t48 : (48 : Int) ≤ (b.toNat : Int) := by omega
        have t57 : decide ((b.toNat : Int) ≤ 57) = false := by simp; omega
        have t95 : ((b.toNat : Int) == 95) = false := by simp; omega
        have hN := hidden (namesUpto_succ hno.out HB.out (show nameB k b = true by simp [nameB, letterB, digitB]; omega))
        clear hc
        go_wp2_with fail
        go_roundw
        case rel => exact ⟨k + 1, by omega, by go_num, hN, trivial⟩
        case measure => simp [intOf]; omega
      · have t97 : decide ((97 : Int) ≤ (b.toNat : Int)) = false := by simp; omega
        have t122 : (b.toNat : Int) ≤ 122 := by omega
        have t65 : (65 : Int) ≤ (b.toNat : Int) := by omega
        have t90 : decide ((b.toNat : Int) ≤ 90) = false := by simp; omega
        have t48 : (48 : Int) ≤ (b.toNat : Int) := by omega
        have t57 : decide ((b.toNat : Int) ≤ 57) = false := by simp; omega
        have t95 : ((b.toNat : Int) == 95) = false := by simp; omega
        have hF := hidden (fitN_no hlt HB.out (show nameB k b = false by simp [nameB, letterB, digitB]; omega))
        clear hc
        go_wp2_with fail
        go_ret
        exact ⟨ret_bool hF.out.symm, rfl⟩
      · have t97 : decide ((97 : Int) ≤ (b.toNat : Int)) = false := by simp; omega
        have t122 : (b.toNat : Int) ≤ 122 := by omega
        have t65 : (65 : Int) ≤ (b.toNat : Int) := by omega
        have t90 : decide ((b.toNat : Int) ≤ 90) = false := by simp; omega
        have t48 : (48 : Int) ≤ (b.toNat : Int) := by omega
        have t57 : decide ((b.toNat : Int) ≤ 57) = false := by simp; omega
        have t95 : ((b.toNat : Int) == 95) = true := by simp; omega
        have hN := hidden (namesUpto_succ hno.out HB.out (show nameB k b = true by simp [nameB, letterB, digitB]; omega))
        clear hc
        go_wp2_with fail
        go_roundw
        case rel => exact ⟨k + 1, by omega, by go_num, hN, trivial⟩
        case measure => simp [intOf]; omega
      · have t97 : decide ((97 : Int) ≤ (b.toNat : Int)) = false := by simp; omega
        have t122 : (b.toNat : Int) ≤ 122 := by omega
        have t65 : (65 : Int) ≤ (b.toNat : Int) := by omega
        have t90 : decide ((b.toNat : Int) ≤ 90) = false := by simp; omega
        have t48 : (48 : Int) ≤ (b.toNat : Int) := by omega
        have t57 : decide ((b.toNat : Int) ≤ 57) = false := by simp; omega
        have t95 : ((b.toNat : Int) == 95) = false := by simp; omega
        have hF := hidden (fitN_no hlt HB.out (show nameB k b = false by simp [nameB, letterB, digitB]; omega))
        clear hc
        go_wp2_with fail
        go_ret
        exact ⟨ret_bool hF.out.symm, rfl⟩
      · have t97 : (97 : Int) ≤ (b.toNat : Int) := by omega
        have t122 : (b.toNat : Int) ≤ 122 := by omega
        have t65 : (65 : Int) ≤ (b.toNat : Int) := by omega
        have t90 : decide ((b.toNat : Int) ≤ 90) = false := by simp; omega
        have t48 : (48 : Int) ≤ (b.toNat : Int) := by omega
        have t57 : decide ((b.toNat : Int) ≤ 57) = false := by simp; omega
        have t95 : ((b.toNat : Int) == 95) = false := by simp; omega
        have hN := hidden (namesUpto_succ hno.out HB.out (show nameB k b = true by simp [nameB, letterB, digitB]; omega))
        clear hc
        go_wp2_with fail
        go_roundw
        case rel => exact ⟨k + 1, by omega, by go_num, hN, trivial⟩
        case measure => simp [intOf]; omega
      · have t97 : (97 : Int) ≤ (b.toNat : Int) := by omega
        have t122 : decide ((b.toNat : Int) ≤ 122) = false := by simp; omega
        have t65 : (65 : Int) ≤ (b.toNat : Int) := by omega
        have t90 : decide ((b.toNat : Int) ≤ 90) = false := by simp; omega
        have t48 : (48 : Int) ≤ (b.toNat : Int) := by omega
        have t57 : decide ((b.toNat : Int) ≤ 57) = false := by simp; omega
        have t95 : ((b.toNat : Int) == 95) = false := by simp; omega
        have hF := hidden (fitN_no hlt HB.out (show nameB k b = false by simp [nameB, letterB, digitB]; omega))
        clear hc
        go_wp2_with fail
        go_ret
        exact ⟨ret_bool hF.out.symm, rfl⟩
    · obtain rfl : k = s.size := by omega
      have hF := hidden (fitN_end hno.out)
      have k1 : ¬ (s.size : Int) < (s.size : Int) := by omega
      by_cases he : s.size = 0
      · have h1 : ¬ (1 : Int) ≤ (s.size : Int) := by omega
        have hF2 : Hid (fitN s = false) := by rw [Hid, hF.out, decide_eq_false (by omega), Bool.false_and]
        go_wp2_with fail
        go_ret
        rw [hF2.out]
        exact ⟨rfl, rfl⟩
      · have h1 : (1 : Int) ≤ (s.size : Int) := by omega
        have hF2 : Hid (fitN s = decide (s.size ≤ 32)) := by rw [Hid, hF.out, decide_eq_true (show 1 ≤ s.size by omega), Bool.true_and]
        go_wp2_with fail
        go_ret
        rw [hF2.out]
        exact ⟨ret_bool (decide_eq_decide.2 (by omega)), rfl⟩
end Go.Proofs.YthncochjhbmceaaGreat

namespace Go.Proofs.YthncochjhbmceaaGreat
set_option maxRecDepth 100000
open Go.RowKit

theorem bytes_one (b : UInt8) : Lib.byteCells [b] = [.int .u8 (b.toNat : Int)] := by
  have := byteCells_one b.toNat_lt
  simpa using this
theorem hexs : ∀ (H L : Fin 16), ((⟨#[92, 120]⟩ : ByteArray) ++ (⟨#[48, 49, 50, 51, 52, 53, 54, 55, 56, 57, 97, 98, 99, 100, 101, 102]⟩ : ByteArray).extract H.val (H.val + 1) ++ (⟨#[48, 49, 50, 51, 52, 53, 54, 55, 56, 57, 97, 98, 99, 100, 101, 102]⟩ : ByteArray).extract L.val (L.val + 1)).data.toList = [92, 120, hexD H.val, hexD L.val] := by decide +kernel
theorem hexs_of {H L : Nat} (h : H < 16) (l : L < 16) : ((⟨#[92, 120]⟩ : ByteArray) ++ (⟨#[48, 49, 50, 51, 52, 53, 54, 55, 56, 57, 97, 98, 99, 100, 101, 102]⟩ : ByteArray).extract H (H + 1) ++ (⟨#[48, 49, 50, 51, 52, 53, 54, 55, 56, 57, 97, 98, 99, 100, 101, 102]⟩ : ByteArray).extract L (L + 1)) = ⟨[92, 120, hexD H, hexD L].toArray⟩ :=
  bytes_eq (hexs ⟨H, h⟩ ⟨L, l⟩)
theorem ext_ones : ∀ H : Fin 16, ((⟨#[48, 49, 50, 51, 52, 53, 54, 55, 56, 57, 97, 98, 99, 100, 101, 102]⟩ : ByteArray).extract H.val (H.val + 1)).size = 1 := by decide +kernel
theorem ext_one {H : Nat} (h : H < 16) : ((⟨#[48, 49, 50, 51, 52, 53, 54, 55, 56, 57, 97, 98, 99, 100, 101, 102]⟩ : ByteArray).extract H (H + 1)).size = 1 := ext_ones ⟨H, h⟩
theorem and15s : ∀ n : Fin 256, bits .and .u8 ((n.val : Nat) : Int) 15 = ((n.val % 16 : Nat) : Int) := by decide +kernel
theorem and15 (b : UInt8) : bits .and .u8 (b.toNat : Int) 15 = ((b.toNat % 16 : Nat) : Int) := and15s ⟨b.toNat, b.toNat_lt⟩
theorem strCells_list (l : List UInt8) : Lib.strCells ⟨l.toArray⟩ = Lib.byteCells l := by
  simp [Lib.strCells, Lib.byteCells]
end Go.Proofs.YthncochjhbmceaaGreat

namespace Go.Proofs.YthncochjhbmceaaGreat
set_option maxRecDepth 100000
open Go.RowKit Go.Shelf

theorem bytes_back {w : World} {v : Value} {B n : Nat} {l : List UInt8} (h : w.ownsRow B 5 1 v n (Lib.byteCells l)) (hl : l.length = n) (h0 : l ≠ []) :
    (convert 176 9 v).run Tryz.prog w = .ok (.string ⟨l.toArray⟩) w := by
  have hn := List.length_pos_iff.2 h0
  rcases h.2 with ⟨rfl, hs⟩ | ⟨g, cap, cur, rfl, _⟩
  · omega
  · subst hl
    refine run_convert_bytes_back w 176 9 5 ⟨g, 0, none⟩ cap l Tryz.underlying176 Tryz.underlying5 Tryz.underlying9 fun j hj => ?_
    exact h.cells (g := g) rfl j (.int .u8 l[j].toNat) (by simp [Lib.byteCells, List.getElem?_eq_getElem hj])

set_option maxHeartbeats 2000000 in
theorem uintR_any (v : Nat) (w : World) (hv : v < 18446744073709551616) :
    Calls Tryz.prog 120 #[.int .u64 v] w fun e w' => e = .returned (.string ⟨(uintL v).toArray⟩) ∧ Below w.heap.size w w' := by
  obtain ⟨i0, hi, hz0, hz1, hz2⟩ := info_parts infoByte
  have hten := uintL_ten hv
  go_enter Tryz.func120, Tryz.ntmps120
  go_wp2_with fail
  have hO : (w.alloc (.cells #[] 5)).ownsRow w.heap.size 5 1 (.slice (some ⟨w.heap.size, 0, none⟩) 0 0) 0 (Lib.byteCells []) :=
    ⟨rfl, .inr ⟨w.heap.size, 0, #[], rfl, Nat.le_refl _, Array.getElem?_push_size, Nat.le_refl _, Nat.zero_le _, rfl, rfl⟩⟩
  have hB : Below w.heap.size w (w.alloc (.cells #[] 5)) := (Below.refl _ _).alloc (Nat.le_refl _) _
  generalize w.alloc (.cells #[] 5) = w1 at hO hB ⊢
  obtain ⟨g, hg⟩ : ∃ g, w.heap.size = g := ⟨_, rfl⟩
  have HG := hidden hg
  rw [hg] at hO hB ⊢
  go_loopw [0, 3] (fun x out wr => ∃ (k : Nat) (pre : List UInt8), x = .int .u64 k ∧ k < 18446744073709551616 ∧ wr.ownsRow g 5 1 out pre.length (Lib.byteCells pre) ∧ Hid (pre ++ uintL k = uintL v) ∧ Below g w wr) (fun x _ _ => (intOf x).toNat)
  case atStart => exact ⟨v, [], rfl, hv, hO, hidden rfl, hB⟩
  case round =>
    obtain ⟨k, pre, rfl, hk, ho, hp, hbl⟩ := hrel
    by_cases hs : k < 128
    · have h1 : ¬ (127 : Int) < (k : Int) := by omega
      have hpl := uintL_pre hp.out (by rw [uintL_small hs]; simp)
      go_wp2_with (at_builtin; refine wpList_append_own _ rfl _ _ 176 rfl g 5 i0 (.int .u8 0) 1 1 Tryz.underlying176 hi hz0 hz1 hz2 rfl (by decide) _ _ _ rfl (ho.alloc _) ⟨wr.heap.size, 0, none⟩ 1 1 [.int .u8 k] rfl rfl ?c1 ?c2 ?c3 ?c4 ?c5 ?_)
      case c2 => rfl
      case c3 => unfold maxLen; omega
      case c4 => omega
      case c5 => have := hbl.size; simp; omega
      intro v' w2 hown' hgrow _
      have hby : Lib.byteCells pre ++ [.int .u8 (k : Int)] = Lib.byteCells (uintL v) := by rw [← hp.out, uintL_small hs, Lib.byteCells_append, byteCells_one (by omega)]
      rw [hby] at hown'
      have hC := bytes_back hown' (by rw [← hp.out, uintL_small hs, List.length_append]; rfl) (uintL_ne v)
      go_wp2_with fail
      go_ret
      refine ⟨rfl, ?_⟩
      have hB2 : Below g w (wr.alloc (.cells #[.int .u8 k] 5)) := hbl.alloc (by have := hbl.size; have := HG.out; omega) _
      have := HG.out
      subst this
      exact hB2.grown hgrow (by have := hbl.size; simp; omega) (fun q hq => (ho.lt q hq).1)
    · have h1 : (127 : Int) < (k : Int) := by omega
      have hpl := uintL_pre hp.out (List.length_pos_iff.2 (uintL_ne k))
      have hch : Hid ((k : Int) % 128 + 128 = ((k % 128 + 128 : Nat) : Int)) := hidden (by omega)
      go_wp2_with (at_builtin; refine wpList_append_own _ rfl _ _ 176 rfl g 5 i0 (.int .u8 0) 1 1 Tryz.underlying176 hi hz0 hz1 hz2 rfl (by decide) _ _ _ rfl (ho.alloc _) ⟨wr.heap.size, 0, none⟩ 1 1 [.int .u8 ((k : Int) % 128 + 128)] rfl rfl ?d1 ?d2 ?d3 ?d4 ?d5 ?_)
      case d1 =>
        intro j u hj
        match j, hj with
        | 0, hj => simp at hj; subst hj; simp [Addr.add]
      case d2 => intro u hu; simp at hu; subst hu; rfl
      case d3 => unfold maxLen; omega
      case d4 => omega
      case d5 => have := hbl.size; simp; omega
      intro v' w2 hown' hgrow _
      have hby : Lib.byteCells pre ++ [.int .u8 ((k : Int) % 128 + 128)] = Lib.byteCells (pre ++ [UInt8.ofNat (k % 128 + 128)]) := by rw [Lib.byteCells_append, byteCells_one (by omega), hch.out]
      rw [hby] at hown'
      have hp2 : Hid ((pre ++ [UInt8.ofNat (k % 128 + 128)]) ++ uintL (k / 128) = uintL v) := hidden (by rw [← hp.out, uintL_big hs, List.append_assoc]; rfl)
      have hB2 : Below g w (wr.alloc (.cells #[.int .u8 ((k : Int) % 128 + 128)] 5)) := hbl.alloc (by have := hbl.size; have := HG.out; omega) _
      have hB3 := hB2.grown hgrow (by have := hbl.size; simp; omega) (fun q hq => (ho.lt q hq).1)
      clear hB2 hgrow ho hbl hch hby
      go_wp2_with fail
      go_roundw
      case rel => exact ⟨k / 128, _, by go_num, by omega, by simpa using hown', hp2, hB3⟩
      case measure => simp [intOf]; omega

theorem zz_pos {v : Int} (h : 0 ≤ v) : v * 2 = (zz v : Nat) := by
  unfold zz; rw [if_pos h]; omega
theorem zz_neg {v : Int} (h : ¬ 0 ≤ v) : -(v + 1) * 2 + 1 = (zz v : Nat) := by
  unfold zz; rw [if_neg h]; omega
end Go.Proofs.YthncochjhbmceaaGreat

namespace Go.Proofs.YthncochjhbmceaaGreat
set_option maxRecDepth 100000
open Go.RowKit

theorem fresh_byte (w : World) (b : UInt8) : (w.alloc (.cells #[.int .u8 (b.toNat : Int)] 5)).ownsRow w.heap.size 5 1 (.slice (some ⟨w.heap.size, 0, none⟩) 1 1) 1 (Lib.byteCells [b]) :=
  ⟨rfl, .inr ⟨w.heap.size, 1, #[.int .u8 (b.toNat : Int)], rfl, Nat.le_refl _, Array.getElem?_push_size, Nat.le_refl _, by unfold maxLen; omega, rfl, by rw [bytes_one]; rfl⟩⟩
theorem str_app (a b : List UInt8) : (⟨a.toArray⟩ : ByteArray) ++ ⟨b.toArray⟩ = ⟨(a ++ b).toArray⟩ := bytes_eq (by simp)
theorem str_sub {v : ByteArray} {k : Nat} {b : UInt8} (h : v.data.toList[k]? = some b) : v.extract k (k + 1) = ⟨[b].toArray⟩ := bytes_eq (by
  have hk := (List.getElem?_eq_some_iff.1 h).1
  rw [ByteArray.data_extract, Array.toList_extract]
  simp only [List.extract]
  rw [show k + 1 - k = 1 by omega, List.drop_eq_getElem_cons hk, List.take_succ_cons, List.take_zero, (List.getElem?_eq_some_iff.1 h).2])

end Go.Proofs.YthncochjhbmceaaGreat

namespace Go.Proofs.YthncochjhbmceaaGreat

def hexI (b : UInt8) : Nat := if hexV b < 16 then hexV b else 255
def hexB (h l : UInt8) : UInt8 := UInt8.ofNat ((hexI h * 16 % 256) ||| hexI l)
/-- one step of the loose reading: what is read, and what is left -/
def looStep : List UInt8 → UInt8 × List UInt8
  | [] => (0, [])
  | [c] => (c, [])
  | c :: d :: r => if c.toNat = 92 then (if d.toNat = 120 then (match r with | h :: l :: r2 => (hexB h l, r2) | _ => (d, r)) else (d, r)) else (c, d :: r)
/-- v was read of s, and r is left -/
inductive Loo (s : List UInt8) : List UInt8 → List UInt8 → Prop
  | here : Loo s [] s
  | more {v r : List UInt8} : Loo s v r → r ≠ [] → r.head? ≠ some 34 → Loo s (v ++ [(looStep r).1]) (looStep r).2

theorem hex_or : ∀ a b : Fin 16, (a.val * 16 % 256) ||| b.val = a.val * 16 + b.val := by decide +kernel
theorem hexB_D (b : UInt8) : hexB (hexD (b.toNat / 16)) (hexD (b.toNat % 16)) = b := by
  have hb := b.toNat_lt
  have h1 : b.toNat / 16 < 16 := by omega
  have h2 : b.toNat % 16 < 16 := by omega
  have h3 := hex_or ⟨b.toNat / 16, h1⟩ ⟨b.toNat % 16, h2⟩
  simp only at h3
  unfold hexB hexI
  rw [hexV_D h1, hexV_D h2, if_pos h1, if_pos h2, h3, show b.toNat / 16 * 16 + b.toNat % 16 = b.toNat by omega]
  simp
theorem looStep_quo (b : UInt8) (t : List UInt8) : looStep (quoB b ++ 34 :: t) = (b, 34 :: t) ∧ ∀ (x : UInt8) (r : List UInt8), looStep (quoB b ++ x :: r) = (b, x :: r) := by
  have key : ∀ (x : UInt8) (r : List UInt8), looStep (quoB b ++ x :: r) = (b, x :: r) := by
    intro x r
    unfold quoB
    by_cases h1 : b.toNat = 34 ∨ b.toNat = 92
    · rw [if_pos h1]
      have h2 : ¬ b.toNat = 120 := by omega
      simp [looStep, h2]
    · rw [if_neg h1]
      by_cases h2 : 32 ≤ b.toNat ∧ b.toNat ≤ 126
      · rw [if_pos h2]
        have h3 : ¬ b.toNat = 92 := by omega
        simp [looStep, h3]
      · rw [if_neg h2]
        have := hexB_D b
        simp [looStep, this]
  exact ⟨key _ _, key⟩
theorem quoB_head (b : UInt8) (r : List UInt8) : quoB b ++ r ≠ [] ∧ (quoB b ++ r).head? ≠ some 34 := by
  unfold quoB
  by_cases h1 : b.toNat = 34 ∨ b.toNat = 92
  · rw [if_pos h1]; simp
  · rw [if_neg h1]
    by_cases h2 : 32 ≤ b.toNat ∧ b.toNat ≤ 126
    · rw [if_pos h2]
      refine ⟨by simp, fun e => ?_⟩
      simp only [List.cons_append, List.nil_append, List.head?_cons, Option.some.injEq] at e
      exact h1 (.inl (by rw [e]; rfl))
    · rw [if_neg h2]; simp
/-- the loose reading of a right quotation reads its value -/
theorem loo_quo {u t : List UInt8} : ∀ {v r : List UInt8}, Loo (quoL u ++ 34 :: t) v r → ∃ k, v = u.take k ∧ r = quoL (u.drop k) ++ 34 :: t := by
  intro v r h
  induction h with
  | here => exact ⟨0, by simp, by simp⟩
  | @more v r h h1 h2 ih =>
    obtain ⟨k, rfl, rfl⟩ := ih
    cases hd : u.drop k with
    | nil =>
      rw [hd] at h2
      exact absurd rfl h2
    | cons b d =>
      have hu : u[k]? = some b := by
        have : (u.drop k)[0]? = some b := by rw [hd]; rfl
        rwa [List.getElem?_drop, Nat.add_zero] at this
      have hd2 : u.drop (k + 1) = d := by rw [← List.drop_drop, hd]; rfl
      have hq : quoL (b :: d) ++ 34 :: t = quoB b ++ (quoL d ++ 34 :: t) := by simp [quoL]
      have hs : looStep (quoL (b :: d) ++ 34 :: t) = (b, quoL d ++ 34 :: t) := by
        rw [hq]
        cases hx : quoL d ++ 34 :: t with
        | nil => simp at hx
        | cons x r => exact (looStep_quo b t).2 x r
      rw [hs]
      refine ⟨k + 1, ?_, by rw [hd2]⟩
      rw [List.take_add_one, hu]
      rfl
theorem loo_end {u t v r : List UInt8} (h : Loo (quoL u ++ 34 :: t) v r) (he : r = [] ∨ r.head? = some 34) : v = u ∧ r = 34 :: t := by
  obtain ⟨k, rfl, rfl⟩ := loo_quo h
  cases hd : u.drop k with
  | nil =>
    have : u.length ≤ k := List.drop_eq_nil_iff.1 hd
    exact ⟨List.take_of_length_le this, by simp [quoL]⟩
  | cons b d =>
    rw [hd] at he
    have hq : quoL (b :: d) ++ 34 :: t = quoB b ++ (quoL d ++ 34 :: t) := by simp [quoL]
    rw [hq] at he
    have := quoB_head b (quoL d ++ 34 :: t)
    rcases he with he | he
    · exact absurd he this.1
    · exact absurd he this.2
end Go.Proofs.YthncochjhbmceaaGreat

namespace Go.Proofs.YthncochjhbmceaaGreat
set_option maxRecDepth 100000
open Go.RowKit

end Go.Proofs.YthncochjhbmceaaGreat
