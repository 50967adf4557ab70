/- labels.fitName, fitValue and the reference's: what is a name, a value. Condition: the text is within the reach. labels.Quote, walked: a text in quotation marks. Condition: the text is within the reach. -/
import Derived.Test.YtalnndenncnbdaaGreatPk6aa95f8a
import Derived.Test.YtalnndenncnbdaaGreatPkf4cb56ba
import Derived.Deep.RegionHeld3
namespace Go.Proofs.YtalnndenncnbdaaGreat
set_option maxRecDepth 100000
open Go.RowKit

theorem or32 : ∀ n : Fin 256, (decide (bits .or .u8 ((n.val : Nat) : Int) 32 < 97) || decide (122 < bits .or .u8 ((n.val : Nat) : Int) 32)) = !((decide (97 ≤ n.val) && decide (n.val ≤ 122)) || (decide (65 ≤ n.val) && decide (n.val ≤ 90))) := by decide +kernel
theorem str_at {s : ByteArray} {i : Nat} (h : i < s.size) : ∃ b : UInt8, s[i]'h = b ∧ s.data.toList[i]? = some b := ⟨_, rfl, by
  have h2 : i < s.data.toList.length := h
  rw [List.getElem?_eq_getElem h2]; rfl⟩
theorem size_lt (b : UInt8) : b.toNat < 256 := b.toNat_lt
/-- what the places of b say, as the walk asks it -/
theorem b_or (b : UInt8) : (decide (bits .or .u8 (b.toNat : Int) 32 < 97) || decide (122 < bits .or .u8 (b.toNat : Int) 32)) = !((decide (97 ≤ b.toNat) && decide (b.toNat ≤ 122)) || (decide (65 ≤ b.toNat) && decide (b.toNat ≤ 90))) := or32 ⟨b.toNat, b.toNat_lt⟩

set_option maxHeartbeats 1600000 in
theorem fitName_any (s : ByteArray) (w : World) (hs : s.size < 9223372036854775000) :
    Calls Tryz.prog 116 #[.string s] w fun e w' => e = .returned (.bool (fitN s)) ∧ w = w' := by
  go_enter Tryz.func116, Tryz.ntmps116
  go_wp2_with fail
  go_loopw [7] (fun vi wr => ∃ k : Nat, k ≤ s.size ∧ vi = .int .i64 k ∧ Hid (namesUpto s.data.toList k) ∧ wr = w) (fun vi _ => s.size - (intOf vi).toNat)
  case atStart => exact ⟨0, Nat.zero_le _, rfl, namesUpto_zero _, rfl⟩
  case round =>
    obtain ⟨k, hk, rfl, hno, rfl⟩ := hrel
    have k0 : (0 : Int) ≤ (k : Int) := by omega
    by_cases hlt : k < s.size
    · have k1 : (k : Int) < (s.size : Int) := by omega
      obtain ⟨b, hb, hbl⟩ := str_at hlt
      have HB := hidden hbl
      have hor := b_or b
      have h256 := size_lt b
      clear hbl
      by_cases hd : 48 ≤ b.toNat ∧ b.toNat ≤ 57
      · have d0 : (48 : Int) ≤ (b.toNat : Int) := by omega
        have d1 : (b.toNat : Int) ≤ 57 := by omega
        by_cases hk0 : k = 0
        · subst hk0
          have nb : ((b.toNat : Int) != 95) = true := by simp; omega
          have hlet : (!((decide (97 ≤ b.toNat) && decide (b.toNat ≤ 122)) || (decide (65 ≤ b.toNat) && decide (b.toNat ≤ 90)))) = true := by simp; omega
          rw [hlet] at hor
          have hF := hidden (fitN_no hlt HB.out (show nameB 0 b = false by simp [nameB, letterB]; omega))
          clear hd hlet
          go_wp2_with fail
          all_goals go_ret
          all_goals exact ⟨ret_bool hF.out.symm, rfl⟩
        · have kp : (0 : Int) < (k : Int) := by omega
          have hN := hidden (namesUpto_succ hno.out HB.out (show nameB k b = true by simp [nameB, digitB, hd, hk0]))
          clear hor hd
          go_wp2_with fail
          all_goals go_roundw
          case rel => exact ⟨k + 1, by omega, by go_num, hN, trivial⟩
          case measure => simp [intOf]; omega
      · by_cases h95 : b.toNat = 95
        · have nb : ((b.toNat : Int) != 95) = false := by simp; omega
          have hN := hidden (namesUpto_succ hno.out HB.out (show nameB k b = true by simp [nameB, letterB, h95]))
          have d0 : (48 : Int) ≤ (b.toNat : Int) := by omega
          have d1 : ¬ (b.toNat : Int) ≤ 57 := by omega
          clear hor hd
          go_wp2_with fail
          all_goals go_roundw
          case rel => exact ⟨k + 1, by omega, by go_num, hN, trivial⟩
          case measure => simp [intOf]; omega
        · have nb : ((b.toNat : Int) != 95) = true := by simp; omega
          have hdd : (48 : Int) ≤ (b.toNat : Int) ∧ (decide ((b.toNat : Int) ≤ 57) = false) ∨ ¬ (48 : Int) ≤ (b.toNat : Int) := by
            by_cases h48 : 48 ≤ b.toNat
            · exact .inl ⟨by omega, by simp; omega⟩
            · exact .inr (by omega)
          cases hl : ((decide (97 ≤ b.toNat) && decide (b.toNat ≤ 122)) || (decide (65 ≤ b.toNat) && decide (b.toNat ≤ 90))) with
          | true =>
            rw [hl, Bool.not_true, Bool.or_eq_false_iff] at hor
            obtain ⟨o1, o2⟩ := hor
            have hN := hidden (namesUpto_succ hno.out HB.out (show nameB k b = true by simp [nameB, letterB, hl]))
            have HD := hidden hdd
            clear hd h95 hl hdd
            rcases HD.out with ⟨d0, d1⟩ | d0
            all_goals
              go_wp2_with fail
              go_roundw
              case rel => exact ⟨k + 1, by omega, by go_num, hN, trivial⟩
              case measure => simp [intOf]; omega
          | false =>
            rw [hl, Bool.not_false] at hor
            have hdg : digitB b = false := by simp [digitB]; omega
            have hF := hidden (fitN_no hlt HB.out (show nameB k b = false by simp [nameB, letterB, hl, h95, hdg]))
            have HD := hidden hdd
            clear hd h95 hl hdd hdg
            rcases HD.out with ⟨d0, d1⟩ | d0
            all_goals
              go_wp2_with fail
              all_goals go_ret
              all_goals exact ⟨ret_bool hF.out.symm, rfl⟩
    · obtain rfl : k = s.size := by omega
      have hF := hidden (fitN_end hno.out)
      have k1 : ¬ (s.size : Int) < (s.size : Int) := by omega
      by_cases he : s.size = 0
      · have hse : s = ⟨#[]⟩ := by
          have : s.data.size = 0 := he
          exact congrArg ByteArray.mk (Array.eq_empty_of_size_eq_zero this)
        subst hse
        go_wp2_with fail
        go_ret
        rw [hF.out]
        exact ⟨rfl, rfl⟩
      · have hne : s.toList.isEmpty = false := by
          rw [Lib.toList_data, List.isEmpty_eq_false_iff]
          intro e
          exact he (congrArg List.length e)
        have hd : decide ((s.size : Int) ≤ 32) = decide (s.size ≤ 32) := decide_eq_decide.2 (by omega)
        have hone : decide (1 ≤ s.size) = true := decide_eq_true (by omega)
        rw [hone, Bool.true_and] at hF
        clear hone
        go_wp2_with fail
        go_ret
        rw [hF.out]
        exact ⟨rfl, rfl⟩
/-- labels.fitValue -/
theorem fitValue_any (s : ByteArray) (w : World) (hs : s.size < 9223372036854775000) :
    Calls Tryz.prog 117 #[.string s] w fun e w' => e = .returned (.bool (fitV s)) ∧ w = w' := by
  by_cases he : s.size = 0
  · have hse : s = ⟨#[]⟩ := by
      have : s.data.size = 0 := he
      exact congrArg ByteArray.mk (Array.eq_empty_of_size_eq_zero this)
    subst hse
    go_enter Tryz.func117, Tryz.ntmps117
    go_wp2_with fail
    go_ret
    exact ⟨rfl, rfl⟩
  · have hne : s.toList.isEmpty = false := by
      rw [Lib.toList_data, List.isEmpty_eq_false_iff]
      intro e
      exact he (congrArg List.length e)
    have hF : fitV s = decide (s.size ≤ 64) := by
      unfold fitV
      exact decide_eq_decide.2 ⟨fun h => h.2, fun h => ⟨by omega, h⟩⟩
    rw [hF]
    clear hF
    go_enter Tryz.func117, Tryz.ntmps117
    go_wp2_with fail
    go_ret
    exact ⟨ret_bool (decide_eq_decide.2 (by omega)), rfl⟩
theorem rfitValue_any (s : ByteArray) (w : World) (hs : s.size < 9223372036854775000) :
    Calls Tryz.prog 153 #[.string s] w fun e w' => e = .returned (.bool (fitV s)) ∧ w = w' := by
  by_cases he : s.size = 0
  · have hF : fitV s = false := decide_eq_false fun h => by omega
    have h1 : ¬ (1 : Int) ≤ (s.size : Int) := by omega
    rw [hF]
    go_enter Tryz.func153, Tryz.ntmps153
    go_wp2_with fail
    go_ret
    exact ⟨rfl, rfl⟩
  · have h1 : (1 : Int) ≤ (s.size : Int) := by omega
    have hF : fitV s = decide (s.size ≤ 64) := by
      unfold fitV
      exact decide_eq_decide.2 ⟨fun h => h.2, fun h => ⟨by omega, h⟩⟩
    rw [hF]
    clear hF
    go_enter Tryz.func153, Tryz.ntmps153
    go_wp2_with fail
    go_ret
    exact ⟨ret_bool (decide_eq_decide.2 (by omega)), rfl⟩

set_option maxHeartbeats 3200000 in
theorem rfitName_any (s : ByteArray) (w : World) (hs : s.size < 9223372036854775000) :
    Calls Tryz.prog 92 #[.string s] w fun e w' => e = .returned (.bool (fitN s)) ∧ w = w' := by
  go_enter Tryz.func92, Tryz.ntmps92
  go_wp2_with fail
  go_loopw [3] (fun vi wr => ∃ k : Nat, k ≤ s.size ∧ vi = .int .i64 k ∧ Hid (namesUpto s.data.toList k) ∧ wr = w) (fun vi _ => s.size - (intOf vi).toNat)
  case atStart => exact ⟨0, Nat.zero_le _, rfl, namesUpto_zero _, rfl⟩
  case round =>
    obtain ⟨k, hk, rfl, hno, rfl⟩ := hrel
    have k0 : (0 : Int) ≤ (k : Int) := by omega
    by_cases hlt : k < s.size
    · have k1 : (k : Int) < (s.size : Int) := by omega
      obtain ⟨b, hb, hbl⟩ := str_at hlt
      have HB := hidden hbl
      have h256 := size_lt b
      clear hbl
      have hcl : b.toNat < 48 ∨ (48 ≤ b.toNat ∧ b.toNat ≤ 57) ∨ (58 ≤ b.toNat ∧ b.toNat ≤ 64) ∨ (65 ≤ b.toNat ∧ b.toNat ≤ 90) ∨ (91 ≤ b.toNat ∧ b.toNat ≤ 94) ∨ b.toNat = 95 ∨ b.toNat = 96 ∨ (97 ≤ b.toNat ∧ b.toNat ≤ 122) ∨ 123 ≤ b.toNat := by omega
      rcases hcl with hc | hc | hc | hc | hc | hc | hc | hc | hc
      · have t97 : decide ((97 : Int) ≤ (b.toNat : Int)) = false := by simp; omega
        have t122 : (b.toNat : Int) ≤ 122 := by omega
        have t65 : decide ((65 : Int) ≤ (b.toNat : Int)) = false := by simp; omega
        have t90 : (b.toNat : Int) ≤ 90 := by omega
        have t48 : decide ((48 : Int) ≤ (b.toNat : Int)) = false := by simp; omega
        have t57 : (b.toNat : Int) ≤ 57 := by omega
        have t95 : ((b.toNat : Int) == 95) = false := by simp; omega
        have hF := hidden (fitN_no hlt HB.out (show nameB k b = false by simp [nameB, letterB, digitB]; omega))
        clear hc
        go_wp2_with fail
        go_ret
        exact ⟨ret_bool hF.out.symm, rfl⟩
      · have t97 : decide ((97 : Int) ≤ (b.toNat : Int)) = false := by simp; omega
        have t122 : (b.toNat : Int) ≤ 122 := by omega
        have t65 : decide ((65 : Int) ≤ (b.toNat : Int)) = false := by simp; omega
        have t90 : (b.toNat : Int) ≤ 90 := by omega
        have t48 : (48 : Int) ≤ (b.toNat : Int) := by omega
        have t57 : (b.toNat : Int) ≤ 57 := by omega
        have t95 : ((b.toNat : Int) == 95) = false := by simp; omega
        by_cases hk0 : k = 0
        · subst hk0
          have hF := hidden (fitN_no hlt HB.out (show nameB 0 b = false by simp [nameB, letterB, digitB]; omega))
          clear hc
          go_wp2_with fail
          go_ret
          exact ⟨ret_bool hF.out.symm, rfl⟩
        · have hkz : ((k : Int) == 0) = false := by simp; omega
          have hN := hidden (namesUpto_succ hno.out HB.out (show nameB k b = true by simp [nameB, letterB, digitB]; omega))
          clear hc
          go_wp2_with fail
          go_roundw
          case rel => exact ⟨k + 1, by omega, by go_num, hN, trivial⟩
          case measure => simp [intOf]; omega
      · have t97 : decide ((97 : Int) ≤ (b.toNat : Int)) = false := by simp; omega
        have t122 : (b.toNat : Int) ≤ 122 := by omega
        have t65 : decide ((65 : Int) ≤ (b.toNat : Int)) = false := by simp; omega
        have t90 : (b.toNat : Int) ≤ 90 := by omega
        have t48 : (48 : Int) ≤ (b.toNat : Int) := by omega
        have t57 : decide ((b.toNat : Int) ≤ 57) = false := by simp; omega
        have t95 : ((b.toNat : Int) == 95) = false := by simp; omega
        have hF := hidden (fitN_no hlt HB.out (show nameB k b = false by simp [nameB, letterB, digitB]; omega))
        clear hc
        go_wp2_with fail
        go_ret
        exact ⟨ret_bool hF.out.symm, rfl⟩
      · have t97 : decide ((97 : Int) ≤ (b.toNat : Int)) = false := by simp; omega
        have t122 : (b.toNat : Int) ≤ 122 := by omega
        have t65 : (65 : Int) ≤ (b.toNat : Int) := by omega
        have t90 : (b.toNat : Int) ≤ 90 := by omega
        have t48 : (48 : Int) ≤ (b.toNat : Int) := by omega
        have t57 : decide ((b.toNat : Int) ≤ 57) = false := by simp; omega
        have t95 : ((b.toNat : Int) == 95) = false := by simp; omega
        have hN := hidden (namesUpto_succ hno.out HB.out (show nameB k b = true by simp [nameB, letterB, digitB]; omega))
        clear hc
        go_wp2_with fail
        go_roundw
        case rel => exact ⟨k + 1, by omega, by go_num, hN, trivial⟩
        case measure => simp [intOf]; omega
      · have t97 : decide ((97 : Int) ≤ (b.toNat : Int)) = false := by simp; omega
        have t122 : (b.toNat : Int) ≤ 122 := by omega
        have t65 : (65 : Int) ≤ (b.toNat : Int) := by omega
        have t90 : decide ((b.toNat : Int) ≤ 90) = false := by simp; omega
        have t48 : (48 : Int) ≤ (b.toNat : Int) := by omega
        have t57 : decide ((b.toNat : Int) ≤ 57) = false := by simp; omega
        have t95 : ((b.toNat : Int) == 95) = false := by simp; omega
        have hF := hidden (fitN_no hlt HB.out (show nameB k b = false by simp [nameB, letterB, digitB]; omega))
        clear hc
        go_wp2_with fail
        go_ret
        exact ⟨ret_bool hF.out.symm, rfl⟩
      · have t97 : decide ((97 : Int) ≤ (b.toNat : Int)) = false := by simp; omega
        have t122 : (b.toNat : Int) ≤ 122 := by omega
        have t65 : (65 : Int) ≤ (b.toNat : Int) := by omega
        have t90 : decide ((b.toNat : Int) ≤ 90) = false := by simp; omega
        have t48 : (48 : Int) ≤ (b.toNat : Int) := by omega
        have t57 : decide ((b.toNat : Int) ≤ 57) = false := by simp; omega
        have t95 : ((b.toNat : Int) == 95) = true := by simp; omega
        have hN := hidden (namesUpto_succ hno.out HB.out (show nameB k b = true by simp [nameB, letterB, digitB]; omega))
        clear hc
        go_wp2_with fail
        go_roundw
        case rel => exact ⟨k + 1, by omega, by go_num, hN, trivial⟩
        case measure => simp [intOf]; omega
      · have t97 : decide ((97 : Int) ≤ (b.toNat : Int)) = false := by simp; omega
        have t122 : (b.toNat : Int) ≤ 122 := by omega
        have t65 : (65 : Int) ≤ (b.toNat : Int) := by omega
        have t90 : decide ((b.toNat : Int) ≤ 90) = false := by simp; omega
        have t48 : (48 : Int) ≤ (b.toNat : Int) := by omega
        have t57 : decide ((b.toNat : Int) ≤ 57) = false := by simp; omega
        have t95 : ((b.toNat : Int) == 95) = false := by simp; omega
        have hF := hidden (fitN_no hlt HB.out (show nameB k b = false by simp [nameB, letterB, digitB]; omega))
        clear hc
        go_wp2_with fail
        go_ret
        exact ⟨ret_bool hF.out.symm, rfl⟩
      · have t97 : (97 : Int) ≤ (b.toNat : Int) := by omega
        have t122 : (b.toNat : Int) ≤ 122 := by omega
        have t65 : (65 : Int) ≤ (b.toNat : Int) := by omega
        have t90 : decide ((b.toNat : Int) ≤ 90) = false := by simp; omega
        have t48 : (48 : Int) ≤ (b.toNat : Int) := by omega
        have t57 : decide ((b.toNat : Int) ≤ 57) = false := by simp; omega
        have t95 : ((b.toNat : Int) == 95) = false := by simp; omega
        have hN := hidden (namesUpto_succ hno.out HB.out (show nameB k b = true by simp [nameB, letterB, digitB]; omega))
        clear hc
        go_wp2_with fail
        go_roundw
        case rel => exact ⟨k + 1, by omega, by go_num, hN, trivial⟩
        case measure => simp [intOf]; omega
      · have t97 : (97 : Int) ≤ (b.toNat : Int) := by omega
        have t122 : decide ((b.toNat : Int) ≤ 122) = false := by simp; omega
        have t65 : (65 : Int) ≤ (b.toNat : Int) := by omega
        have t90 : decide ((b.toNat : Int) ≤ 90) = false := by simp; omega
        have t48 : (48 : Int) ≤ (b.toNat : Int) := by omega
        have t57 : decide ((b.toNat : Int) ≤ 57) = false := by simp; omega
        have t95 : ((b.toNat : Int) == 95) = false := by simp; omega
        have hF := hidden (fitN_no hlt HB.out (show nameB k b = false by simp [nameB, letterB, digitB]; omega))
        clear hc
        go_wp2_with fail
        go_ret
        exact ⟨ret_bool hF.out.symm, rfl⟩
    · obtain rfl : k = s.size := by omega
      have hF := hidden (fitN_end hno.out)
      have k1 : ¬ (s.size : Int) < (s.size : Int) := by omega
      by_cases he : s.size = 0
      · have h1 : ¬ (1 : Int) ≤ (s.size : Int) := by omega
        have hF2 : Hid (fitN s = false) := by rw [Hid, hF.out, decide_eq_false (by omega), Bool.false_and]
        go_wp2_with fail
        go_ret
        rw [hF2.out]
        exact ⟨rfl, rfl⟩
      · have h1 : (1 : Int) ≤ (s.size : Int) := by omega
        have hF2 : Hid (fitN s = decide (s.size ≤ 32)) := by rw [Hid, hF.out, decide_eq_true (show 1 ≤ s.size by omega), Bool.true_and]
        go_wp2_with fail
        go_ret
        rw [hF2.out]
        exact ⟨ret_bool (decide_eq_decide.2 (by omega)), rfl⟩
end Go.Proofs.YtalnndenncnbdaaGreat

namespace Go.Proofs.YtalnndenncnbdaaGreat
set_option maxRecDepth 100000
open Go.RowKit

theorem bytes_one (b : UInt8) : Lib.byteCells [b] = [.int .u8 (b.toNat : Int)] := by
  have := byteCells_one b.toNat_lt
  simpa using this
theorem hexs : ∀ (H L : Fin 16), ((⟨#[92, 120]⟩ : ByteArray) ++ (⟨#[48, 49, 50, 51, 52, 53, 54, 55, 56, 57, 97, 98, 99, 100, 101, 102]⟩ : ByteArray).extract H.val (H.val + 1) ++ (⟨#[48, 49, 50, 51, 52, 53, 54, 55, 56, 57, 97, 98, 99, 100, 101, 102]⟩ : ByteArray).extract L.val (L.val + 1)).data.toList = [92, 120, hexD H.val, hexD L.val] := by decide +kernel
theorem hexs_of {H L : Nat} (h : H < 16) (l : L < 16) : ((⟨#[92, 120]⟩ : ByteArray) ++ (⟨#[48, 49, 50, 51, 52, 53, 54, 55, 56, 57, 97, 98, 99, 100, 101, 102]⟩ : ByteArray).extract H (H + 1) ++ (⟨#[48, 49, 50, 51, 52, 53, 54, 55, 56, 57, 97, 98, 99, 100, 101, 102]⟩ : ByteArray).extract L (L + 1)) = ⟨[92, 120, hexD H, hexD L].toArray⟩ :=
  bytes_eq (hexs ⟨H, h⟩ ⟨L, l⟩)
theorem ext_ones : ∀ H : Fin 16, ((⟨#[48, 49, 50, 51, 52, 53, 54, 55, 56, 57, 97, 98, 99, 100, 101, 102]⟩ : ByteArray).extract H.val (H.val + 1)).size = 1 := by decide +kernel
theorem ext_one {H : Nat} (h : H < 16) : ((⟨#[48, 49, 50, 51, 52, 53, 54, 55, 56, 57, 97, 98, 99, 100, 101, 102]⟩ : ByteArray).extract H (H + 1)).size = 1 := ext_ones ⟨H, h⟩
theorem and15s : ∀ n : Fin 256, bits .and .u8 ((n.val : Nat) : Int) 15 = ((n.val % 16 : Nat) : Int) := by decide +kernel
theorem and15 (b : UInt8) : bits .and .u8 (b.toNat : Int) 15 = ((b.toNat % 16 : Nat) : Int) := and15s ⟨b.toNat, b.toNat_lt⟩
theorem strCells_list (l : List UInt8) : Lib.strCells ⟨l.toArray⟩ = Lib.byteCells l := by
  simp [Lib.strCells, Lib.byteCells]
set_option maxHeartbeats 6400000 in
theorem lquote_any (v : ByteArray) (w : World) (hv : v.size * 4 + 2 ≤ 140737488355328) :
    Calls Tryz.prog 67 #[.string v] w fun e w' => e = .returned (.string ⟨(quoteL v.data.toList).toArray⟩) ∧ Below w.heap.size w w' := by
  go_enter Tryz.func67, Tryz.ntmps67
  go_wp2_with fail
  have hI : Lib.IsBuilder 137 5 w.heap.size w.heap.size (Lib.byteCells []) (w.alloc (.cells #[.pointer none, .slice none 0 0] 137)) := bld_new w
  have hB : Below w.heap.size w (w.alloc (.cells #[.pointer none, .slice none 0 0] 137)) := (Below.refl _ _).alloc (Nat.le_refl _) _
  generalize w.alloc (.cells #[.pointer none, .slice none 0 0] 137) = w1 at hI hB ⊢
  obtain ⟨g, hg⟩ : ∃ g, w.heap.size = g := ⟨_, rfl⟩
  rw [hg] at hI hB ⊢
  refine (bldByte_any g g (Lib.byteCells []) 34 w1 hI (by decide) (by have := hB.size; omega)).mono ?_
  rintro e w2 ⟨rfl, hb2, hbl2, _⟩
  have hb2' : Lib.IsBuilder 137 5 g g (Lib.byteCells (34 :: quoL (v.data.toList.take 0))) w2 := .inr (by have h := hb2; exact h)
  have HB2 := hidden hb2'
  have HBL2 := hidden (hB.trans hbl2)
  clear hb2 hbl2 hI hB hb2'
  go_wp2_with fail
  go_loopw [9] (fun vi wr => ∃ k : Nat, vi = .int .i64 k ∧ k ≤ v.size ∧ Hid (Lib.IsBuilder 137 5 g g (Lib.byteCells (34 :: quoL (v.data.toList.take k))) wr) ∧ Below g w wr) (fun vi _ => v.size - (intOf vi).toNat)
  case atStart => exact ⟨0, rfl, Nat.zero_le _, HB2, HBL2.out⟩
  case round =>
    obtain ⟨k, rfl, hk, hb, hbl⟩ := hrel
    have k0 : (0 : Int) ≤ (k : Int) := by omega
    have HBL := hidden hbl
    clear hbl
    have hql := quoL_len (v.data.toList.take k)
    by_cases hlt : k < v.size
    · have k1 : (k : Int) < (v.size : Int) := by omega
      obtain ⟨b, hbe, hbat⟩ := str_at hlt
      have hT := hidden (take_snoc? hbat)
      have h256 := size_lt b
      have hsz : (Lib.byteCells (34 :: quoL (v.data.toList.take k))).length ≤ 4 * k + 1 := by
        rw [Lib.byteCells_length, List.length_cons]
        have : (v.data.toList.take k).length ≤ k := List.length_take_le _ _
        omega
      clear hbat
      by_cases h1 : b.toNat = 34
      · have e34 : ((b.toNat : Int) == 34) = true := by simp [h1]
        have HQ := hidden (show b.toNat = 34 ∨ b.toNat = 92 from .inl h1)
        clear h1
        go_wp2_with fail
        refine (bldByte_any g g _ 92 wr hb.out (by omega) (by have := HBL.out.size; omega)).mono ?_
        rintro e w5 ⟨rfl, hb5, hbl5, _⟩
        have HB5 := hidden hb5
        have HBL5 := hidden (HBL.out.trans hbl5)
        clear hb5 hbl5
        go_wp2_with fail
        refine (bldByte_any g g _ (b.toNat : Int) w5 (.inr HB5.out) (by rw [List.length_append]; simp only [List.length_singleton]; omega) (by have := HBL5.out.size; omega)).mono ?_
        rintro e w6 ⟨rfl, hb6, hbl6, _⟩
        have hby : Lib.byteCells (34 :: quoL (v.data.toList.take k)) ++ [.int .u8 92] ++ [.int .u8 (b.toNat : Int)] = Lib.byteCells (34 :: quoL (v.data.toList.take (k + 1))) := by
          have e2 : quoB b = [92] ++ [b] := by unfold quoB; rw [if_pos HQ.out]; rfl
          rw [hT.out, quoL_snoc, e2, ← List.append_assoc, ← List.cons_append, ← List.cons_append, Lib.byteCells_append, Lib.byteCells_append, bytes_one b]; rfl
        rw [hby] at hb6
        have HB6 : Hid (Lib.IsBuilder 137 5 g g (Lib.byteCells (34 :: quoL (v.data.toList.take (k + 1)))) w6) := .inr hb6
        have HBL6 := hidden (HBL5.out.trans hbl6)
        clear hb6 hbl6 hby
        go_wp2_with fail
        go_roundw
        case rel => exact ⟨k + 1, by go_num, by omega, HB6, HBL6.out⟩
        case measure => simp [intOf]; omega
      · have e34 : ((b.toNat : Int) == 34) = false := by simp; omega
        by_cases h2 : b.toNat = 92
        · have e92 : ((b.toNat : Int) == 92) = true := by simp [h2]
          have HQ := hidden (show b.toNat = 34 ∨ b.toNat = 92 from .inr h2)
          clear h2
          go_wp2_with fail
          refine (bldByte_any g g _ 92 wr hb.out (by omega) (by have := HBL.out.size; omega)).mono ?_
          rintro e w5 ⟨rfl, hb5, hbl5, _⟩
          have HB5 := hidden hb5
          have HBL5 := hidden (HBL.out.trans hbl5)
          clear hb5 hbl5
          go_wp2_with fail
          refine (bldByte_any g g _ (b.toNat : Int) w5 (.inr HB5.out) (by rw [List.length_append]; simp only [List.length_singleton]; omega) (by have := HBL5.out.size; omega)).mono ?_
          rintro e w6 ⟨rfl, hb6, hbl6, _⟩
          have hby : Lib.byteCells (34 :: quoL (v.data.toList.take k)) ++ [.int .u8 92] ++ [.int .u8 (b.toNat : Int)] = Lib.byteCells (34 :: quoL (v.data.toList.take (k + 1))) := by
            have e2 : quoB b = [92] ++ [b] := by unfold quoB; rw [if_pos HQ.out]; rfl
            rw [hT.out, quoL_snoc, e2, ← List.append_assoc, ← List.cons_append, ← List.cons_append, Lib.byteCells_append, Lib.byteCells_append, bytes_one b]; rfl
          rw [hby] at hb6
          have HB6 : Hid (Lib.IsBuilder 137 5 g g (Lib.byteCells (34 :: quoL (v.data.toList.take (k + 1)))) w6) := .inr hb6
          have HBL6 := hidden (HBL5.out.trans hbl6)
          clear hb6 hbl6 hby
          go_wp2_with fail
          go_roundw
          case rel => exact ⟨k + 1, by go_num, by omega, HB6, HBL6.out⟩
          case measure => simp [intOf]; omega
        · have e92 : ((b.toNat : Int) == 92) = false := by simp; omega
          by_cases h3 : 32 ≤ b.toNat ∧ b.toNat ≤ 126
          · have i32 : (32 : Int) ≤ (b.toNat : Int) := by omega
            have i126 : (b.toNat : Int) ≤ 126 := by omega
            go_wp2_with fail
            refine (bldByte_any g g _ (b.toNat : Int) wr hb.out (by omega) (by have := HBL.out.size; omega)).mono ?_
            rintro e w6 ⟨rfl, hb6, hbl6, _⟩
            have hby : Lib.byteCells (34 :: quoL (v.data.toList.take k)) ++ [.int .u8 (b.toNat : Int)] = Lib.byteCells (34 :: quoL (v.data.toList.take (k + 1))) := by
              have e2 : quoB b = [b] := by unfold quoB; rw [if_neg (by omega), if_pos h3]
              rw [hT.out, quoL_snoc, e2, ← List.cons_append, Lib.byteCells_append, bytes_one b]
            rw [hby] at hb6
            have HB6 : Hid (Lib.IsBuilder 137 5 g g (Lib.byteCells (34 :: quoL (v.data.toList.take (k + 1)))) w6) := .inr hb6
            have HBL6 := hidden (HBL.out.trans hbl6)
            clear hb6 hbl6 hby
            go_wp2_with fail
            go_roundw
            case rel => exact ⟨k + 1, by go_num, by omega, HB6, HBL6.out⟩
            case measure => simp [intOf]; omega
          · by_cases h4 : 32 ≤ b.toNat
            · have i32 : (32 : Int) ≤ (b.toNat : Int) := by omega
              have i126 : decide ((b.toNat : Int) ≤ 126) = false := by simp; omega
              obtain ⟨H, hH⟩ : ∃ H, b.toNat / 16 = H := ⟨_, rfl⟩
              obtain ⟨D, hD⟩ : ∃ D, b.toNat % 16 = D := ⟨_, rfl⟩
              have fH : (b.toNat : Int) / 16 = (H : Int) := by omega
              have fD : (b.toNat : Int) % 16 = (D : Int) := by omega
              have hH16 : H < 16 := by omega
              have hD16 : D < 16 := by omega
              have wH : IntKind.u8.wrap ((H : Int) + 1) = (H : Int) + 1 := by rw [IntKind.wrap_u8']; omega
              have wD : IntKind.u8.wrap ((D : Int) + 1) = (D : Int) + 1 := by rw [IntKind.wrap_u8']; omega
              have b1 : (0 : Int) ≤ (H : Int) := by omega
              have b2 : (H : Int) ≤ (H : Int) + 1 := by omega
              have b3 : (H : Int) + 1 ≤ 16 := by omega
              have b4 : (0 : Int) ≤ (D : Int) := by omega
              have b5 : (D : Int) ≤ (D : Int) + 1 := by omega
              have b6 : (D : Int) + 1 ≤ 16 := by omega
              have b7 : ((H : Int) + 1).toNat = H + 1 := by omega
              have b8 : ((D : Int) + 1).toNat = D + 1 := by omega
              have hstr := hexs_of hH16 hD16
              obtain ⟨X1, hX1⟩ : ∃ X, (⟨#[48, 49, 50, 51, 52, 53, 54, 55, 56, 57, 97, 98, 99, 100, 101, 102]⟩ : ByteArray).extract H (H + 1) = X := ⟨_, rfl⟩
              obtain ⟨X2, hX2⟩ : ∃ X, (⟨#[48, 49, 50, 51, 52, 53, 54, 55, 56, 57, 97, 98, 99, 100, 101, 102]⟩ : ByteArray).extract D (D + 1) = X := ⟨_, rfl⟩
              rw [hX1, hX2] at hstr
              have HSTR := hidden hstr
              have hsz4 : ((⟨#[92, 120]⟩ : ByteArray) ++ X1 ++ X2).size = 4 := by rw [hstr]; rfl
              have HSZ4 := hidden hsz4
              have HH := hidden (And.intro hH hD)
              have S1 := hidden (bldStr_any g g _ ((⟨#[92, 120]⟩ : ByteArray) ++ X1 ++ X2) wr.drew (bld_below hb.out (Below.refl _ _).drew) (by rw [HSZ4.out]; omega) (by have := HBL.out.size; show g ≤ wr.heap.size; omega))
              have z1 : X1.size = 1 := by rw [← hX1]; exact ext_one hH16
              have z2 : X2.size = 1 := by rw [← hX2]; exact ext_one hD16
              have fD2 : bits .and .u8 (b.toNat : Int) 15 = (D : Int) := by rw [and15 b, hD]
              clear hH hD hstr hsz4
              go_wp2_with fail
              go_region_held3 (fun w' => True) (trivial) (first | (go_at_call 74; refine S1.out.mono ?_; rintro e w6 ⟨rfl, hb6, hbl6, _⟩))
              have hby : Lib.byteCells (34 :: quoL (v.data.toList.take k)) ++ Lib.strCells ((⟨#[92, 120]⟩ : ByteArray) ++ X1 ++ X2) = Lib.byteCells (34 :: quoL (v.data.toList.take (k + 1))) := by
                have e2 : quoB b = [92, 120, hexD H, hexD D] := by unfold quoB; rw [if_neg (by omega), if_neg (by omega), HH.out.1, HH.out.2]
                rw [HSTR.out, hT.out, quoL_snoc, e2, ← List.cons_append, Lib.byteCells_append, strCells_list]
              rw [hby] at hb6
              have HB6 : Hid (Lib.IsBuilder 137 5 g g (Lib.byteCells (34 :: quoL (v.data.toList.take (k + 1)))) w6) := .inr hb6
              have HBL6 := hidden (HBL.out.trans ((Below.refl _ _).drew.trans hbl6))
              clear hb6 hbl6 hby S1
              go_wp2_with fail
              go_roundw
              case rel => exact ⟨k + 1, by go_num, by omega, HB6, HBL6.out⟩
              case measure => simp [intOf]; omega
            · have i32 : ¬ (32 : Int) ≤ (b.toNat : Int) := by omega
              obtain ⟨H, hH⟩ : ∃ H, b.toNat / 16 = H := ⟨_, rfl⟩
              obtain ⟨D, hD⟩ : ∃ D, b.toNat % 16 = D := ⟨_, rfl⟩
              have fH : (b.toNat : Int) / 16 = (H : Int) := by omega
              have fD : (b.toNat : Int) % 16 = (D : Int) := by omega
              have hH16 : H < 16 := by omega
              have hD16 : D < 16 := by omega
              have wH : IntKind.u8.wrap ((H : Int) + 1) = (H : Int) + 1 := by rw [IntKind.wrap_u8']; omega
              have wD : IntKind.u8.wrap ((D : Int) + 1) = (D : Int) + 1 := by rw [IntKind.wrap_u8']; omega
              have b1 : (0 : Int) ≤ (H : Int) := by omega
              have b2 : (H : Int) ≤ (H : Int) + 1 := by omega
              have b3 : (H : Int) + 1 ≤ 16 := by omega
              have b4 : (0 : Int) ≤ (D : Int) := by omega
              have b5 : (D : Int) ≤ (D : Int) + 1 := by omega
              have b6 : (D : Int) + 1 ≤ 16 := by omega
              have b7 : ((H : Int) + 1).toNat = H + 1 := by omega
              have b8 : ((D : Int) + 1).toNat = D + 1 := by omega
              have hstr := hexs_of hH16 hD16
              obtain ⟨X1, hX1⟩ : ∃ X, (⟨#[48, 49, 50, 51, 52, 53, 54, 55, 56, 57, 97, 98, 99, 100, 101, 102]⟩ : ByteArray).extract H (H + 1) = X := ⟨_, rfl⟩
              obtain ⟨X2, hX2⟩ : ∃ X, (⟨#[48, 49, 50, 51, 52, 53, 54, 55, 56, 57, 97, 98, 99, 100, 101, 102]⟩ : ByteArray).extract D (D + 1) = X := ⟨_, rfl⟩
              rw [hX1, hX2] at hstr
              have HSTR := hidden hstr
              have hsz4 : ((⟨#[92, 120]⟩ : ByteArray) ++ X1 ++ X2).size = 4 := by rw [hstr]; rfl
              have HSZ4 := hidden hsz4
              have HH := hidden (And.intro hH hD)
              have S1 := hidden (bldStr_any g g _ ((⟨#[92, 120]⟩ : ByteArray) ++ X1 ++ X2) wr.drew (bld_below hb.out (Below.refl _ _).drew) (by rw [HSZ4.out]; omega) (by have := HBL.out.size; show g ≤ wr.heap.size; omega))
              have z1 : X1.size = 1 := by rw [← hX1]; exact ext_one hH16
              have z2 : X2.size = 1 := by rw [← hX2]; exact ext_one hD16
              have fD2 : bits .and .u8 (b.toNat : Int) 15 = (D : Int) := by rw [and15 b, hD]
              clear hH hD hstr hsz4
              go_wp2_with fail
              go_region_held3 (fun w' => True) (trivial) (first | (go_at_call 74; refine S1.out.mono ?_; rintro e w6 ⟨rfl, hb6, hbl6, _⟩))
              have hby : Lib.byteCells (34 :: quoL (v.data.toList.take k)) ++ Lib.strCells ((⟨#[92, 120]⟩ : ByteArray) ++ X1 ++ X2) = Lib.byteCells (34 :: quoL (v.data.toList.take (k + 1))) := by
                have e2 : quoB b = [92, 120, hexD H, hexD D] := by unfold quoB; rw [if_neg (by omega), if_neg (by omega), HH.out.1, HH.out.2]
                rw [HSTR.out, hT.out, quoL_snoc, e2, ← List.cons_append, Lib.byteCells_append, strCells_list]
              rw [hby] at hb6
              have HB6 : Hid (Lib.IsBuilder 137 5 g g (Lib.byteCells (34 :: quoL (v.data.toList.take (k + 1)))) w6) := .inr hb6
              have HBL6 := hidden (HBL.out.trans ((Below.refl _ _).drew.trans hbl6))
              clear hb6 hbl6 hby S1
              go_wp2_with fail
              go_roundw
              case rel => exact ⟨k + 1, by go_num, by omega, HB6, HBL6.out⟩
              case measure => simp [intOf]; omega
    · obtain rfl : k = v.size := by omega
      have k1 : ¬ (v.size : Int) < (v.size : Int) := by omega
      have hfull : v.data.toList.take v.size = v.data.toList := List.take_of_length_le (Nat.le_refl _)
      rw [hfull] at hb hql
      have hbl3 : (Lib.byteCells (34 :: quoL v.data.toList)).length ≤ 4 * v.size + 1 := by
        rw [Lib.byteCells_length, List.length_cons]
        have : v.data.toList.length = v.size := rfl
        omega
      go_wp2_with fail
      refine (bldByte_any g g _ 34 wr hb.out (by omega) (by have := HBL.out.size; omega)).mono ?_
      rintro e w6 ⟨rfl, hb6, hbl6, _⟩
      have hby : Lib.byteCells (34 :: quoL v.data.toList) ++ [.int .u8 34] = Lib.byteCells (quoteL v.data.toList) := by
        rw [quoteL, ← List.cons_append, Lib.byteCells_append]; rfl
      rw [hby] at hb6
      have HB6 := hidden hb6
      have HBL6 := hidden (HBL.out.trans hbl6)
      clear hb6 hbl6 hby
      go_wp2_with fail
      refine (bldString_any g g (quoteL v.data.toList) w6 (.inr HB6.out) (by simp [quoteL])).mono ?_
      rintro e w7 ⟨rfl, hbl7⟩
      have HBL7 := hidden (HBL6.out.trans hbl7)
      clear hbl7
      go_wp2_with fail
      go_ret
      subst hg
      exact ⟨rfl, HBL7.out⟩
end Go.Proofs.YtalnndenncnbdaaGreat
