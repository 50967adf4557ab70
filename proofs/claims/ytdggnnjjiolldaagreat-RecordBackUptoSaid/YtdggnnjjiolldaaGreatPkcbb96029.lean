/- labels.fitName, fitValue and the reference's: what is a name, a value. Condition: the text is within the reach. Labels as they lie. No condition. slices.IndexFunc and slices.ContainsFunc at labels, whatever predicate: what they return. Condition: the predicate has a contract, the row is within the reach. -/
import Derived.Test.YtdggnnjjiolldaaGreatPk29c004a0
import Derived.Test.YtdggnnjjiolldaaGreatBase
import Derived.Test.YtdggnnjjiolldaaGreatPk8f010924
namespace Go.Proofs.YtdggnnjjiolldaaGreat
set_option maxRecDepth 100000
open Go.RowKit

theorem or32 : ∀ n : Fin 256, (decide (bits .or .u8 ((n.val : Nat) : Int) 32 < 97) || decide (122 < bits .or .u8 ((n.val : Nat) : Int) 32)) = !((decide (97 ≤ n.val) && decide (n.val ≤ 122)) || (decide (65 ≤ n.val) && decide (n.val ≤ 90))) := by decide +kernel
theorem str_at {s : ByteArray} {i : Nat} (h : i < s.size) : ∃ b : UInt8, s[i]'h = b ∧ s.data.toList[i]? = some b := ⟨_, rfl, by
  have h2 : i < s.data.toList.length := h
  rw [List.getElem?_eq_getElem h2]; rfl⟩
theorem size_lt (b : UInt8) : b.toNat < 256 := b.toNat_lt
/-- what the places of b say, as the walk asks it -/
theorem b_or (b : UInt8) : (decide (bits .or .u8 (b.toNat : Int) 32 < 97) || decide (122 < bits .or .u8 (b.toNat : Int) 32)) = !((decide (97 ≤ b.toNat) && decide (b.toNat ≤ 122)) || (decide (65 ≤ b.toNat) && decide (b.toNat ≤ 90))) := or32 ⟨b.toNat, b.toNat_lt⟩

set_option maxHeartbeats 1600000 in
theorem fitName_any (s : ByteArray) (w : World) (hs : s.size < 9223372036854775000) :
    Calls Tryz.prog 52 #[.string s] w fun e w' => e = .returned (.bool (fitN s)) ∧ w = w' := by
  go_enter Tryz.func52, Tryz.ntmps52
  go_wp2_with fail
  go_loopw [7] (fun vi wr => ∃ k : Nat, k ≤ s.size ∧ vi = .int .i64 k ∧ Hid (namesUpto s.data.toList k) ∧ wr = w) (fun vi _ => s.size - (intOf vi).toNat)
  case atStart => exact ⟨0, Nat.zero_le _, rfl, namesUpto_zero _, rfl⟩
  case round =>
    obtain ⟨k, hk, rfl, hno, rfl⟩ := hrel
    have k0 : (0 : Int) ≤ (k : Int) := by omega
    by_cases hlt : k < s.size
    · have k1 : (k : Int) < (s.size : Int) := by omega
      obtain ⟨b, hb, hbl⟩ := str_at hlt
      have HB := hidden hbl
      have hor := b_or b
      have h256 := size_lt b
      clear hbl
      by_cases hd : 48 ≤ b.toNat ∧ b.toNat ≤ 57
      · have d0 : (48 : Int) ≤ (b.toNat : Int) := by omega
        have d1 : (b.toNat : Int) ≤ 57 := by omega
        by_cases hk0 : k = 0
        · subst hk0
          have nb : ((b.toNat : Int) != 95) = true := by simp; omega
          have hlet : (!((decide (97 ≤ b.toNat) && decide (b.toNat ≤ 122)) || (decide (65 ≤ b.toNat) && decide (b.toNat ≤ 90)))) = true := by simp; omega
          rw [hlet] at hor
          have hF := hidden (fitN_no hlt HB.out (show nameB 0 b = false by simp [nameB, letterB]; omega))
          clear hd hlet
          go_wp2_with fail
          all_goals go_ret
          all_goals exact ⟨ret_bool hF.out.symm, rfl⟩
        · have kp : (0 : Int) < (k : Int) := by omega
          have hN := hidden (namesUpto_succ hno.out HB.out (show nameB k b = true by simp [nameB, digitB, hd, hk0]))
          clear hor hd
          go_wp2_with fail
          all_goals go_roundw
          case rel => exact ⟨k + 1, by omega, by go_num, hN, trivial⟩
          case measure => simp [intOf]; omega
      · by_cases h95 : b.toNat = 95
        · have nb : ((b.toNat : Int) != 95) = false := by simp; omega
          have hN := hidden (namesUpto_succ hno.out HB.out (show nameB k b = true by simp [nameB, letterB, h95]))
          have d0 : (48 : Int) ≤ (b.toNat : Int) := by omega
          have d1 : ¬ (b.toNat : Int) ≤ 57 := by omega
          clear hor hd
          go_wp2_with fail
          all_goals go_roundw
          case rel => exact ⟨k + 1, by omega, by go_num, hN, trivial⟩
          case measure => simp [intOf]; omega
        · have nb : ((b.toNat : Int) != 95) = true := by simp; omega
          have hdd : (48 : Int) ≤ (b.toNat : Int) ∧ (decide ((b.toNat : Int) ≤ 57) = false) ∨ ¬ (48 : Int) ≤ (b.toNat : Int) := by
            by_cases h48 : 48 ≤ b.toNat
            · exact .inl ⟨by omega, by simp; omega⟩
            · exact .inr (by omega)
          cases hl : ((decide (97 ≤ b.toNat) && decide (b.toNat ≤ 122)) || (decide (65 ≤ b.toNat) && decide (b.toNat ≤ 90))) with
          | true =>
            rw [hl, Bool.not_true, Bool.or_eq_false_iff] at hor
            obtain ⟨o1, o2⟩ := hor
            have hN := hidden (namesUpto_succ hno.out HB.out (show nameB k b = true by simp [nameB, letterB, hl]))
            have HD := hidden hdd
            clear hd h95 hl hdd
            rcases HD.out with ⟨d0, d1⟩ | d0
            all_goals
              go_wp2_with fail
              go_roundw
              case rel => exact ⟨k + 1, by omega, by go_num, hN, trivial⟩
              case measure => simp [intOf]; omega
          | false =>
            rw [hl, Bool.not_false] at hor
            have hdg : digitB b = false := by simp [digitB]; omega
            have hF := hidden (fitN_no hlt HB.out (show nameB k b = false by simp [nameB, letterB, hl, h95, hdg]))
            have HD := hidden hdd
            clear hd h95 hl hdd hdg
            rcases HD.out with ⟨d0, d1⟩ | d0
            all_goals
              go_wp2_with fail
              all_goals go_ret
              all_goals exact ⟨ret_bool hF.out.symm, rfl⟩
    · obtain rfl : k = s.size := by omega
      have hF := hidden (fitN_end hno.out)
      have k1 : ¬ (s.size : Int) < (s.size : Int) := by omega
      by_cases he : s.size = 0
      · have hse : s = ⟨#[]⟩ := by
          have : s.data.size = 0 := he
          exact congrArg ByteArray.mk (Array.eq_empty_of_size_eq_zero this)
        subst hse
        go_wp2_with fail
        go_ret
        rw [hF.out]
        exact ⟨rfl, rfl⟩
      · have hne : s.toList.isEmpty = false := by
          rw [Lib.toList_data, List.isEmpty_eq_false_iff]
          intro e
          exact he (congrArg List.length e)
        have hd : decide ((s.size : Int) ≤ 32) = decide (s.size ≤ 32) := decide_eq_decide.2 (by omega)
        have hone : decide (1 ≤ s.size) = true := decide_eq_true (by omega)
        rw [hone, Bool.true_and] at hF
        clear hone
        go_wp2_with fail
        go_ret
        rw [hF.out]
        exact ⟨rfl, rfl⟩
/-- labels.fitValue -/
theorem fitValue_any (s : ByteArray) (w : World) (hs : s.size < 9223372036854775000) :
    Calls Tryz.prog 53 #[.string s] w fun e w' => e = .returned (.bool (fitV s)) ∧ w = w' := by
  by_cases he : s.size = 0
  · have hse : s = ⟨#[]⟩ := by
      have : s.data.size = 0 := he
      exact congrArg ByteArray.mk (Array.eq_empty_of_size_eq_zero this)
    subst hse
    go_enter Tryz.func53, Tryz.ntmps53
    go_wp2_with fail
    go_ret
    exact ⟨rfl, rfl⟩
  · have hne : s.toList.isEmpty = false := by
      rw [Lib.toList_data, List.isEmpty_eq_false_iff]
      intro e
      exact he (congrArg List.length e)
    have hF : fitV s = decide (s.size ≤ 64) := by
      unfold fitV
      exact decide_eq_decide.2 ⟨fun h => h.2, fun h => ⟨by omega, h⟩⟩
    rw [hF]
    clear hF
    go_enter Tryz.func53, Tryz.ntmps53
    go_wp2_with fail
    go_ret
    exact ⟨ret_bool (decide_eq_decide.2 (by omega)), rfl⟩
theorem rfitValue_any (s : ByteArray) (w : World) (hs : s.size < 9223372036854775000) :
    Calls Tryz.prog 68 #[.string s] w fun e w' => e = .returned (.bool (fitV s)) ∧ w = w' := by
  by_cases he : s.size = 0
  · have hF : fitV s = false := decide_eq_false fun h => by omega
    have h1 : ¬ (1 : Int) ≤ (s.size : Int) := by omega
    rw [hF]
    go_enter Tryz.func68, Tryz.ntmps68
    go_wp2_with fail
    go_ret
    exact ⟨rfl, rfl⟩
  · have h1 : (1 : Int) ≤ (s.size : Int) := by omega
    have hF : fitV s = decide (s.size ≤ 64) := by
      unfold fitV
      exact decide_eq_decide.2 ⟨fun h => h.2, fun h => ⟨by omega, h⟩⟩
    rw [hF]
    clear hF
    go_enter Tryz.func68, Tryz.ntmps68
    go_wp2_with fail
    go_ret
    exact ⟨ret_bool (decide_eq_decide.2 (by omega)), rfl⟩

set_option maxHeartbeats 3200000 in
theorem rfitName_any (s : ByteArray) (w : World) (hs : s.size < 9223372036854775000) :
    Calls Tryz.prog 67 #[.string s] w fun e w' => e = .returned (.bool (fitN s)) ∧ w = w' := by
  go_enter Tryz.func67, Tryz.ntmps67
  go_wp2_with fail
  go_loopw [3] (fun vi wr => ∃ k : Nat, k ≤ s.size ∧ vi = .int .i64 k ∧ Hid (namesUpto s.data.toList k) ∧ wr = w) (fun vi _ => s.size - (intOf vi).toNat)
  case atStart => exact ⟨0, Nat.zero_le _, rfl, namesUpto_zero _, rfl⟩
  case round =>
    obtain ⟨k, hk, rfl, hno, rfl⟩ := hrel
    have k0 : (0 : Int) ≤ (k : Int) := by omega
    by_cases hlt : k < s.size
    · have k1 : (k : Int) < (s.size : Int) := by omega
      obtain ⟨b, hb, hbl⟩ := str_at hlt
      have HB := hidden hbl
      have h256 := size_lt b
      clear hbl
      have hcl : b.toNat < 48 ∨ (48 ≤ b.toNat ∧ b.toNat ≤ 57) ∨ (58 ≤ b.toNat ∧ b.toNat ≤ 64) ∨ (65 ≤ b.toNat ∧ b.toNat ≤ 90) ∨ (91 ≤ b.toNat ∧ b.toNat ≤ 94) ∨ b.toNat = 95 ∨ b.toNat = 96 ∨ (97 ≤ b.toNat ∧ b.toNat ≤ 122) ∨ 123 ≤ b.toNat := by omega
      rcases hcl with hc | hc | hc | hc | hc | hc | hc | hc | hc
      · have t97 : decide ((97 : Int) ≤ (b.toNat : Int)) = false := by simp; omega
        have t122 : (b.toNat : Int) ≤ 122 := by omega
        have t65 : decide ((65 : Int) ≤ (b.toNat : Int)) = false := by simp; omega
        have t90 : (b.toNat : Int) ≤ 90 := by omega
        have t48 : decide ((48 : Int) ≤ (b.toNat : Int)) = false := by simp; omega
        have t57 : (b.toNat : Int) ≤ 57 := by omega
        have t95 : ((b.toNat : Int) == 95) = false := by simp; omega
        have hF := hidden (fitN_no hlt HB.out (show nameB k b = false by simp [nameB, letterB, digitB]; omega))
        clear hc
        go_wp2_with fail
        go_ret
        exact ⟨ret_bool hF.out.symm, rfl⟩
      · have t97 : decide ((97 : Int) ≤ (b.toNat : Int)) = false := by simp; omega
        have t122 : (b.toNat : Int) ≤ 122 := by omega
        have t65 : decide ((65 : Int) ≤ (b.toNat : Int)) = false := by simp; omega
        have t90 : (b.toNat : Int) ≤ 90 := by omega
        have t48 : (48 : Int) ≤ (b.toNat : Int) := by omega
        have t57 : (b.toNat : Int) ≤ 57 := by omega
        have t95 : ((b.toNat : Int) == 95) = false := by simp; omega
        by_cases hk0 : k = 0
        · subst hk0
          have hF := hidden (fitN_no hlt HB.out (show nameB 0 b = false by simp [nameB, letterB, digitB]; omega))
          clear hc
          go_wp2_with fail
          go_ret
          exact ⟨ret_bool hF.out.symm, rfl⟩
        · have hkz : ((k : Int) == 0) = false := by simp; omega
          have hN := hidden (namesUpto_succ hno.out HB.out (show nameB k b = true by simp [nameB, letterB, digitB]; omega))
          clear hc
          go_wp2_with fail
          go_roundw
          case rel => exact ⟨k + 1, by omega, by go_num, hN, trivial⟩
          case measure => simp [intOf]; omega
      · have t97 : decide ((97 : Int) ≤ (b.toNat : Int)) = false := by simp; omega
        have t122 : (b.toNat : Int) ≤ 122 := by omega
        have t65 : decide ((65 : Int) ≤ (b.toNat : Int)) = false := by simp; omega
        have t90 : (b.toNat : Int) ≤ 90 := by omega
        have t48 : (48 : Int) ≤ (b.toNat : Int) := by omega
        have t57 : decide ((b.toNat : Int) ≤ 57) = false := by simp; omega
        have t95 : ((b.toNat : Int) == 95) = false := by simp; omega
        have hF := hidden (fitN_no hlt HB.out (show nameB k b = false by simp [nameB, letterB, digitB]; omega))
        clear hc
        go_wp2_with fail
        go_ret
        exact ⟨ret_bool hF.out.symm, rfl⟩
      · have t97 : decide ((97 : Int) ≤ (b.toNat : Int)) = false := by simp; omega
        have t122 : (b.toNat : Int) ≤ 122 := by omega
        have t65 : (65 : Int) ≤ (b.toNat : Int) := by omega
        have t90 : (b.toNat : Int) ≤ 90 := by omega
        have t48 : (48 : Int) ≤ (b.toNat : Int) := by omega
        have t57 : decide ((b.toNat : Int) ≤ 57) = false := by simp; omega
        have t95 : ((b.toNat : Int) == 95) = false := by simp; omega
        have hN := hidden (namesUpto_succ hno.out HB.out (show nameB k b = true by simp [nameB, letterB, digitB]; omega))
        clear hc
        go_wp2_with fail
        go_roundw
        case rel => exact ⟨k + 1, by omega, by go_num, hN, trivial⟩
        case measure => simp [intOf]; omega
      · have t97 : decide ((97 : Int) ≤ (b.toNat : Int)) = false := by simp; omega
        have t122 : (b.toNat : Int) ≤ 122 := by omega
        have t65 : (65 : Int) ≤ (b.toNat : Int) := by omega
        have t90 : decide ((b.toNat : Int) ≤ 90) = false := by simp; omega
        have t48 : (48 : Int) ≤ (b.toNat : Int) := by omega
        have t57 : decide ((b.toNat : Int) ≤ 57) = false := by simp; omega
        have t95 : ((b.toNat : Int) == 95) = false := by simp; omega
        have hF := hidden (fitN_no hlt HB.out (show nameB k b = false by simp [nameB, letterB, digitB]; omega))
        clear hc
        go_wp2_with fail
        go_ret
        exact ⟨ret_bool hF.out.symm, rfl⟩
      · have t97 : decide ((97 : Int) ≤ (b.toNat : Int)) = false := by simp; omega
        have t122 : (b.toNat : Int) ≤ 122 := by omega
        have t65 : (65 : Int) ≤ (b.toNat : Int) := by omega
        have t90 : decide ((b.toNat : Int) ≤ 90) = false := by simp; omega
        have t48 : (48 : Int) ≤ (b.toNat : Int) := by omega
        have t57 : decide ((b.toNat : Int) ≤ 57) = false := by simp; omega
        have t95 : ((b.toNat : Int) == 95) = true := by simp; omega
        have hN := hidden (namesUpto_succ hno.out HB.out (show nameB k b = true by simp [nameB, letterB, digitB]; omega))
        clear hc
        go_wp2_with fail
        go_roundw
        case rel => exact ⟨k + 1, by omega, by go_num, hN, trivial⟩
        case measure => simp [intOf]; omega
      · have t97 : decide ((97 : Int) ≤ (b.toNat : Int)) = false := by simp; omega
        have t122 : (b.toNat : Int) ≤ 122 := by omega
        have t65 : (65 : Int) ≤ (b.toNat : Int) := by omega
        have t90 : decide ((b.toNat : Int) ≤ 90) = false := by simp; omega
        have t48 : (48 : Int) ≤ (b.toNat : Int) := by omega
        have t57 : decide ((b.toNat : Int) ≤ 57) = false := by simp; omega
        have t95 : ((b.toNat : Int) == 95) = false := by simp; omega
        have hF := hidden (fitN_no hlt HB.out (show nameB k b = false by simp [nameB, letterB, digitB]; omega))
        clear hc
        go_wp2_with fail
        go_ret
        exact ⟨ret_bool hF.out.symm, rfl⟩
      · have t97 : (97 : Int) ≤ (b.toNat : Int) := by omega
        have t122 : (b.toNat : Int) ≤ 122 := by omega
        have t65 : (65 : Int) ≤ (b.toNat : Int) := by omega
        have t90 : decide ((b.toNat : Int) ≤ 90) = false := by simp; omega
        have t48 : (48 : Int) ≤ (b.toNat : Int) := by omega
        have t57 : decide ((b.toNat : Int) ≤ 57) = false := by simp; omega
        have t95 : ((b.toNat : Int) == 95) = false := by simp; omega
        have hN := hidden (namesUpto_succ hno.out HB.out (show nameB k b = true by simp [nameB, letterB, digitB]; omega))
        clear hc
        go_wp2_with fail
        go_roundw
        case rel => exact ⟨k + 1, by omega, by go_num, hN, trivial⟩
        case measure => simp [intOf]; omega
      · have t97 : (97 : Int) ≤ (b.toNat : Int) := by omega
        have t122 : decide ((b.toNat : Int) ≤ 122) = false := by simp; omega
        have t65 : (65 : Int) ≤ (b.toNat : Int) := by omega
        have t90 : decide ((b.toNat : Int) ≤ 90) = false := by simp; omega
        have t48 : (48 : Int) ≤ (b.toNat : Int) := by omega
        have t57 : decide ((b.toNat : Int) ≤ 57) = false := by simp; omega
        have t95 : ((b.toNat : Int) == 95) = false := by simp; omega
        have hF := hidden (fitN_no hlt HB.out (show nameB k b = false by simp [nameB, letterB, digitB]; omega))
        clear hc
        go_wp2_with fail
        go_ret
        exact ⟨ret_bool hF.out.symm, rfl⟩
    · obtain rfl : k = s.size := by omega
      have hF := hidden (fitN_end hno.out)
      have k1 : ¬ (s.size : Int) < (s.size : Int) := by omega
      by_cases he : s.size = 0
      · have h1 : ¬ (1 : Int) ≤ (s.size : Int) := by omega
        have hF2 : Hid (fitN s = false) := by rw [Hid, hF.out, decide_eq_false (by omega), Bool.false_and]
        go_wp2_with fail
        go_ret
        rw [hF2.out]
        exact ⟨rfl, rfl⟩
      · have h1 : (1 : Int) ≤ (s.size : Int) := by omega
        have hF2 : Hid (fitN s = decide (s.size ≤ 32)) := by rw [Hid, hF.out, decide_eq_true (show 1 ≤ s.size by omega), Bool.true_and]
        go_wp2_with fail
        go_ret
        rw [hF2.out]
        exact ⟨ret_bool (decide_eq_decide.2 (by omega)), rfl⟩
end Go.Proofs.YtdggnnjjiolldaaGreat

namespace Go.Proofs.YtdggnnjjiolldaaGreat
set_option maxRecDepth 100000
open Go.RowKit

/-- labels as they lie -/
structure LbF (w : World) (A : Option Addr) (n : Nat) (l : List Lbl) : Prop where
  row : Row w w.heap.size 2 A n (l.flatMap Lbl.cells)
  len : l.length = n
  fit : n * 32 ≤ 140737488351232
  sz : ∀ x ∈ l, x.name.size ≤ 140737488355328 ∧ x.value.size ≤ 140737488355328
theorem LbF.on {w w' : World} {A : Option Addr} {n : Nat} {l : List Lbl} (h : LbF w A n l) (hb : Below w.heap.size w w') : LbF w' A n l := ⟨(h.row.below hb).more hb.size, h.len, h.fit, h.sz⟩
theorem lb_cells {w : World} {A : Option Addr} {n : Nat} {l : List Lbl} (h : LbF w A n l) {k : Nat} (hk : k < n) : ∃ g o x, A = some ⟨g, o, none⟩ ∧ g < w.heap.size ∧ l[k]? = some x ∧ w.cell? ⟨g, o + k * 2, none⟩ = some (.string x.name) ∧ w.cell? ⟨g, o + k * 2 + 1, none⟩ = some (.string x.value) ∧ x ∈ l := by
  obtain ⟨g, o, x, hA, hg, hx, hc⟩ := row_at (enc := Lbl.cells) (k := 2) (fun _ => rfl) h.row h.len k hk
  exact ⟨g, o, x, hA, hg, hx, hc 0 (by omega), hc 1 (by omega), List.mem_of_getElem? hx⟩
theorem take_lb : ∀ (l : List Lbl) (k : Nat), (l.flatMap Lbl.cells).take (k * 2) = (l.take k).flatMap Lbl.cells
  | [], k => by simp
  | x :: l, 0 => by simp
  | x :: l, k + 1 => by
    rw [show (k + 1) * 2 = k * 2 + 2 by omega, List.flatMap_cons, List.take_succ_cons, List.flatMap_cons, ← take_lb l k]
    rfl
theorem LbF.first {w : World} {A : Option Addr} {n : Nat} {l : List Lbl} (h : LbF w A n l) {k : Nat} (hk : k ≤ n) : Row w w.heap.size 2 A k ((l.take k).flatMap Lbl.cells) := by
  have hl := h.row.len
  rw [← take_lb]
  refine ⟨by rw [List.length_take]; omega, fun hn => ?_⟩
  obtain ⟨g, o, e, hb, hc⟩ := h.row.at_ (by omega)
  exact ⟨g, o, e, hb, fun j hj => by rw [hc j (by omega), List.getElem?_take_of_lt (by omega)]⟩
theorem str_eq (a b : ByteArray) : (a.toList == b.toList) = decide (a = b) := by
  rw [Lib.toList_data, Lib.toList_data]
  by_cases h : a = b
  · subst h; simp
  · rw [decide_eq_false h]
    exact beq_eq_false_iff_ne.2 fun e => h (bytes_eq e)
end Go.Proofs.YtdggnnjjiolldaaGreat

namespace Go.Proofs.YtdggnnjjiolldaaGreat.IdxLbl
set_option maxRecDepth 100000
open Go.RowKit

theorem hk (x : Lbl) : x.cells.length = 2 := rfl

/-- what is asked of a predicate -/
def PredOk (f : FuncId) (cb : Array Value) (p : Lbl → Bool) (l : List Lbl) (ok : World → Prop) : Prop :=
  ∀ x ∈ l, ∀ W, ok W → Calls Tryz.prog f (#[.agg #[.string x.name, .string x.value]] ++ cb) W fun e w2 => e = .returned (.bool (p x)) ∧ Below W.heap.size W w2
/-- where the first one is -/
def IdxRes (p : Lbl → Bool) (l : List Lbl) (r : Int) : Prop := (r = -1 ∧ ∀ x ∈ l, p x = false) ∨ ∃ (i : Nat) (x : Lbl), r = i ∧ l[i]? = some x ∧ p x = true ∧ ∀ y ∈ l.take i, p y = false

set_option maxHeartbeats 1600000 in
theorem index_any (A : Option Addr) (n c : Nat) (l : List Lbl) (f : FuncId) (cb : Array Value) (p : Lbl → Bool) (w : World) (eg : ∀ args w, (callFunc f args).run Tryz.prog w = .ok (.enter f args) w) (hp : PredOk f cb p l (fun W => Below w.heap.size w W)) (hr : Row w w.heap.size 2 A n (l.flatMap Lbl.cells)) (hl : l.length = n) (hn : n ≤ 4611686018427387904) :
    Calls Tryz.prog 74 #[.slice A n c, .func (.func f) #[] cb] w
      fun e w' => ∃ r : Int, e = .returned (.int .i64 r) ∧ IdxRes p l r ∧ Below w.heap.size w w' := by
  have hL := hidden hl
  have HR := hidden hr
  have HP := hidden hp
  clear hl hr hp
  go_enter Tryz.func74, Tryz.ntmps74
  go_wp2
  go_loopw [8] (fun i wr => ∃ k : Nat, k ≤ n ∧ i = .int .i64 k ∧ Hid (∀ y ∈ l.take k, p y = false) ∧ Below w.heap.size w wr) (fun i _ => n - (intOf i).toNat)
  case atStart => exact ⟨0, Nat.zero_le _, rfl, hidden (by simp), Below.refl _ _⟩
  case round =>
    obtain ⟨k, hk1, rfl, hall, hb⟩ := hrel
    by_cases hlt : k < n
    · obtain ⟨gs, o, x, rfl, hgs, hx, hcl⟩ := row_at hk (HR.out.below hb) hL.out k hlt
      have d0 : wr.cell? ⟨gs, o + k * 2, none⟩ = some (.string x.name) := hcl 0 (by omega)
      have d1 : wr.cell? ⟨gs, o + k * 2 + 1, none⟩ = some (.string x.value) := hcl 1 (by omega)
      have hcon := HP.out x (List.mem_of_getElem? hx) wr hb
      have hT := hidden (take_snoc? hx)
      have HX := hidden hx
      have HCON := hidden hcon
      have hltz : (k : Int) < (n : Int) := by omega
      have hk0 : (0 : Int) ≤ (k : Int) := by omega
      clear hx hcl hcon
      go_wp2_with fail
      refine HCON.out.mono ?_
      rintro e w1 ⟨rfl, hb1⟩
      have hB1 := hb.trans (hb1.mono hb.size)
      clear HCON hb1 d0 d1
      obtain ⟨b, hv⟩ : ∃ b, p x = b := ⟨_, rfl⟩
      rw [hv]
      have HV := hidden hv
      clear hv
      cases b with
      | false =>
        go_wp2_with fail
        go_roundw
        case rel => exact ⟨k + 1, by omega, by go_num, hidden (by
          intro y hy
          rw [hT.out] at hy
          rcases List.mem_append.1 hy with h | h
          · exact hall.out y h
          · rw [List.mem_singleton.1 h]; exact HV.out), hB1⟩
        case measure => simp [intOf]; omega
      | true =>
        go_wp2_with fail
        go_ret
        exact ⟨_, rfl, .inr ⟨k, x, rfl, HX.out, HV.out, hall.out⟩, hB1⟩
    · obtain rfl : n = k := by omega
      have hall2 := hall.out
      rw [List.take_of_length_le (by rw [hL.out]; exact Nat.le_refl _)] at hall2
      have HA := hidden hall2
      clear hall2
      go_wp2
      go_ret
      exact ⟨-1, rfl, .inl ⟨rfl, HA.out⟩, hb⟩


set_option maxHeartbeats 1600000 in
theorem contains_any (A : Option Addr) (n c : Nat) (l : List Lbl) (f : FuncId) (cb : Array Value) (p : Lbl → Bool) (w : World) (eg : ∀ args w, (callFunc f args).run Tryz.prog w = .ok (.enter f args) w) (hp : PredOk f cb p l (fun W => Below w.heap.size w W)) (hr : Row w w.heap.size 2 A n (l.flatMap Lbl.cells)) (hl : l.length = n) (hn : n ≤ 4611686018427387904) :
    Calls Tryz.prog 63 #[.slice A n c, .func (.func f) #[] cb] w
      fun e w' => e = .returned (.bool (l.any p)) ∧ Below w.heap.size w w' := by
  have S1 := hidden (index_any A n c l f cb p w eg hp hr hl hn)
  clear hp hr
  go_enter Tryz.func63, Tryz.ntmps63
  go_wp2_with fail
  refine S1.out.mono ?_
  rintro e w1 ⟨r, rfl, hres, hb⟩
  have HB := hidden hb
  have hd : l.any p = decide (0 ≤ r) := by
    rcases hres with ⟨rfl, h⟩ | ⟨i, x, rfl, hx, hpx, _⟩
    · rw [show decide ((0 : Int) ≤ -1) = false from rfl, List.any_eq_false]
      intro x hx
      rw [h x hx]; simp
    · rw [decide_eq_true (by omega), List.any_eq_true]
      exact ⟨x, List.mem_of_getElem? hx, hpx⟩
  have HD := hidden hd
  clear hb hres hd S1
  go_wp2_with fail
  go_ret
  exact ⟨ret_bool HD.out.symm, HB.out⟩
end Go.Proofs.YtdggnnjjiolldaaGreat.IdxLbl
