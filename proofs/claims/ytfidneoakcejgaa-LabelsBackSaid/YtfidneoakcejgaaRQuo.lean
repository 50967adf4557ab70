/- The reference's Quote, walked: a text in quotation marks. Condition: the text is within the reach. -/
import Derived.Test.YtfidneoakcejgaaQuo
import Derived.Test.YtfidneoakcejgaaUintR
import Derived.IntWalk
namespace Go.Proofs.Ytfidneoakcejgaa
set_option maxRecDepth 100000
open Go.RowKit

theorem fresh_byte (w : World) (b : UInt8) : (w.alloc (.cells #[.int .u8 (b.toNat : Int)] 5)).ownsRow w.heap.size 5 1 (.slice (some ⟨w.heap.size, 0, none⟩) 1 1) 1 (Lib.byteCells [b]) :=
  ⟨rfl, .inr ⟨w.heap.size, 1, #[.int .u8 (b.toNat : Int)], rfl, Nat.le_refl _, Array.getElem?_push_size, Nat.le_refl _, by unfold maxLen; omega, rfl, by rw [bytes_one]; rfl⟩⟩
theorem rdigit_any (n : Nat) (w : World) (hn : n < 16) :
    Calls Try.prog 64 #[.int .u8 n] w fun e w' => e = .returned (.string ⟨[hexD n].toArray⟩) ∧ Below w.heap.size w w' := by
  have hC := bytes_back (fresh_byte w (hexD n)) rfl (by simp)
  have hb : Below w.heap.size w (w.alloc (.cells #[.int .u8 ((hexD n).toNat : Int)] 5)) := (Below.refl _ _).alloc (Nat.le_refl _) _
  by_cases h : n < 10
  · have h1 : (n : Int) < 10 := by omega
    have e : IntKind.u8.wrap (48 + (n : Int)) = 48 + (n : Int) := by rw [IntKind.wrap_u8']; omega
    have e3 : ((hexD n).toNat : Int) = 48 + (n : Int) := by unfold hexD; rw [if_pos h]; simp; omega
    rw [e3] at hC hb
    have HB := hidden hb
    clear e3 hb
    go_enter Try.func64, Try.ntmps64
    go_wp2_with fail
    go_ret
    exact ⟨rfl, HB.out⟩
  · have h1 : ¬ (n : Int) < 10 := by omega
    have e : IntKind.u8.wrap (97 + (n : Int)) = 97 + (n : Int) := by rw [IntKind.wrap_u8']; omega
    have e2 : IntKind.u8.wrap (97 + (n : Int) - 10) = 87 + (n : Int) := by rw [IntKind.wrap_u8']; omega
    have e3 : ((hexD n).toNat : Int) = 87 + (n : Int) := by unfold hexD; rw [if_neg h]; simp; omega
    rw [e3] at hC hb
    have HB := hidden hb
    clear e3 hb
    go_enter Try.func64, Try.ntmps64
    go_wp2_with fail
    go_ret
    exact ⟨rfl, HB.out⟩

theorem str_app (a b : List UInt8) : (⟨a.toArray⟩ : ByteArray) ++ ⟨b.toArray⟩ = ⟨(a ++ b).toArray⟩ := bytes_eq (by simp)
theorem str_sub {v : ByteArray} {k : Nat} {b : UInt8} (h : v.data.toList[k]? = some b) : v.extract k (k + 1) = ⟨[b].toArray⟩ := bytes_eq (by
  have hk := (List.getElem?_eq_some_iff.1 h).1
  rw [ByteArray.data_extract, Array.toList_extract]
  simp only [List.extract]
  rw [show k + 1 - k = 1 by omega, List.drop_eq_getElem_cons hk, List.take_succ_cons, List.take_zero, (List.getElem?_eq_some_iff.1 h).2])

set_option maxHeartbeats 6400000 in
theorem rquote_any (v : ByteArray) (w : World) (hv : v.size * 4 + 2 ≤ 140737488355328) :
    Calls Try.prog 29 #[.string v] w fun e w' => e = .returned (.string ⟨(quoteL v.data.toList).toArray⟩) ∧ Below w.heap.size w w' := by
  go_enter Try.func29, Try.ntmps29
  go_wp2_with fail
  go_loopw [3, 4] (fun vs vi wr => ∃ (k : Nat) (s : ByteArray), vi = .int .i64 k ∧ k ≤ v.size ∧ vs = .string s ∧ Hid (s = ⟨(34 :: quoL (v.data.toList.take k)).toArray⟩) ∧ s.size ≤ 4 * k + 1 ∧ Below w.heap.size w wr) (fun _ vi _ => v.size - (intOf vi).toNat)
  case atStart => exact ⟨0, _, rfl, Nat.zero_le _, rfl, rfl, by decide, Below.refl _ _⟩
  case round =>
    obtain ⟨k, s, rfl, hk, rfl, hs, hsz, hb⟩ := hrel
    have k0 : (0 : Int) ≤ (k : Int) := by omega
    have HB := hidden hb
    clear hb
    by_cases hlt : k < v.size
    · have k1 : (k : Int) < (v.size : Int) := by omega
      obtain ⟨b, hbe, hbat⟩ := str_at hlt
      have hT := hidden (take_snoc? hbat)
      have h256 := size_lt b
      have HAT := hidden hbat
      clear hbat
      by_cases h3 : 32 ≤ b.toNat ∧ b.toNat ≤ 126
      · have i32 : ¬ (b.toNat : Int) < 32 := by omega
        have i126 : decide (126 < (b.toNat : Int)) = false := by simp; omega
        have kk1 : (k : Int) ≤ (k : Int) + 1 := by omega
        have kk2 : (k : Int) + 1 ≤ (v.size : Int) := by omega
        have kk3 : ((k : Int) + 1).toNat = k + 1 := by omega
        have kk4 : IntKind.i64.wrap ((k : Int) + 1) = (k : Int) + 1 := Go.IntWalk.i64_in _ (by omega)
        obtain ⟨X, hX⟩ : ∃ X, v.extract k (k + 1) = X := ⟨_, rfl⟩
        have HX : Hid (X = ⟨[b].toArray⟩) := by rw [Hid, ← hX]; exact str_sub HAT.out
        have z1 : X.size = 1 := by rw [HX.out]; rfl
        by_cases h1 : b.toNat = 34 ∨ b.toNat = 92
        · have HQ := hidden h1
          have hee : ((b.toNat : Int) == 34) = true ∨ (((b.toNat : Int) == 34) = false ∧ ((b.toNat : Int) == 92) = true) := by
            rcases h1 with h | h
            · exact .inl (by simp [h])
            · exact .inr ⟨by simp [h], by simp [h]⟩
          clear h1
          have hs2 : Hid (s ++ ⟨#[92]⟩ ++ X = ⟨(34 :: quoL (v.data.toList.take (k + 1))).toArray⟩) := by
            have e2 : quoB b = [92] ++ [b] := by unfold quoB; rw [if_pos HQ.out]; rfl
            rw [Hid, hs.out, HX.out, hT.out, quoL_snoc, e2]
            exact bytes_eq (by simp)
          have hz2 : (s ++ ⟨#[92]⟩ ++ X).size ≤ 4 * (k + 1) + 1 := by rw [ByteArray.size_append, ByteArray.size_append, z1, show (⟨#[92]⟩ : ByteArray).size = 1 from rfl]; omega
          have HZ2 := hidden hz2
          clear hz2
          rcases hee with e34 | ⟨e34, e92⟩
          all_goals
            go_wp2_with fail
            go_roundw
            case rel => exact ⟨k + 1, _, by go_num, by omega, rfl, hs2, HZ2.out, HB.out⟩
            case measure => simp [intOf]; omega
        · have e34 : ((b.toNat : Int) == 34) = false := by simp; omega
          have e92 : ((b.toNat : Int) == 92) = false := by simp; omega
          have hs2 : Hid (s ++ X = ⟨(34 :: quoL (v.data.toList.take (k + 1))).toArray⟩) := by
            have e2 : quoB b = [b] := by unfold quoB; rw [if_neg h1, if_pos h3]
            rw [Hid, hs.out, HX.out, hT.out, quoL_snoc, e2]
            exact bytes_eq (by simp)
          have HZ2 : Hid ((s ++ X).size ≤ 4 * (k + 1) + 1) := by rw [Hid, ByteArray.size_append, z1]; omega
          clear h1
          go_wp2_with fail
          go_roundw
          case rel => exact ⟨k + 1, _, by go_num, by omega, rfl, hs2, HZ2.out, HB.out⟩
          case measure => simp [intOf]; omega
      · have hlow : (b.toNat : Int) < 32 ∨ (¬ (b.toNat : Int) < 32 ∧ (126 : Int) < (b.toNat : Int)) := by omega
        obtain ⟨H, hH⟩ : ∃ H, b.toNat / 16 = H := ⟨_, rfl⟩
        obtain ⟨D, hD⟩ : ∃ D, b.toNat % 16 = D := ⟨_, rfl⟩
        have fH : (b.toNat : Int) / 16 = (H : Int) := by omega
        have fD : (b.toNat : Int) % 16 = (D : Int) := by omega
        have hH16 : H < 16 := by omega
        have hD16 : D < 16 := by omega
        have S1 := hidden (rdigit_any H wr hH16)
        have S2 := hidden (fun W => rdigit_any D W hD16)
        have hs2 : Hid (s ++ ⟨#[92, 120]⟩ ++ ⟨[hexD H].toArray⟩ ++ ⟨[hexD D].toArray⟩ = ⟨(34 :: quoL (v.data.toList.take (k + 1))).toArray⟩) := by
          have e2 : quoB b = [92, 120] ++ [hexD H] ++ [hexD D] := by unfold quoB; rw [if_neg (by omega), if_neg h3, hH, hD]; rfl
          rw [Hid, hs.out, hT.out, quoL_snoc, e2]
          exact bytes_eq (by simp)
        obtain ⟨X1, hX1⟩ : ∃ X, (⟨[hexD H].toArray⟩ : ByteArray) = X := ⟨_, rfl⟩
        obtain ⟨X2, hX2⟩ : ∃ X, (⟨[hexD D].toArray⟩ : ByteArray) = X := ⟨_, rfl⟩
        have z1 : X1.size = 1 := by rw [← hX1]; rfl
        have z2 : X2.size = 1 := by rw [← hX2]; rfl
        rw [hX1] at S1
        rw [hX2] at S2
        rw [hX1, hX2] at hs2
        have HZ2 : Hid ((s ++ ⟨#[92, 120]⟩ ++ X1 ++ X2).size ≤ 4 * (k + 1) + 1) := by rw [Hid, ByteArray.size_append, ByteArray.size_append, ByteArray.size_append, z1, z2, show (⟨#[92, 120]⟩ : ByteArray).size = 2 from rfl]; omega
        clear hX1 hX2 h3 hH hD
        rcases hlow with i32 | ⟨i32, i126⟩
        all_goals
          go_wp2_with fail
          refine S1.out.mono ?_
          rintro e w2 ⟨rfl, b2⟩
          go_wp2_with fail
          refine (S2.out w2).mono ?_
          rintro e w3 ⟨rfl, b3⟩
          have HB3 := hidden (HB.out.trans ((b2.trans (b3.mono b2.size)).mono HB.out.size))
          clear b2 b3
          go_wp2_with fail
          go_roundw
          case rel => exact ⟨k + 1, _, by go_num, by omega, rfl, hs2, HZ2.out, HB3.out⟩
          case measure => simp [intOf]; omega
    · obtain rfl : k = v.size := by omega
      have k1 : ¬ (v.size : Int) < (v.size : Int) := by omega
      have hfin : Hid (s ++ ⟨#[34]⟩ = ⟨(quoteL v.data.toList).toArray⟩) := by
        have hfull : v.data.toList.take v.size = v.data.toList := List.take_of_length_le (show v.data.toList.length ≤ v.size from Nat.le_refl _)
        rw [Hid, hs.out, hfull]
        exact bytes_eq (by simp [quoteL])
      go_wp2_with fail
      go_ret
      rw [hfin.out]
      exact ⟨rfl, HB.out⟩
end Go.Proofs.Ytfidneoakcejgaa
