/- The reference's Encode, walked: the bytes of a set. Condition: the row is within the reach. -/
import Derived.Test.YtfidneoakcejgaaLEnc
namespace Go.Proofs.Ytfidneoakcejgaa
set_option maxRecDepth 100000
open Go.RowKit

theorem sizeB (l : List UInt8) : (⟨l.toArray⟩ : ByteArray).size = l.length := rfl

set_option maxHeartbeats 6400000 in
theorem renc_any (A : Option Addr) (n c : Nat) (l : List Lbl) (w : World) (h : LbF w A n l) :
    Calls Try.prog 42 #[.slice A n c] w fun e w' => e = .returned (.tuple #[.string (encL l).1, .int .i64 (encL l).2]) ∧ Below w.heap.size w w' := by
  have H := hidden h
  have S1 := hidden (makeRef A n c l w h)
  have S2 := hidden (fun W hW => rvalid_any A n c l W (h.on hW))
  clear h
  by_cases he : makeErr l = 0
  · rw [he] at S1
    by_cases hv : validP l
    · have HU := hidden (encL_ok hv)
      obtain ⟨hl8, hlx⟩ := valid_small hv
      have hn8 : n ≤ 8 := by have := H.out.len; omega
      have HLX := hidden hlx
      rw [decide_eq_true hv] at S2
      have hu : IntKind.u64.wrap (n : Int) = (n : Int) := Go.IntWalk.u64_in _ (by omega)
      have hut := uintL_ten (v := n) (by omega)
      clear hv he hlx hl8
      go_enter Try.func42, Try.ntmps42
      go_wp2_with fail
      refine S1.out.mono ?_
      rintro e w1 ⟨B1, c1, rfl, _, b1⟩
      have B1 := hidden b1
      have S3 := hidden (S2.out w1 b1)
      clear b1 S1 S2
      go_wp2_with fail
      refine S3.out.mono ?_
      rintro e w2 ⟨rfl, b2⟩
      have HB2 := hidden (B1.out.trans (b2.mono B1.out.size))
      clear b2 S3 B1
      go_wp2_with fail
      refine (uintR_any n w2 (by omega)).mono ?_
      rintro e w3 ⟨rfl, b3⟩
      have HB3 := hidden (HB2.out.trans (b3.mono HB2.out.size))
      clear b3 HB2
      go_wp2_with fail
      go_loopw [7, 8] (fun vs vi wr => ∃ (k : Nat) (s : ByteArray), k ≤ n ∧ vi = .int .i64 k ∧ vs = .string s ∧ Hid (s = ⟨(uintL n ++ encB (l.take k)).toArray⟩) ∧ Hid (Below w.heap.size w wr)) (fun _ vi _ => n - (intOf vi).toNat)
      case atStart => exact ⟨0, _, Nat.zero_le _, rfl, rfl, hidden (bytes_eq (by simp [encB])), HB3⟩
      case round =>
        obtain ⟨k, s, hk, rfl, rfl, hs, hb⟩ := hrel
        have k0 : (0 : Int) ≤ (k : Int) := by omega
        by_cases hlt : k < n
        · have k1 : (k : Int) < (n : Int) := by omega
          obtain ⟨g, o, x, rfl, hg, hx, c0, c1, hxm⟩ := lb_cells (H.out.on hb.out) hlt
          obtain ⟨hx1, hx2⟩ := HLX.out x hxm
          have hel : (encB (l.take k)).length ≤ 116 * 8 := by
            have h1 := encB_len (l := l.take k) fun y hy => HLX.out y (List.mem_of_mem_take hy)
            have h2 : (l.take k).length ≤ 8 := by rw [List.length_take]; omega
            omega
          have hss : s.size ≤ 10 + 116 * 8 := by rw [hs.out, sizeB, List.length_append]; omega
          have t1 := textL_len hx1 (by omega)
          have t2 := textL_len hx2 (by omega)
          obtain ⟨T1, hT1⟩ : ∃ T, (⟨(textL x.name).toArray⟩ : ByteArray) = T := ⟨_, rfl⟩
          obtain ⟨T2, hT2⟩ : ∃ T, (⟨(textL x.value).toArray⟩ : ByteArray) = T := ⟨_, rfl⟩
          have z1 : T1.size ≤ 42 := by rw [← hT1, sizeB]; omega
          have z2 : T2.size ≤ 74 := by rw [← hT2, sizeB]; omega
          have S4 := hidden (fun W => textR_any x.name W (by omega))
          have S5 := hidden (fun W => textR_any x.value W (by omega))
          rw [hT1] at S4
          rw [hT2] at S5
          have hs2 : Hid (s ++ T1 ++ T2 = ⟨(uintL n ++ encB (l.take (k + 1))).toArray⟩) := by
            rw [Hid, hs.out, ← hT1, ← hT2, take_snoc? hx, encB_snoc]
            exact bytes_eq (by simp)
          have l1 : ¬ 9223372036854775807 < s.size + T1.size := by omega
          have l2 : ¬ 9223372036854775807 < s.size + T1.size + T2.size := by omega
          clear hx hxm hT1 hT2 t1 t2
          go_wp2_with fail
          refine (S4.out _).mono ?_
          rintro e w5 ⟨rfl, b5⟩
          have e1 : w5.cell? ⟨g, o + k * 2 + 1, none⟩ = some (.string x.value) := (b5.cell (p := ⟨g, o + k * 2 + 1, none⟩) hg).trans c1
          have HB5 := hidden (hb.out.trans (b5.mono hb.out.size))
          clear b5 c0 c1
          go_wp2_with fail
          refine (S5.out _).mono ?_
          rintro e w6 ⟨rfl, b6⟩
          have HB6 := hidden (HB5.out.trans (b6.mono HB5.out.size))
          clear b6 e1
          go_wp2_with fail
          go_roundw
          case rel => exact ⟨k + 1, _, by omega, by go_num, rfl, hs2, HB6⟩
          case measure => simp [intOf]; omega
        · have k2 : ¬ (k : Int) < (n : Int) := by omega
          have hkn : k = n := by omega
          go_wp2_with fail
          go_ret2
          rw [HU.out]
          have ht : l.take n = l := List.take_of_length_le (by have := H.out.len; omega)
          subst hkn
          have hln := H.out.len
          rw [hs.out]
          exact ⟨by rw [ht, hln]; rfl, hb.out⟩
    · have HU := hidden (encL_bad he hv)
      rw [decide_eq_false hv] at S2
      clear hv he
      go_enter Try.func42, Try.ntmps42
      go_wp2_with fail
      refine S1.out.mono ?_
      rintro e w1 ⟨B1, c1, rfl, _, b1⟩
      have B1 := hidden b1
      have S3 := hidden (S2.out w1 b1)
      clear b1 S1 S2
      go_wp2_with fail
      refine S3.out.mono ?_
      rintro e w2 ⟨rfl, b2⟩
      have HB2 := hidden (B1.out.trans (b2.mono B1.out.size))
      clear b2 S3 B1
      go_wp2_with fail
      go_ret2
      rw [HU.out]
      exact ⟨rfl, HB2.out⟩
  · have HU := hidden (encL_err he)
    have e0 : (((makeErr l : Nat) : Int) != 0) = true := by simpa using he
    clear he
    go_enter Try.func42, Try.ntmps42
    go_wp2_with fail
    refine S1.out.mono ?_
    rintro e w1 ⟨B1, c1, rfl, _, b1⟩
    go_wp2_with fail
    go_ret2
    rw [HU.out]
    exact ⟨rfl, b1⟩
end Go.Proofs.Ytfidneoakcejgaa
