/- The reference's Uint, Int, ReadUint and ReadInt, walked. -/
import Derived.Test.YtnedgjdhpdejdaaReadI
import Derived.Test.YtnedgjdhpdejdaaEncU
namespace Go.Proofs.Ytnedgjdhpdejdaa
set_option maxRecDepth 100000
open Go.RowKit Go.Shelf

theorem valL_drop_le (l : List UInt8) (m : Nat) : valL (l.drop m) ≤ valL l := by
  induction l generalizing m with
  | nil => simp
  | cons b l ih =>
    match m with
    | 0 => exact Nat.le_refl _
    | m + 1 =>
      have := ih m
      simp only [List.drop_succ_cons, valL]
      omega
theorem rd_byte {s : List UInt8} {a : Int} {k m : Nat} (h0 : 0 ≤ a) (hm : m ≤ k) (hk : k < s.length - a.toNat) : ∃ c, s[(a + ((m : Int) + 1)).toNat - 1]? = some c ∧ ((s.drop a.toNat).take (k + 1))[m]? = some c := by
  refine ⟨s[(a + ((m : Int) + 1)).toNat - 1]'(by omega), List.getElem?_eq_getElem (by omega), ?_⟩
  rw [List.getElem?_take_of_lt (by omega), List.getElem?_drop, List.getElem?_eq_getElem (by omega)]
  congr 2
  omega
theorem rd_step {T : List UInt8} {m : Nat} {c : UInt8} (hc : T[m]? = some c) (h : valL T < 18446744073709551616) :
    IntKind.u64.wrap (IntKind.u64.wrap ((valL (T.drop (m + 1)) : Int) * 128) + (c.toNat : Int) % 128) = (valL (T.drop m) : Nat) := by
  have hl := (List.getElem?_eq_some_iff.1 hc).1
  have e : T.drop m = c :: T.drop (m + 1) := by
    rw [List.drop_eq_getElem_cons hl]
    congr 1
    exact (List.getElem?_eq_some_iff.1 hc).2
  have hd := valL_drop_le T m
  rw [e] at hd ⊢
  simp only [valL] at hd ⊢
  rw [IntKind.wrap_u64, IntKind.wrap_u64]
  omega

set_option maxHeartbeats 2000000 in
theorem readUintR_any (s : List UInt8) (a : Int) (w : World) (hs : s.length < 9223372036854775000) (ha : -9223372036854775808 ≤ a) (ha2 : a < 9223372036854775808) :
    Calls Try.prog 30 #[.string ⟨s.toArray⟩, .int .i64 a] w fun e w' => e = .returned (.tuple #[.int .u64 (readU s a).1, .int .i64 (readU s a).2.1, .int .i64 (readU s a).2.2]) ∧ Below w.heap.size w w' := by
  have hsz : (⟨s.toArray⟩ : ByteArray).size = s.length := by simp [ByteArray.size]
  by_cases hr : a < 0 ∨ (s.length : Int) ≤ a
  · rw [readU_out hr]
    go_enter Try.func30, Try.ntmps30
    rcases hr with hr | hr
    · go_wp2_with fail
      go_ret3
      exact ⟨rfl, Below.refl _ _⟩
    · by_cases h0 : a < 0
      · go_wp2_with fail
        go_ret3
        exact ⟨rfl, Below.refl _ _⟩
      · go_wp2_with fail
        go_ret3
        exact ⟨rfl, Below.refl _ _⟩
  · have h0 : ¬ a < 0 := fun h => hr (.inl h)
    have h1 : ¬ (s.length : Int) ≤ a := fun h => hr (.inr h)
    have h3 : (0 : Int) ≤ a := by omega
    go_enter Try.func30, Try.ntmps30
    go_wp2_with fail
    go_loopw [7] (fun i wr => ∃ (k : Nat), i = .int .i64 (a + k) ∧ k ≤ 9 ∧ goesOn k (s.drop a.toNat) ∧ a + k ≤ s.length ∧ Below w.heap.size w wr) (fun i _ => ((s.length : Int) - intOf i).toNat)
    case atStart => exact ⟨0, by simp, by omega, goesOn_zero _, by omega, Below.refl _ _⟩
    case round =>
      obtain ⟨k, rfl, hk, hg, hle, hb⟩ := hrel
      by_cases he : a + k = s.length
      · have hR := hidden (readU_short h3 (by omega) hg he hk)
        have e1 : ¬ a + (k : Int) < s.length := by omega
        go_wp2_with fail
        go_ret3
        rw [hR.out]
        exact ⟨rfl, hb⟩
      · obtain ⟨b, hB⟩ : ∃ b, s[(a + k).toNat]? = some b := ⟨_, List.getElem?_eq_getElem (by omega)⟩
        have hD := (rdrop_at (s := s) (k := k) h3).trans hB
        have hkn : k < (s.drop a.toNat).length := (List.getElem?_eq_some_iff.1 hD).1
        rw [List.length_drop] at hkn
        have hbl := b.toNat_lt
        obtain ⟨hh, hE⟩ := byte_at hB
        have e1 : a + (k : Int) < s.length := by omega
        have e2 : ¬ a + (k : Int) = s.length := by omega
        have e3 : (0 : Int) ≤ a + k := by omega
        by_cases h9 : k = 9
        · subst h9
          have e1 : a + 9 < (s.length : Int) := e1
          have e2 : ¬ a + 9 = (s.length : Int) := e2
          have e4 : ¬ a + 9 ≤ a := by omega
          have e5 : a < a + 9 := by omega
          have hE9 : (⟨s.toArray⟩ : ByteArray)[(a + 9).toNat]'hh = b := hE
          by_cases hb1 : 1 < b.toNat
          · have hR := hidden (readU_bad h3 hg hD hk (.inl ⟨rfl, hb1⟩))
            have hbI : (1 : Int) < b.toNat := by omega
            go_wp2_with fail
            go_ret3
            rw [hR.out]
            exact ⟨rfl, hb⟩
          · have hbI : ¬ (1 : Int) < b.toNat := by omega
            by_cases hz : b.toNat = 0
            · have hR := hidden (readU_bad h3 hg hD hk (.inr ⟨by omega, hz⟩))
              have hzI : (b.toNat : Int) = 0 := by omega
              go_wp2_with fail
              go_ret3
              rw [hR.out]
              exact ⟨rfl, hb⟩
            · have hR := hidden (readU_stop h3 hg hD (by omega) hk (by omega) (by omega))
              have hzI : ¬ (b.toNat : Int) = 0 := by omega
              go_wp2_with fail
              have hV := readU_lt s a
              rw [hR.out] at hV
              simp only at hV
              generalize wr = wo at *
              go_loopw [8, 9] (fun v i wz => ∃ (m : Nat), m ≤ 9 + 1 ∧ i = .int .i64 (a + m - 1) ∧ v = .int .u64 (valL (((s.drop a.toNat).take (9 + 1)).drop m)) ∧ Below wo.heap.size wo wz) (fun _ i _ => (intOf i - a + 1).toNat)
              case atStart => exact ⟨9 + 1, Nat.le_refl _, by go_num, by rw [List.drop_of_length_le (by rw [List.length_take]; omega)]; rfl, Below.refl _ _⟩
              case round =>
                obtain ⟨m, hm, rfl, rfl, hbz⟩ := hrel
                match m with
                | 0 =>
                  have m0 : ¬ a ≤ a + (0 : Nat) - 1 := by omega
                  go_wp2_with fail
                  go_ret3
                  rw [hR.out]
                  exact ⟨rfl, hb.trans (hbz.mono hb.size)⟩
                | m + 1 =>
                  have m0 : a ≤ a + (m + 1 : Nat) - 1 := by omega
                  obtain ⟨c, hC, hcm⟩ := rd_byte h3 (Nat.le_of_lt_succ hm) hkn
                  obtain ⟨h2, hE2⟩ := byte_at hC
                  have hS := hidden (rd_step hcm hV)
                  go_wp2_with fail
                  refine ⟨⟨m, by omega, by go_num, congrArg (Value.int .u64) hS.out, hbz⟩, ?_⟩
                  simp [intOf]; omega
        · have h9i : ¬ a + (k : Int) = a + 9 := by omega
          have h9l : a + (k : Int) < a + 9 := by omega
          by_cases hl : b.toNat < 128
          · have hlI : ¬ (127 : Int) < b.toNat := by omega
            by_cases hz : 0 < k ∧ b.toNat = 0
            · have hR := hidden (readU_bad h3 hg hD hk (.inr hz))
              have hk0 : a < a + (k : Int) := by omega
              have hzI : (b.toNat : Int) = 0 := by omega
              go_wp2_with fail
              go_ret3
              rw [hR.out]
              exact ⟨rfl, hb⟩
            · have hR := hidden (readU_stop h3 hg hD (by omega) hk (by omega) (by omega))
              by_cases hk0 : k = 0
              · have hk0I : ¬ a < a + (k : Int) := by omega
                clear hk0
                go_wp2_with fail
                have hV := readU_lt s a
                rw [hR.out] at hV
                simp only at hV
                generalize wr = wo at *
                go_loopw [8, 9] (fun v i wz => ∃ (m : Nat), m ≤ k + 1 ∧ i = .int .i64 (a + m - 1) ∧ v = .int .u64 (valL (((s.drop a.toNat).take (k + 1)).drop m)) ∧ Below wo.heap.size wo wz) (fun _ i _ => (intOf i - a + 1).toNat)
                case atStart => exact ⟨k + 1, Nat.le_refl _, by go_num, by rw [List.drop_of_length_le (by rw [List.length_take]; omega)]; rfl, Below.refl _ _⟩
                case round =>
                  obtain ⟨m, hm, rfl, rfl, hbz⟩ := hrel
                  match m with
                  | 0 =>
                    have m0 : ¬ a ≤ a + (0 : Nat) - 1 := by omega
                    go_wp2_with fail
                    go_ret3
                    rw [hR.out]
                    exact ⟨rfl, hb.trans (hbz.mono hb.size)⟩
                  | m + 1 =>
                    have m0 : a ≤ a + (m + 1 : Nat) - 1 := by omega
                    obtain ⟨c, hC, hcm⟩ := rd_byte h3 (Nat.le_of_lt_succ hm) hkn
                    obtain ⟨h2, hE2⟩ := byte_at hC
                    have hS := hidden (rd_step hcm hV)
                    go_wp2_with fail
                    refine ⟨⟨m, by omega, by go_num, congrArg (Value.int .u64) hS.out, hbz⟩, ?_⟩
                    simp [intOf]; omega
              · have hk0I : a < a + (k : Int) := by omega
                have hzI : ¬ (b.toNat : Int) = 0 := by omega
                go_wp2_with fail
                have hV := readU_lt s a
                rw [hR.out] at hV
                simp only at hV
                generalize wr = wo at *
                go_loopw [8, 9] (fun v i wz => ∃ (m : Nat), m ≤ k + 1 ∧ i = .int .i64 (a + m - 1) ∧ v = .int .u64 (valL (((s.drop a.toNat).take (k + 1)).drop m)) ∧ Below wo.heap.size wo wz) (fun _ i _ => (intOf i - a + 1).toNat)
                case atStart => exact ⟨k + 1, Nat.le_refl _, by go_num, by rw [List.drop_of_length_le (by rw [List.length_take]; omega)]; rfl, Below.refl _ _⟩
                case round =>
                  obtain ⟨m, hm, rfl, rfl, hbz⟩ := hrel
                  match m with
                  | 0 =>
                    have m0 : ¬ a ≤ a + (0 : Nat) - 1 := by omega
                    go_wp2_with fail
                    go_ret3
                    rw [hR.out]
                    exact ⟨rfl, hb.trans (hbz.mono hb.size)⟩
                  | m + 1 =>
                    have m0 : a ≤ a + (m + 1 : Nat) - 1 := by omega
                    obtain ⟨c, hC, hcm⟩ := rd_byte h3 (Nat.le_of_lt_succ hm) hkn
                    obtain ⟨h2, hE2⟩ := byte_at hC
                    have hS := hidden (rd_step hcm hV)
                    go_wp2_with fail
                    refine ⟨⟨m, by omega, by go_num, congrArg (Value.int .u64) hS.out, hbz⟩, ?_⟩
                    simp [intOf]; omega
          · have hlI : (127 : Int) < b.toNat := by omega
            go_wp2_with fail
            refine ⟨⟨k + 1, by go_num, by omega, goesOn_succ hg hD (by omega), by omega, hb⟩, ?_⟩
            simp [intOf]; omega
end Go.Proofs.Ytnedgjdhpdejdaa
