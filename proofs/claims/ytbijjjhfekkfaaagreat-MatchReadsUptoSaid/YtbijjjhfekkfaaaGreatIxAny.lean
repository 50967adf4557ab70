/- strings.IndexRune and strings.IndexAny at the signs, walked. Condition: the text is not too long. -/
import Derived.Test.YtbijjjhfekkfaaaGreatUtfP
import Derived.Test.YtbijjjhfekkfaaaGreatReadMP
import Derived.Laws.Runes
import Derived.Lib.OthersKept
import Derived.WalkMore
import Derived.Test.YtbijjjhfekkfaaaGreatPkc0bd2478
import Derived.Deep.QuietTactic
import Derived.BigQuiet
namespace Go.Proofs.YtbijjjhfekkfaaaGreat
set_option maxRecDepth 1000000
open Go.RowKit

theorem valid_any (r : Nat) (w : World) (hr : r ≤ 2147483647) :
    Calls Tryz.prog 180 #[.int .i32 r] w fun e w' => e = .returned (.bool (Utf8.valid (r : Int))) ∧ w' = w := by
  have h0 : (0 : Int) ≤ (r : Int) := by omega
  by_cases h1 : r < 55296
  · have e1 : (r : Int) < 55296 := by omega
    have HV : Hid (Utf8.valid (r : Int) = true) := by simp [Hid, Utf8.valid]; omega
    go_enter Tryz.func180, Tryz.ntmps180
    go_wp2_with fail
    go_ret
    rw [HV.out]
    exact ⟨rfl, rfl⟩
  · have e1 : decide ((r : Int) < 55296) = false := by simp; omega
    by_cases h2 : 57343 < r
    · have e2 : (57343 : Int) < (r : Int) := by omega
      by_cases h3 : r ≤ 1114111
      · have e3 : decide ((r : Int) ≤ 1114111) = true := by simp; omega
        have HV : Hid (Utf8.valid (r : Int) = true) := by simp [Hid, Utf8.valid]; omega
        go_enter Tryz.func180, Tryz.ntmps180
        go_wp2_with fail
        go_ret
        rw [HV.out]
        exact ⟨rfl, rfl⟩
      · have e3 : decide ((r : Int) ≤ 1114111) = false := by simp; omega
        have HV : Hid (Utf8.valid (r : Int) = false) := by simp [Hid, Utf8.valid]; omega
        go_enter Tryz.func180, Tryz.ntmps180
        go_wp2_with fail
        go_ret
        rw [HV.out]
        exact ⟨rfl, rfl⟩
    · have e2 : ¬ (57343 : Int) < (r : Int) := by omega
      have HV : Hid (Utf8.valid (r : Int) = false) := by simp [Hid, Utf8.valid]; omega
      go_enter Tryz.func180, Tryz.ntmps180
      go_wp2_with fail
      go_ret
      rw [HV.out]
      exact ⟨rfl, rfl⟩
theorem sindex_s (s : ByteArray) (b : UInt8) (w : World) : Calls Tryz.prog 117 #[.string s, .int .u8 (b.toNat : Int)] w fun e w' => e = .returned (.int .i64 (Lib.indexByte s.data.toList b)) ∧ w' = w := (sindex_any s b w).mono fun _ _ h => ⟨h.1, h.2.symm⟩
set_option maxHeartbeats 1600000 in
theorem irune_any (r : Nat) (w : World) (h : 128 ≤ r) (hr : r ≤ 2147483647) :
    Calls Tryz.prog 112 #[.string ⟨#[61, 33]⟩, .int .i32 r] w fun e w' => e = .returned (.int .i64 (-1)) ∧ Below w.heap.size w w' := by
  have h0 : (0 : Int) ≤ (r : Int) := by omega
  have h1 : decide ((r : Int) < 128) = false := by simp; omega
  have S1 := hidden (valid_any r w hr)
  by_cases he : r = 65533
  · have e1 : ((r : Int) == 65533) = true := by simp [he]
    have hn0 := fun ty => run_next_ascii (P := Tryz.prog) w ⟨#[61, 33]⟩ 0 ty (by decide) (by decide)
    have hn1 := fun ty => run_next_ascii (P := Tryz.prog) w ⟨#[61, 33]⟩ 1 ty (by decide) (by decide)
    have hn2 := fun ty => run_next_end (P := Tryz.prog) w ⟨#[61, 33]⟩ 2 ty (by decide)
    clear he S1
    go_enter Tryz.func112, Tryz.ntmps112
    go_wp2_with fail
    refine wp_loop_rounds 3 ?_
    rw [rounds_succ]
    go_wp2_with fail
    rw [rounds_succ]
    go_wp2_with fail
    rw [rounds_succ]
    go_wp2_with fail
    go_ret
    exact ⟨rfl, (Below.refl _ _).alloc (Nat.le_refl _) _⟩
  · have e1 : ((r : Int) == 65533) = false := by simp; omega
    cases hv : Utf8.valid (r : Int) with
    | false =>
      rw [hv] at S1
      clear hv he
      go_enter Tryz.func112, Tryz.ntmps112
      go_wp2_with fail
      refine S1.out.mono ?_
      rintro e w1 ⟨rfl, rfl⟩
      go_wp2_with fail
      go_ret
      exact ⟨rfl, Below.refl _ _⟩
    | true =>
      rw [hv] at S1
      obtain ⟨n, c, hz, hn1, hn3, hc, hc2⟩ := encode_high r h hv
      obtain ⟨X, hX⟩ : ∃ X, Utf8.encode (r : Int) = X := ⟨_, rfl⟩
      rw [hX] at hz hc
      have hcv := fun w : World => run_convert_int_string (P := Tryz.prog) w 21 9 .i32 (r : Int) (by kernel_rfl) Tryz.underlying9
      simp only [hX] at hcv
      have hns : (X.size : Int) = (n : Int) + 1 := by omega
      have hnw : IntKind.i64.wrap ((n : Int) + 1 - 1) = (n : Int) := by rw [show (n : Int) + 1 - 1 = n by omega]; exact Go.IntWalk.i64_in _ (by omega)
      have HC := hidden (And.intro hc hc2)
      have HX := hidden hX
      clear hv he hX hc hc2
      rcases Nat.lt_or_ge n 2 with h2 | h2
      · obtain rfl : n = 1 := by omega
        have hz1 : (1 : Nat) < X.size := by omega
        have hce : X[1]'hz1 = c := by
          have := (List.getElem?_eq_some_iff.1 HC.out.1).2
          exact this
        have h33 : ((⟨#[61, 33]⟩ : ByteArray)[1]'(by decide)).toNat = 33 := rfl
        have hne : ((33 : Int) != (c.toNat : Int)) = true := by have := HC.out.2; simp; omega
        have S2 := hidden (fun W => sindex_s ByteArray.empty c W)
        rw [show Lib.indexByte ByteArray.empty.data.toList c = -1 from rfl] at S2
        clear h2 hz
        go_enter Tryz.func112, Tryz.ntmps112
        go_wp2_with fail
        refine S1.out.mono ?_
        rintro e w1 ⟨rfl, rfl⟩
        go_wp2_with fail
        go_step3
        go_wp2_with fail
        refine wp_loop_rounds 1 ?_
        rw [rounds_succ]
        go_wp2_with fail
        go_step3
        go_wp2_with fail
        go_quiet (fail)
        go_wp2_with fail
        have HB := hidden (below_drewN (Below.refl w1.heap.size w1) nq)
        generalize w1.drewN nq = w2 at *
        go_quiet (refine Calls.quiet_of_same (S2.out _))
        go_wp2_with fail
        rw [Exit.noGoto_ret]
        simp only [Exit.inBlock, Exit.then]
        rw [Exit.noGoto_ret]
        go_ret
        exact ⟨rfl, below_drewN HB.out _⟩
      · have hn2 : decide ((n : Int) < 2) = false := by simp; omega
        go_enter Tryz.func112, Tryz.ntmps112
        go_wp2_with fail
        refine S1.out.mono ?_
        rintro e w1 ⟨rfl, rfl⟩
        go_wp2_with fail
        go_step3
        go_wp2_with fail
        refine wp_loop_rounds 1 ?_
        rw [rounds_succ]
        go_wp2_with fail
        rw [Exit.noGoto_ret]
        go_ret
        exact ⟨rfl, Below.refl _ _⟩
/-- where the first sign stands, or -1 -/
def sgnI (l : List UInt8) : Int := if sgn l 0 < l.length then (sgn l 0 : Int) else -1
theorem sgnI_at {l : List UInt8} {k : Nat} {b : UInt8} (hb : l[k]? = some b) (hs : isSgn b = true) (hno : ∀ i, i < k → ∀ c, l[i]? = some c → isSgn c = false) : sgnI l = k := by
  have h := sgn_at (a := 0) (Nat.zero_le k) hb hs fun i _ hi => hno i hi
  have hk := (List.getElem?_eq_some_iff.1 hb).1
  rw [Nat.zero_add] at h
  rw [sgnI, h, if_pos hk]
theorem sgnI_none {l : List UInt8} (hno : ∀ (i : Nat) c, l[i]? = some c → isSgn c = false) : sgnI l = -1 := by
  have h := sgn_none (l := l) (a := 0) (Nat.zero_le _) fun i _ => hno i
  rw [Nat.zero_add] at h
  rw [sgnI, h, if_neg (Nat.lt_irrefl _)]
theorem high_no {c : UInt8} (h : 128 ≤ c.toNat) : isSgn c = false := by
  simp [isSgn]; omega
theorem sgn_cases' {b : UInt8} (h : isSgn b = true) : b = 61 ∨ b = 33 := by
  unfold isSgn at h
  simp only [Bool.or_eq_true, beq_iff_eq] at h
  exact h.imp (fun h => u8_eq (b := 61) h) (fun h => u8_eq (b := 33) h)
theorem iascii_any (b : UInt8) (w : World) (h : b.toNat < 128) :
    Calls Tryz.prog 112 #[.string ⟨#[61, 33]⟩, .int .i32 (b.toNat : Int)] w fun e w' => e = .returned (.int .i64 (Lib.indexByte [61, 33] b)) ∧ w' = w := by
  have h0 : (0 : Int) ≤ (b.toNat : Int) := by omega
  have h1 : decide ((b.toNat : Int) < 128) = true := by simp; omega
  have S2 := hidden (sindex_s ⟨#[61, 33]⟩ b w)
  go_enter Tryz.func112, Tryz.ntmps112
  go_wp2_with fail
  refine S2.out.mono ?_
  rintro e w2 ⟨rfl, rfl⟩
  go_wp2_with fail
  go_ret
  exact ⟨rfl, rfl⟩
theorem sua_any (n : Nat) (w : World) : Calls Tryz.prog 113 #[.int .i64 n] w fun e w' => e = .returned (.bool (decide (8 < (n : Int)))) ∧ w' = w := by
  go_enter Tryz.func113, Tryz.ntmps113
  go_wp2_with fail
  go_ret
  exact ⟨rfl, rfl⟩
set_option maxHeartbeats 3200000 in
theorem iany_short (s : ByteArray) (w : World) (h8 : s.size ≤ 8) :
    Calls Tryz.prog 48 #[.string s, .string ⟨#[61, 33]⟩] w fun e w' => e = .returned (.int .i64 (sgnI s.data.toList)) ∧ Below w.heap.size w w' := by
  have h8z : decide ((8 : Int) < (s.size : Int)) = false := decide_eq_false (by omega)
  have S1 := hidden (sua_any s.size w)
  rw [h8z] at S1
  go_enter Tryz.func48, Tryz.ntmps48
  go_wp2_with fail
  refine S1.out.mono ?_
  rintro e w1 ⟨rfl, rfl⟩
  go_wp2_with fail
  go_loopw [46] (fun _ wr => ∃ pos : Nat, wr.heap[w1.heap.size]? = some (.stringIter s pos) ∧ Hid (Below w1.heap.size w1 wr) ∧ Hid (∀ i, i < pos → ∀ c, s.data.toList[i]? = some c → isSgn c = false)) (fun _ wr => s.size - wr.iterPos w1.heap.size)
  case atStart => exact ⟨0, by simpa using World.iter_heap w1 s 0, hidden ((Below.refl _ _).alloc (Nat.le_refl _) _), hidden (fun i hi => by omega)⟩
  case round =>
    obtain ⟨pos, hit, hb, hno⟩ := hrel
    have hsz : w1.heap.size < wr.heap.size := (Array.getElem?_eq_some_iff.1 hit).1
    by_cases hp : pos < s.size
    · have hnx : ∀ ty, (Instr.next (.pointer (some ⟨w1.heap.size, 0, none⟩)) true ty).run Tryz.prog wr = _ := fun ty => Lib.run_next_any_at wr w1.heap.size s pos ty hit hp
      obtain ⟨b, hbe, hbat⟩ := str_at hp
      have hb3 := get_list hbat
      have hit2 := Lib.iterAt_heap wr w1.heap.size s pos (pos + (Utf8.decode s pos).2) hit
      have hbw2 := Lib.below_iterAt hb.out (k := w1.heap.size) (by omega) s (pos + (Utf8.decode s pos).2)
      have HBW := hidden hbw2
      have hle := decode_le s pos
      have hgb : s[pos]'hp = b := by
        have := get_at s pos hp
        rw [Nat.add_zero, hb3] at this
        exact this.symm
      by_cases ha : b.toNat < 128
      · have hd := decode_ascii s pos hp (by rw [hgb]; exact ha)
        rw [hgb] at hd
        rw [hd] at hnx hit2 HBW
        simp only at hnx hit2 HBW
        have S2 := hidden (fun W => iascii_any b W ha)
        have HIT := hidden hit2
        have HAT := hidden hbat
        clear hbw2 hle hgb hb3 hd hbat hit2
        cases hsg : isSgn b with
        | true =>
          have hix : ∃ j : Nat, Lib.indexByte [61, 33] b = (j : Int) := by
            rcases sgn_cases' hsg with rfl | rfl
            · exact ⟨0, by decide⟩
            · exact ⟨1, by decide⟩
          obtain ⟨j, hj⟩ := hix
          rw [hj] at S2
          have j0 : decide ((0 : Int) ≤ (j : Int)) = true := by simp
          have j1 : (0 : Int) ≤ (j : Int) := by omega
          have HR := hidden (sgnI_at HAT.out hsg hno.out)
          clear hsg hj
          go_wp2_with fail
          refine (S2.out _).mono ?_
          rintro e w2 ⟨rfl, rfl⟩
          go_wp2_with fail
          go_ret
          rw [HR.out]
          exact ⟨rfl, HBW.out⟩
        | false =>
          have hix : Lib.indexByte [61, 33] b = -1 := by
            have hb2 : b.toNat ≠ 61 ∧ b.toNat ≠ 33 := by simpa [isSgn] using hsg
            have h1 : b ≠ 61 := fun e => hb2.1 (by rw [e]; rfl)
            have h2 : b ≠ 33 := fun e => hb2.2 (by rw [e]; rfl)
            simp [Lib.indexByte, Ne.symm h1, Ne.symm h2]
          rw [hix] at S2
          have HNO := hidden (show ∀ i, i < pos + 1 → ∀ c, s.data.toList[i]? = some c → isSgn c = false from fun i hi c hc => by
            by_cases e : i = pos
            · subst e
              rw [HAT.out] at hc
              rw [← Option.some.inj hc]; exact hsg
            · exact hno.out i (by omega) c hc)
          clear hsg hix
          go_wp2_with fail
          refine (S2.out _).mono ?_
          rintro e w2 ⟨rfl, rfl⟩
          go_wp2_with fail
          go_roundw
          case rel => exact ⟨pos + 1, HIT.out, HBW, HNO⟩
          case measure => simp only [World.iterPos, HIT.out, hit]; omega
      · have hdi := decode_inner s pos hp (by rw [hgb]; omega)
        have hdh := decode_high s pos hp (by rw [hgb]; omega)
        obtain ⟨r, hr⟩ : ∃ r, (Utf8.decode s pos).1 = r := ⟨_, rfl⟩
        obtain ⟨d, hd⟩ : ∃ d, (Utf8.decode s pos).2 = d := ⟨_, rfl⟩
        rw [hd] at hdi
        rw [hr, hd] at hdh
        rw [hr] at hle
        rw [hr, hd] at hnx
        rw [hd] at hit2 HBW
        have S2 := hidden (fun W => irune_any r W hdh.1 hle)
        have HIT := hidden hit2
        have HD := hidden (And.intro hdi hdh.2)
        have HNO := hidden (show ∀ i, i < pos + d → ∀ c, s.data.toList[i]? = some c → isSgn c = false from fun i hi c hc => by
          by_cases e : i < pos
          · exact hno.out i e c hc
          · exact high_no (hdi.2 i (by omega) hi c hc))
        clear hbw2 hle hgb hb3 hbat hit2 hdi hdh hr hd
        go_wp2_with fail
        refine (S2.out _).mono ?_
        rintro e w2 ⟨rfl, b2⟩
        have HBW2 := hidden (HBW.out.trans (b2.mono HBW.out.size))
        have hlt2 : w1.heap.size < (wr.iterAt w1.heap.size s (pos + d)).heap.size := by rw [Lib.iterAt_size]; exact hsz
        have HIT2 := hidden ((b2.block w1.heap.size hlt2).trans HIT.out)
        clear b2 hlt2
        go_wp2_with fail
        go_roundw
        case rel => exact ⟨pos + d, HIT2.out, HBW2, HNO⟩
        case measure => simp only [World.iterPos, HIT2.out, hit]; have := HD.out; omega
    · have hnx : ∀ ty, (Instr.next (.pointer (some ⟨w1.heap.size, 0, none⟩)) true ty).run Tryz.prog wr = _ := fun ty => Lib.run_next_end_at wr w1.heap.size s pos ty hit hp
      have HR := hidden (sgnI_none (l := s.data.toList) fun i c hc => hno.out i (by have := (List.getElem?_eq_some_iff.1 hc).1; have e : s.data.toList.length = s.size := rfl; omega) c hc)
      go_wp2_with fail
      go_ret
      rw [HR.out]
      exact ⟨rfl, hb.out⟩
end Go.Proofs.YtbijjjhfekkfaaaGreat
