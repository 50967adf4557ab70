/- strings.IndexAny at the signs, at long texts, walked. Condition: the text is not too long. -/
import Derived.Test.YtbijjjhfekkfaaaGreatIxAny
import Derived.Test.YtbijjjhfekkfaaaGreatPkc6c90f11
import Derived.Laws.ResultCell
namespace Go.Proofs.YtbijjjhfekkfaaaGreat
set_option maxRecDepth 1000000
open Go.RowKit

theorem as0 : Tryz.zeroCells248 = (List.replicate 256 (Value.bool false)).toArray := by kernel_rfl
/-- the set of the signs -/
noncomputable def asS : Array Value := (Tryz.zeroCells248.setIfInBounds 61 (.bool true)).setIfInBounds 33 (.bool true)
theorem asS_at (b : UInt8) : asS[b.toNat]? = some (.bool (isSgn b)) := by
  have hb := size_lt b
  unfold asS
  rw [Array.getElem?_setIfInBounds, Array.getElem?_setIfInBounds, as0]
  by_cases h1 : 33 = b.toNat
  · rw [if_pos h1, if_pos (by simp [])]
    simp [isSgn, ← h1]
  · rw [if_neg h1]
    by_cases h2 : 61 = b.toNat
    · rw [if_pos h2, if_pos (by simp [])]
      simp [isSgn, ← h2]
    · rw [if_neg h2]
      have h3 : isSgn b = false := by simp [isSgn]; omega
      rw [h3, List.getElem?_toArray, List.getElem?_replicate, if_pos hb]
theorem asAgg (w : World) : (isAgg 248).run Tryz.prog w = .ok true w := Tryz.isAgg248 w
theorem asSize (w : World) : (Go.sizeOf 248).run Tryz.prog w = .ok 256 w := Tryz.sizeOf248 w
theorem asS_size : asS.size = 256 := by unfold asS; rw [Array.size_setIfInBounds, Array.size_setIfInBounds, as0]; rfl
theorem asS_one : asS.all (·.oneCell') = true := by
  rw [Array.all_eq_true]
  intro i hi
  have h := asS_at ⟨i, by rw [asS_size] at hi; exact hi⟩
  have h2 := Array.getElem?_eq_getElem hi
  have h3 : asS[i]? = some (.bool (isSgn ⟨i, by rw [asS_size] at hi; exact hi⟩)) := h
  rw [h2] at h3
  rw [Option.some.inj h3]
  rfl
theorem asS_info : (Tryz.prog.info? 248).map (·.size) = some asS.size := by rw [asS_size]; kernel_rfl
/-- the set, laid into a block of its size -/
theorem as_store {w : World} {X : Nat} {c : Array Value} (h : Whole1 w X 248 c) (hc : c.size = 256) : (storeCells ⟨X, 0, none⟩ asS.toList 0).run Tryz.prog w = .ok () (w.setRow X asS) ∧ Whole1 (w.setRow X asS) X 248 asS ∧ w.grownBy (w.setRow X asS) (some X) := by
  refine ⟨?_, ?_, ?_⟩
  · have := run_storeVar_row (P := Tryz.prog) w X 248 248 c asS h asS_info (by rw [asS_size, hc]) asS_one
    have hi := asS_info
    cases hq : Tryz.prog.info? 248 with
    | none => simp [hq] at hi
    | some i =>
      have hs : asS.size = i.size := by simp [hq] at hi; omega
      simpa [storeVar, sizeOf, typeInfo, hq, Value.cells, hs] using this
  · show (w.heap.modify X _)[X]? = _
    rw [Array.getElem?_modify, if_pos rfl, show w.heap[X]? = some (.cells c 248 (0, 0)) from h]
    rfl
  · refine ⟨rfl, rfl, rfl, by show w.heap.size ≤ (w.heap.modify X _).size; rw [Array.size_modify]; exact Nat.le_refl _, fun i hi hn => ?_⟩
    show (w.heap.modify X _)[i]? = _
    rw [Array.getElem?_modify, if_neg (fun e => hn (by rw [e]))]
set_option maxHeartbeats 1600000 in
theorem mset_any (w : World) : Calls Tryz.prog 114 #[.string ⟨#[61, 33]⟩] w fun e w' => e = .returned (.tuple #[.agg asS, .bool true]) ∧ Below w.heap.size w w' := by
  have hw0 := Whole1.new w 248 Tryz.zeroCells248
  have hb0 : Below w.heap.size w (w.alloc (.cells Tryz.zeroCells248 248)) := (Below.refl _ _).alloc (Nat.le_refl _) _
  go_enter Tryz.func114, Tryz.ntmps114
  go_wp2_with fail
  obtain ⟨w1, hw1⟩ : ∃ w1, w.alloc (.cells Tryz.zeroCells248 248) = w1 := ⟨_, rfl⟩
  obtain ⟨X, hX⟩ : ∃ X, w.heap.size = X := ⟨_, rfl⟩
  rw [hw1] at hw0 hb0 ⊢
  rw [hX] at hw0 ⊢
  have h1 := hw0.put 61 (.bool true)
  have h2 := h1.put 33 (.bool true)
  have c61 : w1.cell? ⟨X, 61, none⟩ = some (.bool false) := (hw0.cell 61).trans (by rw [as0]; rfl)
  have f61 := hw0.free 61
  have c33 : (w1.setCell ⟨X, 61, none⟩ (.bool true)).cell? ⟨X, 33, none⟩ = some (.bool false) := (h1.cell 33).trans (by rw [as0]; rfl)
  have f33 := h1.free 33
  have HB := hidden (show Below w.heap.size w ((w1.setCell ⟨X, 61, none⟩ (.bool true)).setCell ⟨X, 33, none⟩ (.bool true)) from by
    have g1 := gb_put (gb_put (gb_refl w1 (some X)) 61 (.bool true)) 33 (.bool true)
    exact hb0.grown g1 hb0.size (fun q hq => by cases hq; omega))
  have HLD := hidden (run_loadW (P := Tryz.prog) asAgg asSize (show Whole1 ((w1.setCell ⟨X, 61, none⟩ (.bool true)).setCell ⟨X, 33, none⟩ (.bool true)) X 248 asS from h2) (by unfold asS; rw [Array.size_setIfInBounds, Array.size_setIfInBounds, as0]; rfl))
  obtain ⟨hst, hws, hgs⟩ := as_store (show Whole1 ((w1.setCell ⟨X, 61, none⟩ (.bool true)).setCell ⟨X, 33, none⟩ (.bool true)) X 248 asS from h2) asS_size
  have HB3 := hidden (HB.out.grown hgs HB.out.size (fun q hq => by cases hq; omega))
  have HWS := hidden hws
  clear hw0 hb0 h1 h2 hw1 hX hws hgs
  have e61 : ((⟨#[61, 33]⟩ : ByteArray)[0]'(by decide)).toNat = 61 := rfl
  have e33 : ((⟨#[61, 33]⟩ : ByteArray)[1]'(by decide)).toNat = 33 := rfl
  refine wp_loop_rounds 3 ?_
  rw [rounds_succ]
  go_wp2_with fail
  rw [rounds_succ]
  go_wp2_with fail
  rw [rounds_succ]
  go_wp2_with (refine wpList_loadW rfl _ _ rfl _ rfl _ HLD.out ?_)
  have hld := run_loadVar_row (P := Tryz.prog) _ X 248 248 asS (0, 0) _ HWS.out Tryz.underlying248 rfl asS_info
  refine bodyPost_ret (v := .tuple #[.agg asS, .bool true]) ?_ rfl ⟨rfl, HB3.out⟩
  rw [results_cell_tmp rfl]
  simp [asAddr, Result.andThen, hld]
theorem contains8_any (X : Nat) (b : UInt8) (w : World) (h : Whole1 w X 248 asS) : Calls Tryz.prog 115 #[.pointer (some ⟨X, 0, none⟩), .int .u8 (b.toNat : Int)] w fun e w' => e = .returned (.bool (isSgn b)) ∧ w' = w := by
  have hb := size_lt b
  have hc : w.cell? ⟨X, b.toNat, none⟩ = some (.bool (isSgn b)) := (h.cell _).trans (asS_at b)
  have h0 : (0 : Int) ≤ (b.toNat : Int) := by omega
  have h1 : (b.toNat : Int) < 256 := by omega
  clear h
  go_enter Tryz.func115, Tryz.ntmps115
  go_wp2_with fail
  go_ret
  exact ⟨rfl, rfl⟩
set_option maxHeartbeats 3200000 in
theorem iany_long (s : ByteArray) (w : World) (h8 : 8 < s.size) (hs : s.size ≤ 16777216) :
    Calls Tryz.prog 48 #[.string s, .string ⟨#[61, 33]⟩] w fun e w' => e = .returned (.int .i64 (sgnI s.data.toList)) ∧ Below w.heap.size w w' := by
  have h8z : decide ((8 : Int) < (s.size : Int)) = true := decide_eq_true (by omega)
  have S1 := hidden (sua_any s.size w)
  rw [h8z] at S1
  have S2 := hidden (mset_any w)
  go_enter Tryz.func48, Tryz.ntmps48
  go_wp2_with fail
  refine S1.out.mono ?_
  rintro e w1 ⟨rfl, rfl⟩
  go_wp2_with fail
  refine S2.out.mono ?_
  rintro e w2 ⟨rfl, b2⟩
  have hst := run_storeCells_new (P := Tryz.prog) w2 248 Tryz.zeroCells248 asS asS_info (by rw [asS_size, as0]; rfl) asS_one
  have HB2 := hidden (b2.alloc b2.size (.cells asS 248))
  have HW := hidden (Whole1.new w2 248 asS)
  clear b2
  go_wp2_with fail
  obtain ⟨w3, hw3⟩ : ∃ w3, w2.alloc (.cells asS 248) = w3 := ⟨_, rfl⟩
  obtain ⟨X, hX⟩ : ∃ X, w2.heap.size = X := ⟨_, rfl⟩
  rw [hw3] at HB2 HW ⊢
  rw [hX] at HW ⊢
  clear hst hw3 hX S1 S2
  go_loopw [8] (fun vi wr => ∃ k : Nat, vi = .int .i64 k ∧ k ≤ s.size ∧ Hid (∀ i, i < k → ∀ c, s.data.toList[i]? = some c → isSgn c = false) ∧ wr = w3) (fun vi _ => s.size - (intOf vi).toNat)
  case atStart => exact ⟨0, rfl, Nat.zero_le _, hidden (fun i hi => by omega), rfl⟩
  case round =>
    obtain ⟨k, rfl, hk, hno, rfl⟩ := hrel
    have k0 : (0 : Int) ≤ (k : Int) := by omega
    by_cases hlt : k < s.size
    · have k1 : (k : Int) < (s.size : Int) := by omega
      obtain ⟨b, hbe, hbat⟩ := str_at hlt
      have fwk : IntKind.i64.wrap ((k : Int) + 1) = (k : Int) + 1 := Go.IntWalk.i64_in _ (by omega)
      have S3 := hidden (contains8_any X b wr HW.out)
      have HAT := hidden hbat
      clear hbat
      cases hsg : isSgn b with
      | true =>
        rw [hsg] at S3
        have HR := hidden (sgnI_at HAT.out hsg hno.out)
        clear hsg
        go_wp2_with fail
        refine S3.out.mono ?_
        rintro e w4 ⟨rfl, rfl⟩
        go_wp2_with fail
        go_ret
        rw [HR.out]
        exact ⟨rfl, HB2.out⟩
      | false =>
        rw [hsg] at S3
        have HNO := hidden (show ∀ i, i < k + 1 → ∀ c, s.data.toList[i]? = some c → isSgn c = false from fun i hi c hc => by
          by_cases e : i = k
          · subst e
            rw [HAT.out] at hc
            rw [← Option.some.inj hc]; exact hsg
          · exact hno.out i (by omega) c hc)
        clear hsg
        go_wp2_with fail
        refine S3.out.mono ?_
        rintro e w4 ⟨rfl, rfl⟩
        go_wp2_with fail
        go_roundw
        case rel => exact ⟨k + 1, by go_num, by omega, HNO, trivial⟩
        case measure => simp [intOf]; omega
    · obtain rfl : s.size = k := by omega
      have HR := hidden (sgnI_none (l := s.data.toList) fun i c hc => hno.out i (by have := (List.getElem?_eq_some_iff.1 hc).1; have e : s.data.toList.length = s.size := rfl; omega) c hc)
      go_wp2_with fail
      go_ret
      rw [HR.out]
      exact ⟨rfl, HB2.out⟩
theorem iany_any (s : ByteArray) (w : World) (hs : s.size ≤ 16777216) :
    Calls Tryz.prog 48 #[.string s, .string ⟨#[61, 33]⟩] w fun e w' => e = .returned (.int .i64 (sgnI s.data.toList)) ∧ Below w.heap.size w w' := by
  rcases Nat.lt_or_ge 8 s.size with h | h
  · exact iany_long s w h hs
  · exact iany_short s w h
end Go.Proofs.YtbijjjhfekkfaaaGreat
