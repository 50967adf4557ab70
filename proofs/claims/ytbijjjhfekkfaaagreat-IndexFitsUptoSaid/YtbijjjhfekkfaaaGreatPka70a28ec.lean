/- The document's index as it lies. No program is walked here. LabelsOrder: whatever two lists are held against one another, the order is the document's, turned when they are. No condition. The document's Find, walked. Condition: the index is one, of valid sets. The reference's Encode, walked: the bytes of a set. Condition: the row is within the reach. The document's Add, walked. Condition: the index is one, of valid sets. The law's helpers ref and cut: what they return. Condition: the rows are within the reach. What came in, opened, with its bulk in sum. No condition. Lists of sets that came in, opened. No condition. The law's built: what it makes. Condition: the lists are within the reach. -/
import Derived.Test.YtbijjjhfekkfaaaGreatPkcf0ce608
import Derived.Test.YtbijjjhfekkfaaaGreatPkc34a24ab
import Derived.Test.YtbijjjhfekkfaaaGreatPka7c674fb
import Derived.Test.YtbijjjhfekkfaaaGreatPkdcb8ec27
import Derived.Test.YtbijjjhfekkfaaaGreatPk23a1f4c8
import Derived.Test.YtbijjjhfekkfaaaGreatPk3348108a
import Derived.Test.YtbijjjhfekkfaaaGreatPk46347e35
import Derived.Test.YtbijjjhfekkfaaaGreatPk4d07971e
import Derived.Deep.RegionHeld3
namespace Go.Proofs.YtbijjjhfekkfaaaGreat
set_option maxRecDepth 100000
open Go.RowKit

/-- the document's index of these sets -/
structure RIdxG (w : World) (base q : Nat) (sv : Value) (L : List SetR) : Prop where
  blk : Whole1 w q 175 #[sv]
  qb : base ≤ q
  sets : w.ownsRow base 120 1 sv L.length (L.map SetR.v)
  lab : ∀ s ∈ L, w.ownsRow base 245 2 s.v s.l.length (s.l.flatMap Lbl.cells)
def RIdx (w : World) (base q : Nat) (E : List (List Lbl)) : Prop := ∃ sv L, RIdxG w base q sv L ∧ L.map SetR.l = E
section
variable {w w' : World} {base b q : Nat} {sv : Value} {L : List SetR} {ts : List TypeId} {mp : Bool}
theorem RIdxG.turn (h : RIdxG w base q sv L) (k : Turn b ts mp w w') (h1 : 175 ∉ ts) (h2 : 120 ∉ ts) (h3 : 245 ∉ ts) : RIdxG w' base q sv L :=
  ⟨k.whole h.blk (.inr h1), h.qb, k.own h.sets (.inl h2), fun s hs => k.own (h.lab s hs) (.inl h3)⟩
theorem RIdx.turn {E : List (List Lbl)} (h : RIdx w base q E) (k : Turn b ts mp w w') (h1 : 175 ∉ ts) (h2 : 120 ∉ ts) (h3 : 245 ∉ ts) : RIdx w' base q E := by
  obtain ⟨sv, L, h, e⟩ := h
  exact ⟨sv, L, h.turn k h1 h2 h3, e⟩
theorem RIdx.below {E : List (List Lbl)} (h : RIdx w base q E) (k : Below w.heap.size w w') : RIdx w' base q E :=
  h.turn (Turn.of_below k w.heap.size [] false) (by simp) (by simp) (by simp)
end
end Go.Proofs.YtbijjjhfekkfaaaGreat

namespace Go.Proofs.YtbijjjhfekkfaaaGreat
set_option maxRecDepth 100000
open Go.RowKit Go.WideShapes Go.ChangeShapes

theorem lcmpL (A B : Option Addr) (n m c c2 : Nat) (l l2 : List Lbl) (w : World) (h : LbF w A n l) (h2 : LbF w B m l2) :
    Calls Tryz.prog 68 #[.slice A n c, .slice B m c2] w fun e w' => e = .returned (.int .i64 (cmpLs l l2)) ∧ Below w.heap.size w w' := by
  refine (lcompare_any A B n m c c2 l l2 w _ _ h.row h2.row (Nat.le_refl _) (Nat.le_refl _) h.len h2.len (by have := h.fit; omega) (by have := h2.fit; omega)).mono ?_
  rintro e w' ⟨rfl, hg⟩
  exact ⟨rfl, hg.below⟩
theorem rcmpL (A B : Option Addr) (n m c c2 : Nat) (l l2 : List Lbl) (w : World) (h : LbF w A n l) (h2 : LbF w B m l2) :
    Calls Tryz.prog 63 #[.slice A n c, .slice B m c2] w fun e w' => e = .returned (.int .i64 (cmpLs l l2)) ∧ Below w.heap.size w w' := by
  refine (rcompare_any A B n m c c2 l l2 w _ _ h.row h2.row h.len h2.len (by have := h.fit; omega)).mono ?_
  rintro e w' ⟨rfl, q, rfl⟩
  exact ⟨rfl, rfl, rfl, rfl, Nat.le_refl _, fun _ _ => rfl⟩

namespace labelsOrder
end labelsOrder

end Go.Proofs.YtbijjjhfekkfaaaGreat

namespace Go.Proofs.YtbijjjhfekkfaaaGreat
set_option maxRecDepth 100000
open Go.RowKit

theorem lbF_own {w : World} {B : Nat} {e : TypeId} {l : List Lbl} {v : Value} (h : w.ownsRow B e 2 v l.length (l.flatMap Lbl.cells)) (hv : validP l) : ∃ A c, v = .slice A l.length c ∧ LbF w A l.length l ∧ l.length ≤ c := by
  obtain ⟨A, c, rfl, h1, h2⟩ := own_shape h
  have := valid_small hv
  exact ⟨A, c, rfl, ⟨h2, rfl, by omega, fun x hx => by have := this.2 x hx; omega⟩, h1⟩
/-- the document's number of a set, or -1 -/
noncomputable def findE (E : List (List Lbl)) (l : List Lbl) : Int := match atE E l with | some i => (i : Nat) | none => -1
theorem findE_first {E : List (List Lbl)} {l : List Lbl} {k : Nat} (hn : E.Nodup) (h : E[k]? = some l) : findE E l = (k : Int) := by rw [findE, atE_at hn h]
theorem findE_none {E : List (List Lbl)} {l : List Lbl} (h : ∀ x ∈ E, x ≠ l) : findE E l = -1 := by rw [findE, atE_none.2 fun hm => h l hm rfl]

set_option maxHeartbeats 1600000 in
theorem rfind_any (A : Option Addr) (n c : Nat) (l : List Lbl) (w : World) {base q : Nat} {E : List (List Lbl)} (h : RIdx w base q E) (hv : ∀ x ∈ E, validP x) (hn : E.Nodup) (hl : LbF w A n l) (hE : E.length ≤ 1048576) :
    Calls Tryz.prog 155 #[.pointer (some ⟨q, 0, none⟩), .slice A n c] w fun e w' => e = .returned (.int .i64 (findE E l)) ∧ Below w.heap.size w w' := by
  obtain ⟨sv, L, h, rfl⟩ := h
  obtain ⟨As, cs, rfl, hcs, _⟩ := own_shape h.sets
  rw [List.length_map] at hE
  have H := hidden h
  have HL := hidden hl
  obtain ⟨r, hr⟩ : ∃ r, findE (L.map SetR.l) l = r := ⟨_, rfl⟩
  rw [hr]
  have HR := hidden hr
  clear h hl hr
  go_enter Tryz.func155, Tryz.ntmps155
  go_wp2_with fail
  go_loopw [5] (fun vi wr => ∃ k : Nat, vi = .int .i64 (k : Int) ∧ k ≤ L.length ∧ Hid (∀ j < k, ∀ s, L[j]? = some s → s.l ≠ l) ∧ Hid (Below w.heap.size w wr)) (fun vi _ => L.length - (intOf vi).toNat)
  case atStart => exact ⟨0, rfl, Nat.zero_le _, hidden (by simp), hidden (Below.refl _ _)⟩
  case round =>
    obtain ⟨k, rfl, hk, hnot, hb⟩ := hrel
    have hi := H.out.turn (Turn.of_below hb.out base [] false) (by simp) (by simp) (by simp)
    have c0 := hi.blk.cell 0
    by_cases hlt : k < L.length
    · have k1 : (k : Int) < (L.length : Int) := by omega
      have k0 : (0 : Int) ≤ (k : Int) := by omega
      have fwk : IntKind.i64.wrap ((k : Int) + 1) = (k : Int) + 1 := Go.IntWalk.i64_in _ (by omega)
      obtain ⟨s, hs⟩ : ∃ s, L[k]? = some s := ⟨_, List.getElem?_eq_getElem hlt⟩
      obtain ⟨As', cs', e1, _, hr⟩ := own_shape hi.sets
      cases e1
      obtain ⟨g, o, rfl, hg, hc⟩ := hr.at_ (by omega)
      have ck : wr.cell? ⟨g, o + k, none⟩ = some s.v := by rw [hc k (by simpa using hlt), List.getElem?_map, hs]; rfl
      obtain ⟨A2, c2, hv2, hf2, _⟩ := lbF_own (hi.lab s (List.mem_of_getElem? hs)) (hv _ (List.mem_map.2 ⟨s, List.mem_of_getElem? hs, rfl⟩))
      rw [hv2] at ck
      have S1 := hidden (rcmpL A2 A s.l.length n c2 c s.l l wr hf2 (HL.out.on hb.out))
      have HS := hidden hs
      have HLT := hidden (show k + 1 ≤ L.length from hlt)
      clear hc hr hv2 hs hf2 hi
      go_wp2_with fail
      refine S1.out.mono ?_
      rintro e w2 ⟨rfl, b2⟩
      have HB2 := hidden (hb.out.trans (b2.mono hb.out.size))
      clear S1 b2
      by_cases hz : cmpLs s.l l = 0
      · have hfin : Hid (r = (k : Int)) := by
          rw [Hid, ← HR.out]
          refine findE_first hn ?_
          rw [List.getElem?_map, HS.out]
          exact congrArg some ((cmpLs_zero _ _).1 hz)
        go_wp2_with fail
        go_ret
        exact ⟨by rw [hfin.out]; rfl, HB2.out⟩
      · have hne : Hid (s.l ≠ l) := fun e => hz ((cmpLs_zero _ _).2 e)
        generalize cmpLs s.l l = z at *
        go_wp2_with fail
        go_roundw
        case rel =>
          refine ⟨k + 1, by go_num, HLT.out, hidden fun j hj t ht => ?_, HB2⟩
          rcases Nat.lt_succ_iff_lt_or_eq.1 hj with hj | rfl
          · exact hnot.out j hj t ht
          · rw [HS.out] at ht
            cases ht
            exact hne.out
        case measure => have := HLT.out; simp [intOf]; omega
    · obtain rfl : k = L.length := by omega
      have hfin : Hid (r = -1) := by
        rw [Hid, ← HR.out]
        refine findE_none fun x hx e => ?_
        obtain ⟨s, hs, rfl⟩ := List.mem_map.1 hx
        obtain ⟨j, hj, e2⟩ := List.getElem_of_mem hs
        exact hnot.out j hj s (by rw [List.getElem?_eq_getElem hj, e2]) e
      clear hi
      go_wp2_with fail
      go_ret
      exact ⟨by rw [hfin.out]; rfl, hb.out⟩
end Go.Proofs.YtbijjjhfekkfaaaGreat

namespace Go.Proofs.YtbijjjhfekkfaaaGreat
set_option maxRecDepth 100000
open Go.RowKit

theorem sizeB (l : List UInt8) : (⟨l.toArray⟩ : ByteArray).size = l.length := rfl

set_option maxHeartbeats 6400000 in
theorem renc_any (A : Option Addr) (n c : Nat) (l : List Lbl) (w : World) (h : LbF w A n l) :
    Calls Tryz.prog 154 #[.slice A n c] w fun e w' => e = .returned (.tuple #[.string (encLb l).1, .int .i64 (encLb l).2]) ∧ Below w.heap.size w w' := by
  have H := hidden h
  have S1 := hidden (makeRef A n c l w h)
  have S2 := hidden (fun W hW => rvalid_any A n c l W (h.on hW))
  clear h
  by_cases he : makeErr l = 0
  · rw [he] at S1
    by_cases hv : validP l
    · have HU := hidden (encLb_ok hv)
      obtain ⟨hl8, hlx⟩ := valid_small hv
      have hn8 : n ≤ 8 := by have := H.out.len; omega
      have HLX := hidden hlx
      rw [decide_eq_true hv] at S2
      have hu : IntKind.u64.wrap (n : Int) = (n : Int) := Go.IntWalk.u64_in _ (by omega)
      have hut := uintL_ten (v := n) (by omega)
      clear hv he hlx hl8
      go_enter Tryz.func154, Tryz.ntmps154
      go_wp2_with fail
      refine S1.out.mono ?_
      rintro e w1 ⟨B1, c1, rfl, _, b1⟩
      have B1 := hidden b1
      have S3 := hidden (S2.out w1 b1)
      clear b1 S1 S2
      go_wp2_with fail
      refine S3.out.mono ?_
      rintro e w2 ⟨rfl, b2⟩
      have HB2 := hidden (B1.out.trans (b2.mono B1.out.size))
      clear b2 S3 B1
      go_wp2_with fail
      refine (uintR_any n w2 (by omega)).mono ?_
      rintro e w3 ⟨rfl, b3⟩
      have HB3 := hidden (HB2.out.trans (b3.mono HB2.out.size))
      clear b3 HB2
      go_wp2_with fail
      go_loopw [7, 8] (fun vs vi wr => ∃ (k : Nat) (s : ByteArray), k ≤ n ∧ vi = .int .i64 k ∧ vs = .string s ∧ Hid (s = ⟨(uintL n ++ encB (l.take k)).toArray⟩) ∧ Hid (Below w.heap.size w wr)) (fun _ vi _ => n - (intOf vi).toNat)
      case atStart => exact ⟨0, _, Nat.zero_le _, rfl, rfl, hidden (bytes_eq (by simp [encB])), HB3⟩
      case round =>
        obtain ⟨k, s, hk, rfl, rfl, hs, hb⟩ := hrel
        have k0 : (0 : Int) ≤ (k : Int) := by omega
        by_cases hlt : k < n
        · have k1 : (k : Int) < (n : Int) := by omega
          obtain ⟨g, o, x, rfl, hg, hx, c0, c1, hxm⟩ := lb_cells (H.out.on hb.out) hlt
          obtain ⟨hx1, hx2⟩ := HLX.out x hxm
          have hel : (encB (l.take k)).length ≤ 116 * 8 := by
            have h1 := encB_len (l := l.take k) fun y hy => HLX.out y (List.mem_of_mem_take hy)
            have h2 : (l.take k).length ≤ 8 := by rw [List.length_take]; omega
            omega
          have hss : s.size ≤ 10 + 116 * 8 := by rw [hs.out, sizeB, List.length_append]; omega
          have t1 := textL_len hx1 (by omega)
          have t2 := textL_len hx2 (by omega)
          obtain ⟨T1, hT1⟩ : ∃ T, (⟨(textL x.name).toArray⟩ : ByteArray) = T := ⟨_, rfl⟩
          obtain ⟨T2, hT2⟩ : ∃ T, (⟨(textL x.value).toArray⟩ : ByteArray) = T := ⟨_, rfl⟩
          have z1 : T1.size ≤ 42 := by rw [← hT1, sizeB]; omega
          have z2 : T2.size ≤ 74 := by rw [← hT2, sizeB]; omega
          have S4 := hidden (fun W => textR_any x.name W (by omega))
          have S5 := hidden (fun W => textR_any x.value W (by omega))
          rw [hT1] at S4
          rw [hT2] at S5
          have hs2 : Hid (s ++ T1 ++ T2 = ⟨(uintL n ++ encB (l.take (k + 1))).toArray⟩) := by
            rw [Hid, hs.out, ← hT1, ← hT2, take_snoc? hx, encB_snoc]
            exact bytes_eq (by simp)
          have l1 : ¬ 9223372036854775807 < s.size + T1.size := by omega
          have l2 : ¬ 9223372036854775807 < s.size + T1.size + T2.size := by omega
          clear hx hxm hT1 hT2 t1 t2
          go_wp2_with fail
          refine (S4.out _).mono ?_
          rintro e w5 ⟨rfl, b5⟩
          have e1 : w5.cell? ⟨g, o + k * 2 + 1, none⟩ = some (.string x.value) := (b5.cell (p := ⟨g, o + k * 2 + 1, none⟩) hg).trans c1
          have HB5 := hidden (hb.out.trans (b5.mono hb.out.size))
          clear b5 c0 c1
          go_wp2_with fail
          refine (S5.out _).mono ?_
          rintro e w6 ⟨rfl, b6⟩
          have HB6 := hidden (HB5.out.trans (b6.mono HB5.out.size))
          clear b6 e1
          go_wp2_with fail
          go_roundw
          case rel => exact ⟨k + 1, _, by omega, by go_num, rfl, hs2, HB6⟩
          case measure => simp [intOf]; omega
        · have k2 : ¬ (k : Int) < (n : Int) := by omega
          have hkn : k = n := by omega
          go_wp2_with fail
          go_ret2
          rw [HU.out]
          have ht : l.take n = l := List.take_of_length_le (by have := H.out.len; omega)
          subst hkn
          have hln := H.out.len
          rw [hs.out]
          exact ⟨by rw [ht, hln]; rfl, hb.out⟩
    · have HU := hidden (encLb_bad he hv)
      rw [decide_eq_false hv] at S2
      clear hv he
      go_enter Tryz.func154, Tryz.ntmps154
      go_wp2_with fail
      refine S1.out.mono ?_
      rintro e w1 ⟨B1, c1, rfl, _, b1⟩
      have B1 := hidden b1
      have S3 := hidden (S2.out w1 b1)
      clear b1 S1 S2
      go_wp2_with fail
      refine S3.out.mono ?_
      rintro e w2 ⟨rfl, b2⟩
      have HB2 := hidden (B1.out.trans (b2.mono B1.out.size))
      clear b2 S3 B1
      go_wp2_with fail
      go_ret2
      rw [HU.out]
      exact ⟨rfl, HB2.out⟩
  · have HU := hidden (encLb_err he)
    have e0 : (((makeErr l : Nat) : Int) != 0) = true := by simpa using he
    clear he
    go_enter Tryz.func154, Tryz.ntmps154
    go_wp2_with fail
    refine S1.out.mono ?_
    rintro e w1 ⟨B1, c1, rfl, _, b1⟩
    go_wp2_with fail
    go_ret2
    rw [HU.out]
    exact ⟨rfl, b1⟩
end Go.Proofs.YtbijjjhfekkfaaaGreat

namespace Go.Proofs.YtbijjjhfekkfaaaGreat
set_option maxRecDepth 100000
open Go.RowKit

theorem infoRL : (Tryz.prog.info? 120).map (fun i => (i.zero, i.size, i.bytes)) = some (some (.slice none 0 0), 1, 24) := by kernel_rfl
theorem RIdxG.grown {w w3 w10 : World} {base q : Nat} {sv v10 nv : Value} {L : List SetR} {l : List Lbl} (h : RIdxG w base q sv L) (b3 : Below w.heap.size w w3) (ho : w.ownsRow base 245 2 nv l.length (l.flatMap Lbl.cells))
    (hown : w10.ownsRow base 120 1 v10 (L.length + 1) (L.map SetR.v ++ [nv])) (hg : w3.grownBy w10 sv.ownBlock) :
    Whole1 w10 q 175 #[sv] ∧ RIdxG (w10.setCell ⟨q, 0, none⟩ v10) base q v10 (L ++ [⟨nv, l⟩]) ∧ Turn base [175, 120] false w (w10.setCell ⟨q, 0, none⟩ v10) := by
  have t3 := Turn.of_below b3 base [175, 120] false
  have h3 := h.turn (Turn.of_below b3 base [] false) (by simp) (by simp) (by simp)
  have t10 : Turn base [120] false w3 w10 := Turn.of_own h3.sets (Nat.le_refl _) (by simp) hg
  have hp10 : Whole1 w10 q 175 #[sv] := t10.whole h3.blk (.inr (by decide))
  have t11 : Turn base [175] false w10 (w10.setCell ⟨q, 0, none⟩ v10) := Turn.put hp10 h.qb (by simp) 0 v10
  refine ⟨hp10, ⟨hp10.put 0 v10, h.qb, ?_, fun s hs => ?_⟩, ?_⟩
  · have := t11.own hown (.inl (by decide))
    simpa using this
  · rcases List.mem_append.1 hs with hs | hs
    · exact t11.own (t10.own (h3.lab s hs) (.inl (by decide))) (.inl (by decide))
    · rw [List.mem_singleton.1 hs]
      exact t11.own (t10.own (own_below ho b3 (Nat.le_refl _)) (.inl (by decide))) (.inl (by decide))
  · exact t3.trans ((t10.wider (Nat.le_refl _) (by simp) (by simp)).trans (t11.wider (Nat.le_refl _) (by simp) (by simp)))

set_option maxHeartbeats 1600000 in
theorem radd_any (A : Option Addr) (n c : Nat) (l : List Lbl) (w : World) {base q : Nat} {E : List (List Lbl)} (h : RIdx w base q E) (hv : ∀ x ∈ E, validP x) (hn : E.Nodup) (hl : LbF w A n l) (ho : w.ownsRow base 245 2 (.slice A n c) l.length (l.flatMap Lbl.cells)) (hb : base ≤ w.heap.size) (hE : E.length ≤ 1048576) :
    Calls Tryz.prog 81 #[.pointer (some ⟨q, 0, none⟩), .slice A n c] w fun e w' => e = .returned (.tuple #[.int .i64 (addE E l).1.1, .bool (addE E l).1.2.1, .int .i64 (addE E l).1.2.2]) ∧ RIdx w' base q (addE E l).2 ∧ Turn base [175, 120] false w w' := by
  have S1 := hidden (renc_any A n c l w hl)
  have H := hidden h
  have HL := hidden hl
  have HO := hidden ho
  obtain ⟨iv, hiv, hz0, hz1, hz2⟩ := info_parts infoRL
  clear h hl ho
  by_cases hvl : validP l
  · have e2 : (encLb l).2 = 0 := enc_fit.2 hvl
    rw [e2] at S1
    generalize (encLb l).1 = key at *
    have eA : addE E l = match atE E l with | some i => ((((i : Nat) : Int), false, 0), E) | none => (((E.length : Int), true, 0), E ++ [l]) := by
      unfold addE
      rw [if_neg (by rw [e2]; simp)]
      cases atE E l <;> rfl
    obtain ⟨R, hR⟩ : ∃ R, addE E l = R := ⟨_, rfl⟩
    rw [hR]
    have HRR := hidden (hR.symm.trans eA)
    have HF : findE E l = match atE E l with | some i => (i : Nat) | none => -1 := rfl
    have HV := hidden hvl
    have hvv := hidden (And.intro hv hn)
    clear e2 eA hvl hR
    go_enter Tryz.func81, Tryz.ntmps81
    go_wp2_with fail
    refine S1.out.mono ?_
    rintro e w1 ⟨rfl, b1⟩
    have S2 := hidden (rfind_any A n c l w1 (H.out.below b1) hvv.out.1 hvv.out.2 (HL.out.on b1) hE)
    have B1 := hidden b1
    clear b1 S1
    go_wp2_with fail
    refine S2.out.mono ?_
    rintro e w2 ⟨rfl, b2⟩
    have B2 := hidden (B1.out.trans (b2.mono B1.out.size))
    clear b2 S2
    rw [HF]
    cases hat : atE E l with
    | some i =>
      have i0 : (0 : Int) ≤ (i : Int) := by omega
      obtain rfl : R = ((((i : Nat) : Int), false, 0), E) := by rw [HRR.out, hat]
      clear hat HF
      go_wp2_with fail
      go_ret3
      exact ⟨rfl, H.out.below B2.out, Turn.of_below B2.out _ _ _⟩
    | none =>
      obtain ⟨sv, L, hi, hL⟩ := H.out.below B2.out
      obtain ⟨As, cs, rfl, hcs, _⟩ := own_shape hi.sets
      have hLl : L.length = E.length := by rw [← hL, List.length_map]
      have HI := hidden hi
      have c0 := hi.blk.cell 0
      have hfr := Row.fresh w2 120 1 1 [.slice A n c] rfl
      have hs := hi.sets
      have hbs : base ≤ w2.heap.size := by have := B2.out.size; omega
      have HLL := hidden hL
      have HLE := hidden hLl
      have hE : L.length ≤ 1048576 := by omega
      obtain rfl : R = (((E.length : Int), true, 0), E ++ [l]) := by rw [HRR.out, hat]
      clear hat HF hi hL hLl
      go_wp2_with (at_builtin; refine wpList_app _ rfl _ _ 173 rfl base 120 iv _ 1 24 Tryz.underlying173 hiv hz0 hz1 hz2 rfl (by decide) _ _ _ rfl (hs.alloc _) _ _ _ _ _ rfl hfr (by simp [Value.oneCell']) (by unfold maxLen; omega) (by omega) (by simp; omega) ?_; intro v1 w3 hown1 hg1 hat1; obtain ⟨A10, c10, rfl, hc10, _⟩ := own_shape hown1; obtain ⟨hp10, hg10, ht10⟩ := HI.out.grown (l := l) ((Below.refl _ _).alloc (Nat.le_refl _) _) (own_below HO.out B2.out (Nat.le_refl _)) hown1 hg1; have d0 := hp10.cell 0; have f0 := hp10.free 0; have HG := hidden (And.intro hg10 ht10); clear hg10 ht10 hown1 hg1 hat1 hs hfr)
      go_ret3
      refine ⟨by rw [← HLE.out]; rfl, ⟨_, _, HG.out.1, by simp [HLL.out]⟩, (Turn.of_below B2.out _ _ _).trans HG.out.2⟩
  · have e2 : ¬ (encLb l).2 = 0 := fun h => hvl (enc_fit.1 h)
    have hne : ((encLb l).2 != 0) = true := by simpa using e2
    have eA : addE E l = ((0, false, (encLb l).2), E) := if_pos e2
    rw [eA]
    generalize (encLb l).2 = er at *
    clear eA
    go_enter Tryz.func81, Tryz.ntmps81
    go_wp2_with fail
    refine S1.out.mono ?_
    rintro e w1 ⟨rfl, b1⟩
    have h1 := hidden (H.out.below b1)
    clear S1
    go_wp2_with fail
    go_ret3
    exact ⟨rfl, h1.out, Turn.of_below b1 _ _ _⟩
end Go.Proofs.YtbijjjhfekkfaaaGreat

namespace Go.Proofs.YtbijjjhfekkfaaaGreat.Law14
set_option maxRecDepth 100000
open Go.RowKit Go.Proofs.YtbijjjhfekkfaaaGreat.TwnLbl

/-- a value's first hundred bytes -/
def cutS (x : Lbl) : Lbl := ⟨x.name, ⟨(x.value.data.toList.take 100).toArray⟩⟩

set_option maxHeartbeats 1600000 in
theorem ref_any (A : Option Addr) (n cap : Nat) (l : List Lbl) (w : World) (hr : Row w w.heap.size 2 A n (l.flatMap Lbl.cells)) (hl : l.length = n) (hn : n * 32 ≤ 140737488351232) :
    Calls Tryz.prog 82 #[.slice A n cap] w fun e w' => ∃ v, e = .returned v ∧ w'.ownsRow w.heap.size 245 2 v n (l.flatMap Lbl.cells) ∧ Below w.heap.size w w' := by
  obtain ⟨i0, hi, hz0, hz1, hz2⟩ := info_parts rinfo
  have hL := hidden hl
  have HR := hidden hr
  clear hl hr
  go_enter Tryz.func82, Tryz.ntmps82
  go_wp2
  go_loopw [3, 8] (fun v i wr => ∃ k : Nat, k ≤ n ∧ i = .int .i64 k ∧ wr.ownsRow w.heap.size 245 2 v k ((l.take k).flatMap Lbl.cells) ∧ Below w.heap.size w wr) (fun _ i _ => n - (intOf i).toNat)
  case atStart => exact ⟨0, Nat.zero_le _, rfl, World.ownsRow_nil _ _ _ _, Below.refl _ _⟩
  case round =>
    obtain ⟨k, hk1, rfl, hown, hb⟩ := hrel
    by_cases hlt : k < n
    · obtain ⟨gs, o, x, rfl, hgs, hx, hcl⟩ := row_at hk (HR.out.below hb) hL.out k hlt
      have c0 : wr.cell? ⟨gs, o + k * 2, none⟩ = some (.string x.name) := hcl 0 (by omega)
      have c1 : wr.cell? ⟨gs, o + k * 2 + 1, none⟩ = some (.string x.value) := hcl 1 (by omega)
      have hT := hidden (take_snoc? hx)
      have hbs := hb.size
      clear hx hcl
      have hfr := Row.fresh (wr.alloc (Obj.cells #[.string x.name, .string x.value] 114)) 245 2 1 [.string x.name, .string x.value] rfl
      rw [World.size_alloc] at hfr
      go_wp2_with (at_builtin; refine wpList_app _ rfl _ _ 120 rfl w.heap.size 245 i0 _ 2 32 Tryz.underlying120 hi hz0 hz1 hz2 rfl (by decide) _ _ _ rfl ((hown.alloc _).alloc _) _ _ _ _ _ rfl hfr (by simp [Value.oneCell']) (by unfold maxLen; omega) (by omega) (by simp; omega) ?_; intro v1 w1 hown1 hg1 hat1)
      go_roundw
      case rel =>
        refine ⟨k + 1, by omega, by go_num, ?_, ?_⟩
        · rw [hT.out, snoc_cells]; exact hown1
        · exact ((hb.alloc hbs _).alloc (by simp; omega) _).grown hg1 (by simp; omega) (fun j hj => (hown.lt j hj).1)
      case measure => simp [intOf]; omega
    · obtain rfl : n = k := by omega
      go_wp2
      go_ret
      exact ⟨_, rfl, by rw [List.take_of_length_le (by rw [hL.out]; exact Nat.le_refl _)] at hown; exact hown, hb⟩

theorem cut_ext (v : ByteArray) (M : Nat) (hM : min (v.size : Int) 100 = (M : Int)) : v.extract 0 M = ⟨(v.data.toList.take 100).toArray⟩ := by
  have h1 : v.data.toList.length = v.size := rfl
  apply ByteArray.ext
  rw [ByteArray.data_extract]
  apply Array.ext'
  rw [Array.toList_extract]
  simp only [List.extract_eq_take_drop, List.drop_zero, Nat.sub_zero]
  by_cases h : v.size ≤ 100
  · rw [List.take_of_length_le (by omega), List.take_of_length_le (by omega)]
  · have : M = 100 := by omega
    rw [this]
set_option maxHeartbeats 1600000 in
theorem cut_any (A : Option Addr) (n cap : Nat) (l : List Lbl) (w : World) (hr : Row w w.heap.size 2 A n (l.flatMap Lbl.cells)) (hl : l.length = n) (hn : n * 32 ≤ 140737488351232) :
    Calls Tryz.prog 80 #[.slice A n cap] w fun e w' => ∃ v, e = .returned v ∧ w'.ownsRow w.heap.size 114 2 v n ((l.map cutS).flatMap Lbl.cells) ∧ Below w.heap.size w w' := by
  obtain ⟨i0, hi, hz0, hz1, hz2⟩ := info_parts ClnLbl.info
  have hL := hidden hl
  have HR := hidden hr
  clear hl hr
  go_enter Tryz.func80, Tryz.ntmps80
  go_wp2
  go_loopw [3, 8] (fun v i wr => ∃ k : Nat, k ≤ n ∧ i = .int .i64 k ∧ wr.ownsRow w.heap.size 114 2 v k ((l.take k).map cutS |>.flatMap Lbl.cells) ∧ Below w.heap.size w wr) (fun _ i _ => n - (intOf i).toNat)
  case atStart => exact ⟨0, Nat.zero_le _, rfl, World.ownsRow_nil _ _ _ _, Below.refl _ _⟩
  case round =>
    obtain ⟨k, hk1, rfl, hown, hb⟩ := hrel
    obtain ⟨A7, c7, rfl, _, _⟩ := own_shape hown
    by_cases hlt : k < n
    · obtain ⟨gs, o, x, rfl, hgs, hx, hcl⟩ := row_at hk (HR.out.below hb) hL.out k hlt
      have c0 : wr.cell? ⟨gs, o + k * 2, none⟩ = some (.string x.name) := hcl 0 (by omega)
      have c1 : wr.cell? ⟨gs, o + k * 2 + 1, none⟩ = some (.string x.value) := hcl 1 (by omega)
      have hT := hidden (take_snoc? hx)
      obtain ⟨M, hM⟩ : ∃ M : Nat, min (x.value.size : Int) 100 = (M : Int) := ⟨(min (x.value.size : Int) 100).toNat, by omega⟩
      have hext := cut_ext x.value M hM
      have hM2 : (if 100 < (x.value.size : Int) then (100 : Int) else (x.value.size : Int)) = (M : Int) := by split <;> omega
      have hm0 : (0 : Int) ≤ (M : Int) := by omega
      have hm1 : (M : Int) ≤ (x.value.size : Int) := by omega
      have hm2 : M ≤ x.value.size := by omega
      obtain ⟨cv, hcv⟩ : ∃ cv, (⟨(x.value.data.toList.take 100).toArray⟩ : ByteArray) = cv := ⟨_, rfl⟩
      rw [hcv] at hext
      have HCV := hidden (show cutS x = ⟨x.name, cv⟩ from by rw [cutS, hcv])
      have hbs := hb.size
      obtain ⟨w1, hw1⟩ : ∃ w1, wr.alloc (Obj.cells #[.string x.name, .string x.value] 114) = w1 := ⟨_, rfl⟩
      have hx1 : Whole1 w1 wr.heap.size 114 #[.string x.name, .string x.value] := hw1 ▸ Whole1.new wr _ _
      have hb1 : Below w.heap.size w w1 := hw1 ▸ hb.alloc hbs _
      have hown1 : w1.ownsRow w.heap.size 114 2 (.slice A7 k c7) k ((l.take k).map cutS |>.flatMap Lbl.cells) := hw1 ▸ hown.alloc _
      have d0 := hx1.cell 0
      have d1 := hx1.cell 1
      have hfr := Row.fresh w1.drew 114 2 1 [.string x.name, .string cv] rfl
      have HX := hidden hw1
      have hs1 := hb1.size
      clear hx hcl hown hcv hw1
      have T := fun (ops : Array Oper) (o : Oper) (a : Act) (K : Act → World → Prop) (Q : Exit → Act → World → Prop) (E : Prop) (hg : o.guard = none) (s1 s2 : Operand) (ho : o.op = .call { callee := .builtin .append, args := #[s1, s2], argTypes := #[53, 53] }) (hs : a.eval s1 = .slice A7 k c7) (hx : a.eval s2 = .slice (some ⟨w1.heap.size, 0, none⟩) 1 1) h =>
        step_appA (P := Tryz.prog) (ops := ops) (o := o) (a := a) (K := K) (Q := Q) (E := E) (w1.drew.alloc (.cells #[.string x.name, .string cv] 114)) hg s1 s2 53 ho w.heap.size 114 i0 _ 2 32 Tryz.underlying53 hi hz0 hz1 hz2 rfl (by decide) _ _ _ hs (hown1.alloc _) _ _ _ _ _ hx hfr (by simp [Value.oneCell']) (by unfold maxLen; omega) (by omega) (by rw [World.size_alloc]; exact Nat.le_succ_of_le hs1) h
      go_upto_region 5 with (fail)
      rw [HX.out]
      go_region_law (refine T _ _ _ _ _ _ rfl _ _ rfl rfl rfl ?_; intro v10 w10 hown10 hg10 hat10)
      all_goals
        go_wp2_with fail
        go_roundw
        case rel =>
          refine ⟨k + 1, by omega, by go_num, ?_, ?_⟩
          · rw [hT.out, List.map_append, List.flatMap_append, List.map_singleton, HCV.out]; simpa [Lbl.cells] using hown10
          · exact (hb1.drew.alloc hs1 _).grown hg10 (by simp; omega) (fun j hj => (hown1.lt j hj).1)
        case measure => simp [intOf]; omega
    · obtain rfl : n = k := by omega
      go_wp2
      go_ret
      exact ⟨_, rfl, by rw [List.take_of_length_le (by rw [hL.out]; exact Nat.le_refl _)] at hown; exact hown, hb⟩

end Go.Proofs.YtbijjjhfekkfaaaGreat.Law14

namespace Go.Proofs.YtbijjjhfekkfaaaGreat
set_option maxRecDepth 100000
open Go.RowKit Go.WideShapes

section
variable {H : Type} {enc : TypeId × Value → H} {P : Program} {W : World} {b : Nat}

/-- A value of type t reads as one of f's values, its weight at most its bulk. -/
def OpensB (enc : TypeId × Value → H) (P : Program) (W : World) (b : Nat) (t : TypeId) {α : Type} (f : α → List Value) (G : α → Prop) (wt : α → Nat) : Prop :=
  ∀ (fuel : Nat) (cs : List Value) (x : DataW H × List MemPlace), DataW.trod enc P W 0 (fun _ => true) true fuel t cs = some x → Fits P W b t x → ∃ a, cs = f a ∧ G a ∧ wt a ≤ Rows.uptoBulk x.1
theorem Opens.one {t : TypeId} {α : Type} {f : α → List Value} {G : α → Prop} (h : Opens enc P W b t f G) : OpensB enc P W b t f G (fun _ => 1) := by
  intro fuel cs x hx hf
  obtain ⟨a, h1, h2⟩ := h fuel cs x hx hf
  exact ⟨a, h1, h2, bulk_pos _⟩
theorem bulk_sum {α : Type} {wt : α → Nat} {R : Nat → α} {D : Nat → DataW H} : ∀ (n : Nat), (∀ i, i < n → wt (R i) ≤ Rows.uptoBulk (D i)) → (((List.range n).map R).map wt).sum ≤ Rows.uptoBulkAll ((List.range n).map D) := by
  have happ : ∀ (l : List (DataW H)) (d : DataW H), Rows.uptoBulkAll (l ++ [d]) = Rows.uptoBulkAll l + Rows.uptoBulk d := by
    intro l d
    induction l with
    | nil => simp [Rows.uptoBulkAll]
    | cons x l ih => simp only [List.cons_append, Rows.uptoBulkAll]; omega
  intro n
  induction n with
  | zero => intro _; simp [Rows.uptoBulkAll]
  | succ n ih =>
    intro h
    have h1 := ih fun i hi => h i (by omega)
    have h2 := h n (by omega)
    rw [List.range_succ, List.map_append, List.map_append, List.map_append, List.sum_append, List.map_singleton, List.map_singleton, List.map_singleton, happ]
    simp only [List.sum_cons, List.sum_nil]
    omega

/-- a slice of what opens -/
theorem opens_slice_b {t e : TypeId} {α : Type} [Inhabited α] {f : α → List Value} {G : α → Prop} {wt : α → Nat} {k : Nat} (ht : P.underlying t = some (.slice e)) (hC : P.cellsOf e = k) (hk : 0 < k) (hlen : ∀ a, (f a).length = k) (he : OpensB enc P W b e f G wt) :
    OpensB enc P W b t (fun s : Sl α => [s.val]) (fun s => s.At W W.heap.size k f ∧ (∀ a ∈ s.l, G a) ∧ s.n * P.bytesOf e ≤ reachBytes ∧ s.n ≤ b) (fun s => (s.l.map wt).sum) := by
  intro fuel cs x h hf
  rcases Deep.open_slice ht h with ⟨hcs, hx⟩ | ⟨a, len, cap, m, n', D, Pl, hcs, _, hl, hm, hmm, hx, hi⟩
  · exact ⟨Sl.nil, hcs, ⟨⟨Nat.le_refl _, rfl, Row.nil⟩, by simp [Sl.nil], by simp [Sl.nil], Nat.zero_le _⟩, Nat.zero_le _⟩
  · simp only [if_true] at hmm
    subst hmm
    have hw0 := hf.light
    have hb0 := hf.small
    have ho0 := hf.old
    rw [hx] at hw0 hb0 ho0
    simp only [DataW.weights, ht, Rows.uptoBulk] at hw0 hb0
    have hel : ∀ i, i < len → ∃ y : α, (G y ∧ wt y ≤ Rows.uptoBulk (D i)) ∧ ∀ j, j < k → W.cell? (a.add (i * k + j)) = (f y)[j]? := by
      intro i hin
      obtain ⟨cs', hc, ht'⟩ := hi i (by omega)
      rw [hC] at hc
      have hDm : D i ∈ (List.range len).map D := List.mem_map.2 ⟨i, List.mem_range.2 hin, rfl⟩
      obtain ⟨y, hy, hG, hwt⟩ := he _ _ _ ht' ⟨fun p hp => ho0 p (List.mem_append_right _ (List.mem_flatMap.2 ⟨i, List.mem_range.2 (by omega), hp⟩)),
        fun q hq => hw0 q (List.mem_cons_of_mem _ (List.mem_append_left _ (weights_all hDm hq))), by have := bulk_mem hDm; simp only; omega⟩
      obtain ⟨_, hcl, hat⟩ := World.cells?_some hc
      refine ⟨y, ⟨hG, hwt⟩, fun j hj => ?_⟩
      rw [← hy, ← Deep.add_add]
      exact hat j (by omega)
    obtain ⟨R, hR⟩ := Deep.choose_lt (α := α) hel
    have hflat : ∀ (m : Nat), m ≤ len → (((List.range m).map R).flatMap f).length = m * k ∧ ∀ j, j < m * k → W.cell? (a.add j) = (((List.range m).map R).flatMap f)[j]? := by
      intro m
      induction m with
      | zero => intro _; exact ⟨by simp, fun j hj => by simp at hj⟩
      | succ m ih =>
        intro hm'
        obtain ⟨i1, i2⟩ := ih (by omega)
        obtain ⟨_, hr2⟩ := hR m (by omega)
        rw [List.range_succ, List.map_append, List.flatMap_append, List.map_cons, List.map_nil, List.flatMap_cons, List.flatMap_nil, List.append_nil]
        refine ⟨by rw [List.length_append, i1, hlen, Nat.succ_mul], fun j hj => ?_⟩
        rw [Nat.succ_mul] at hj
        rcases Nat.lt_or_ge j (m * k) with h1 | h1
        · rw [List.getElem?_append_left (by omega)]; exact i2 j h1
        · rw [List.getElem?_append_right (by omega), i1, ← hr2 _ (by omega), show m * k + (j - m * k) = j from by omega]
    obtain ⟨h1, h2⟩ := hflat len (Nat.le_refl _)
    refine ⟨⟨some a, len, m, (List.range len).map R⟩, hcs, ⟨⟨by simpa using hl, by simp, h1, fun hn => ?_⟩, ?_, ?_, ?_⟩, ?_⟩
    · obtain ⟨bk, off, spot⟩ := a
      have hpk : 0 < len * k := Nat.mul_pos hn hk
      have hc0 := h2 0 hpk
      have hsp : spot = none := by
        rw [List.getElem?_eq_getElem (by rw [h1]; exact hpk)] at hc0
        simpa [Addr.add] using World.cell?_spot hc0
      subst hsp
      refine ⟨bk, off, rfl, ?_, fun j hj => by rw [← h2 j hj, Addr.add_lit]⟩
      refine ho0 (.cell bk off) ?_
      refine List.mem_append_left _ (MemPlace.mem_row.2 ⟨0, ?_, by simp⟩)
      rw [hC]
      exact Nat.mul_pos (by simp only at hn; omega) hk
    · intro r hr
      simp only [List.mem_map, List.mem_range] at hr
      obtain ⟨i, hi', rfl⟩ := hr
      exact (hR i hi').1.1
    · have := hw0 _ (List.mem_cons_self ..)
      simp only [List.length_map, List.length_range] at this
      exact Nat.le_trans (Nat.mul_le_mul_right _ (Nat.le_add_right _ _)) this
    · have := bulk_len ((List.range len).map D)
      simp only [List.length_map, List.length_range] at this
      simp only; omega
    · have := bulk_sum (wt := wt) (R := R) (D := D) len fun i hi => (hR i hi).1.2
      rw [hx]
      simp only [Rows.uptoBulk]
      omega

/-- the fields of a struct whose fields are of one cell each, their bulks in sum -/
theorem open_ones_b {e : TypeId} {fs : Array Field} (he : P.underlying e = some (.struct fs)) (hone : Deep.oneCellFields P fs = true) (hC : P.cellsOf e = fs.size) {fuel : Nat} {cs : List Value} {x : DataW H × List MemPlace} (h : DataW.trod enc P W 0 (fun _ => true) true fuel e cs = some x) (hf : Fits P W b e x) :
    ∃ (n : Nat) (ys : List (DataW H × List MemPlace)), cs.length = fs.size ∧ ys.length = fs.size ∧ Rows.uptoBulkAll (ys.map Prod.fst) + 1 = Rows.uptoBulk x.1 ∧ ∀ (i : Nat) (f : Field), fs[i]? = some f → ∃ u y, cs[i]? = some u ∧ ys[i]? = some y ∧ DataW.trod enc P W 0 (fun _ => true) true n f.type [u] = some y ∧ Fits P W b f.type y := by
  obtain ⟨xs, n, _, rfl, hl, hlen, hfl⟩ := DataW.trod_struct he h
  rw [hC] at hl
  refine ⟨n, xs, hl, hlen, rfl, fun i f hi => ?_⟩
  have hif := (Array.getElem?_eq_some_iff.1 hi).1
  have hil : i < xs.length := by rw [hlen]; exact hif
  have hxi : xs[i]? = some xs[i] := List.getElem?_eq_getElem hil
  have hm := List.mem_of_getElem? hxi
  have h1 := hfl i f hi
  obtain ⟨ho, hk1⟩ := Deep.hone_of hone i _ hi
  rw [ho, hk1, List.drop_eq_getElem_cons (by omega)] at h1
  refine ⟨cs[i]'(by omega), xs[i], List.getElem?_eq_getElem (by omega), hxi, by rw [← hxi]; exact h1, ⟨fun p hp => hf.old p (List.mem_flatMap.2 ⟨_, hm, hp⟩), fun k hk => hf.light k ?_, ?_⟩⟩
  · simp only [DataW.weights, he]
    refine weights_each (i := i) (t := f.type) (d := xs[i].1) ?_ (by rw [List.getElem?_map, hxi]; rfl) hk
    rw [List.getElem?_map, Array.getElem?_toList, hi]; rfl
  · have h1 : Rows.uptoBulkAll (xs.map Prod.fst) + 1 ≤ b := hf.small
    have h2 := bulk_mem (List.mem_map_of_mem (f := Prod.fst) hm)
    omega
end

section
variable {H : Type} {enc : TypeId × Value → H} {P : Program} {W : World} {b : Nat}
theorem open_arg_slice_b {t e : TypeId} {α : Type} [Inhabited α] {f : α → List Value} {G : α → Prop} {wt : α → Nat} {k base : Nat} {v : Value} {d : DataW H} {ps : List MemPlace} (ht : P.underlying t = some (.slice e)) (hC : P.cellsOf e = k) (hk : 0 < k) (hlen : ∀ a, (f a).length = k) (he : OpensB enc P W b e f G wt)
    (hv : Value.okWide P W .any base t v) (h : DataW.Trod enc P W 0 (fun _ => true) true t v d ps) (hF : Fits P W b t (d, ps)) :
    ∃ s : Sl α, v = s.val ∧ (s.At W W.heap.size k f ∧ (∀ a ∈ s.l, G a) ∧ s.n * P.bytesOf e ≤ reachBytes ∧ s.n ≤ b) ∧ (s.l.map wt).sum ≤ b := by
  obtain ⟨A, n, c, rfl⟩ := okWide_slice ht hv
  obtain ⟨fuel, hf⟩ := h
  obtain ⟨s, hs, hG, hw⟩ := opens_slice_b ht hC hk hlen he _ _ _ hf hF
  simp only [Value.cells, List.cons.injEq, and_true] at hs
  exact ⟨s, hs, hG, Nat.le_trans hw hF.small⟩
end
end Go.Proofs.YtbijjjhfekkfaaaGreat

namespace Go.Proofs.YtbijjjhfekkfaaaGreat
set_option maxRecDepth 100000
open Go.RowKit Go.WideShapes

/-- lists of labels as they lie -/
structure LLb (w : World) (A : Option Addr) (N : Nat) (ss : List (Sl Lbl)) : Prop where
  row : Row w w.heap.size 1 A N (ss.map Sl.val)
  len : ss.length = N
  each : ∀ s ∈ ss, LbF w s.A s.n s.l ∧ s.n ≤ s.c
  few : N ≤ 1048576
theorem LLb.on {w w' : World} {A : Option Addr} {N : Nat} {ss : List (Sl Lbl)} (h : LLb w A N ss) (hb : Below w.heap.size w w') : LLb w' A N ss :=
  ⟨(h.row.below hb).more hb.size, h.len, fun s hs => ⟨(h.each s hs).1.on hb, (h.each s hs).2⟩, h.few⟩
theorem llb_cell {w : World} {A : Option Addr} {N : Nat} {ss : List (Sl Lbl)} (h : LLb w A N ss) {k : Nat} (hk : k < N) : ∃ g o s, A = some ⟨g, o, none⟩ ∧ g < w.heap.size ∧ ss[k]? = some s ∧ w.cell? ⟨g, o + k, none⟩ = some (.slice s.A s.n s.c) ∧ LbF w s.A s.n s.l ∧ s.n ≤ s.c := by
  have hl := h.len
  obtain ⟨g, o, e, hb, hc⟩ := h.row.at_ (by omega)
  obtain ⟨s, hs⟩ : ∃ s, ss[k]? = some s := ⟨_, List.getElem?_eq_getElem (by omega)⟩
  have hm := h.each s (List.mem_of_getElem? hs)
  refine ⟨g, o, s, e, hb, hs, ?_, hm.1, hm.2⟩
  have := hc k (by omega)
  rw [this, List.getElem?_map, hs]
  rfl
section
variable {H : Type} {enc : TypeId × Value → H} {W : World} {b : Nat}
instance : Inhabited Lbl := ⟨⟨⟨#[]⟩, ⟨#[]⟩⟩⟩
instance : Inhabited (Sl Lbl) := ⟨Sl.nil⟩
theorem map_val (l : List (Sl Lbl)) : l.flatMap (fun s => [s.val]) = l.map Sl.val := by
  induction l with
  | nil => rfl
  | cons x l ih => simp only [List.flatMap_cons, List.map_cons, ih]; rfl
theorem open_sets {base : Nat} {v : Value} {d : DataW H} {ps : List MemPlace} (hv : Value.okWide Tryz.prog W .any base 60 v) (h : DataW.Trod enc Tryz.prog W 0 (fun _ => true) true 60 v d ps) (hF : Fits Tryz.prog W b 60 (d, ps)) (hb : b ≤ 1048576) :
    ∃ (A : Option Addr) (n c : Nat) (ss : List (Sl Lbl)), v = .slice A n c ∧ LLb W A n ss := by
  have hin : OpensB enc Tryz.prog W b 53 (fun s : Sl Lbl => [s.val]) _ _ := opens_slice_b (k := 2) (f := Lbl.cells) Tryz.underlying53 (by kernel_rfl) (by decide) (fun _ => rfl) opens_lblS.one
  obtain ⟨s, rfl, ⟨⟨h1, h2, h3⟩, h4, h5, h6⟩, _⟩ := open_arg_slice_b (k := 1) (f := fun s : Sl Lbl => [s.val]) Tryz.underlying60 (by kernel_rfl) (by decide) (fun _ => rfl) hin hv h hF
  rw [map_val] at h3
  refine ⟨s.A, s.n, s.c, s.l, rfl, h3, h2, fun x hx => ?_, by omega⟩
  obtain ⟨⟨k1, k2, k3⟩, k4, k5, _⟩ := h4 x hx
  rw [show Tryz.prog.bytesOf 114 = 32 from by kernel_rfl] at k5
  unfold reachBytes at k5
  exact ⟨⟨k3, k2, by omega, k4⟩, k1⟩
end
end Go.Proofs.YtbijjjhfekkfaaaGreat

namespace Go.Proofs.YtbijjjhfekkfaaaGreat
set_option maxRecDepth 100000
open Go.RowKit

/-- labels in memory of the call's own, within the reach -/
theorem lbF_new {w : World} {B : Nat} {e : TypeId} {l : List Lbl} {v : Value} {n : Nat} (h : w.ownsRow B e 2 v n (l.flatMap Lbl.cells)) (hn : l.length = n) (hf : n * 32 ≤ 140737488351232) (hs : ∀ x ∈ l, x.name.size ≤ 140737488355328 ∧ x.value.size ≤ 140737488355328) : ∃ A c, v = .slice A n c ∧ LbF w A n l ∧ n ≤ c := by
  obtain ⟨A, c, rfl, h1, h2⟩ := own_shape h
  exact ⟨A, c, rfl, ⟨h2, hn, hf, hs⟩, h1⟩
theorem cutS_sz {l : List Lbl} (hs : ∀ x ∈ l, x.name.size ≤ 140737488355328 ∧ x.value.size ≤ 140737488355328) : ∀ x ∈ l.map Law14.cutS, x.name.size ≤ 140737488355328 ∧ x.value.size ≤ 140737488355328 := fun x hx => by
  obtain ⟨y, hy, rfl⟩ := List.mem_map.1 hx
  have := hs y hy
  refine ⟨this.1, Nat.le_trans (show (Law14.cutS y).value.size ≤ y.value.size from ?_) this.2⟩
  show (y.value.data.toList.take 100).toArray.size ≤ y.value.size
  rw [List.size_toArray, List.length_take]
  exact Nat.min_le_right _ _
theorem addE_len (E : List (List Lbl)) (l : List Lbl) : (addE E l).2.length ≤ E.length + 1 := by
  unfold addE
  split
  · exact Nat.le_succ _
  · split
    · exact Nat.le_succ _
    · simp
/-- an index and the document's, of the same sets -/
def Both (w : World) (base p q : Nat) (E : List (List Lbl)) : Prop := Idx w base p E ∧ RIdx w base q E
theorem Both.on {w w' : World} {base p q : Nat} {E : List (List Lbl)} (h : Both w base p q E) (hb : Below w.heap.size w w') : Both w' base p q E := ⟨h.1.below hb, h.2.below hb⟩
set_option maxHeartbeats 3200000 in
theorem built_any (A : Option Addr) (n c : Nat) (ss : List (Sl Lbl)) (w : World) (h : LLb w A n ss) :
    Calls Tryz.prog 23 #[.slice A n c] w fun e w' => ∃ p q E, e = .returned (.tuple #[.pointer (some ⟨p, 0, none⟩), .pointer (some ⟨q, 0, none⟩), .bool true]) ∧ Both w' w.heap.size p q E ∧ E.length ≤ n ∧ Below w.heap.size w w' := by
  have S0 := hidden (idx_new w (Nat.le_refl w.heap.size))
  have H := hidden h
  have hfew := h.few
  clear h
  go_enter Tryz.func23, Tryz.ntmps23
  go_wp2_with fail
  refine S0.out.mono ?_
  rintro e w1 ⟨p, rfl, hi1, b1⟩
  have HI := hidden hi1
  have B1 := hidden b1
  clear S0 hi1 b1
  go_wp2_with fail
  obtain ⟨Q, hQ⟩ : ∃ Q, w1.heap.size = Q := ⟨_, rfl⟩
  have hR0 : RIdx (w1.alloc (.cells #[.slice none 0 0] 175)) w.heap.size Q [] := ⟨.slice none 0 0, [], ⟨hQ ▸ Whole1.new w1 _ _, by rw [← hQ]; exact B1.out.size, World.ownsRow_nil _ _ _ _, by simp⟩, rfl⟩
  have hb1 : Below w1.heap.size w1 (w1.alloc (.cells #[.slice none 0 0] 175)) := (Below.refl _ _).alloc (Nat.le_refl _) _
  have HB0 := hidden (show Both _ w.heap.size p Q [] from ⟨HI.out.below hb1, hR0⟩)
  have B0 := hidden (B1.out.trans (hb1.mono B1.out.size))
  rw [hQ]
  clear hR0 hb1 hQ HI B1
  generalize w1.alloc (.cells #[.slice none 0 0] 175) = w2 at *
  go_loopw [20] (fun vi wr => ∃ (k : Nat) (E : List (List Lbl)), vi = .int .i64 (k : Int) ∧ k ≤ n ∧ Hid (Both wr w.heap.size p Q E) ∧ Hid (E.length ≤ k) ∧ Hid (Below w.heap.size w wr)) (fun vi _ => n - (intOf vi).toNat)
  case atStart => exact ⟨0, [], rfl, Nat.zero_le _, HB0, hidden (Nat.le_refl _), B0⟩
  case round =>
    obtain ⟨k, E, rfl, hk, hI, hEk, hb⟩ := hrel
    clear HB0 B0
    by_cases hlt : k < n
    · have k1 : (k : Int) < (n : Int) := by omega
      have k0 : (0 : Int) ≤ (k : Int) := by omega
      have fwk : IntKind.i64.wrap ((k : Int) + 1) = (k : Int) + 1 := Go.IntWalk.i64_in _ (by omega)
      obtain ⟨g, o, s, rfl, hg, hs, ck, hf, hc⟩ := llb_cell (H.out.on hb.out) hlt
      have HF := hidden hf
      have HLT := hidden (show k + 1 ≤ n from hlt)
      have HS := hidden (List.mem_of_getElem? hs)
      clear hs hf
      go_wp2_with fail
      refine (Law14.cut_any s.A s.n s.c s.l wr HF.out.row HF.out.len HF.out.fit).mono ?_
      rintro e w3 ⟨v3, rfl, ho3, b3⟩
      obtain ⟨A3, c3, rfl, hf3, hc3⟩ := lbF_new ho3 (by rw [List.length_map, HF.out.len]) HF.out.fit (cutS_sz HF.out.sz)
      have hsz3 : w.heap.size ≤ w3.heap.size := by have := hb.out.size; have := b3.size; omega
      have hE3 : E.length ≤ 1048576 := by have := hEk.out; omega
      have S3 := hidden (idx_add A3 s.n c3 (s.l.map Law14.cutS) w3 (hI.out.1.below b3) (lbT_own (ho3) hf3) hc3 hsz3 hE3)
      obtain ⟨l', hl'⟩ : ∃ l', s.l.map Law14.cutS = l' := ⟨_, rfl⟩
      have hl2 : Hid (l'.length = s.n) := by rw [Hid, ← hl', List.length_map]; exact HF.out.len
      have hsz : Hid (∀ x ∈ l', x.name.size ≤ 140737488355328 ∧ x.value.size ≤ 140737488355328) := by rw [← hl']; exact hidden (cutS_sz HF.out.sz)
      have HL' := hidden hl'
      have hlen := addE_len E l'
      obtain ⟨⟨⟨rn, rf, re⟩, E'⟩, hR⟩ : ∃ R, addE E l' = R := ⟨_, rfl⟩
      have HR := hidden hR
      rw [hl', hR] at S3
      rw [hR] at hlen
      dsimp only at S3 hlen
      have HE' := hidden (show E'.length ≤ k + 1 by have := hEk.out; omega)
      have HV := hidden hI.out.1.valid
      have HRI3 := hidden (hI.out.2.below b3)
      have B3 := hidden (hb.out.trans (b3.mono hb.out.size))
      clear hl' hR hlen ho3 b3 hf3
      go_wp2_with fail
      refine S3.out.mono ?_
      rintro e w4 ⟨rfl, hi4, t4⟩
      have B4 := hidden (B3.out.trans (t4.below (Nat.le_refl _) hsz3))
      have HR4 := hidden (HRI3.out.turn t4 (by decide) (by decide) (by decide))
      have HI4 := hidden hi4
      have HF4 := hidden ((H.out.on B4.out).each s HS.out).1
      clear S3 t4 hi4 HRI3
      go_wp2_with fail
      refine (Law14.cut_any s.A s.n s.c s.l w4 HF4.out.row HF4.out.len HF4.out.fit).mono ?_
      rintro e w5 ⟨v5, rfl, ho5, b5⟩
      rw [HL'.out] at ho5
      obtain ⟨A5, c5, rfl, hf5, hc5⟩ := lbF_new ho5 hl2.out HF.out.fit hsz.out
      have HF5 := hidden hf5
      have B5 := hidden (B4.out.trans (b5.mono B4.out.size))
      have HI5 := hidden (HI4.out.below b5)
      have HR5 := hidden (HR4.out.below b5)
      clear ho5 hf5 b5 HI4 HR4 HF4
      go_wp2_with fail
      refine (Law14.ref_any A5 s.n c5 l' w5 HF5.out.row HF5.out.len HF5.out.fit).mono ?_
      rintro e w6 ⟨v6, rfl, ho6, b6⟩
      obtain ⟨A6, c6, rfl, hf6, hc6⟩ := lbF_new ho6 hl2.out HF.out.fit hsz.out
      have B6 := hidden (B5.out.trans (b6.mono B5.out.size))
      have HI6 := hidden (HI5.out.below b6)
      have S6 := hidden (radd_any A6 s.n c6 l' w6 (HR5.out.below b6) HV.out.1 HV.out.2 hf6 (by rw [hl2.out]; exact own_downA ho6 B5.out.size) B6.out.size hE3)
      rw [HR.out] at S6
      dsimp only at S6
      clear ho6 hf6 b6 HI5 HR5 HF5
      go_wp2_with fail
      refine S6.out.mono ?_
      rintro e w7 ⟨rfl, hr7, t7⟩
      have B7 := hidden (B6.out.trans (t7.below (Nat.le_refl _) B6.out.size))
      have HB7 := hidden (show Both w7 w.heap.size p Q E' from ⟨HI6.out.turn t7 (by decide) (by decide) (by decide) (by decide), hr7⟩)
      obtain ⟨sv7, L7, hr7, e7⟩ := hr7
      have hL7 : L7.length = E'.length := by rw [← e7, List.length_map]
      obtain ⟨A7, c7, rfl, _, _⟩ := own_shape hr7.sets
      have d0 := hr7.blk.cell 0
      rw [hL7] at d0
      have SL := hidden (fun w' hw => idx_len w' (HB7.out.on hw).1)
      clear S6 t7 hr7 e7 hL7 HI6
      go_upto_region 7 with (fail)
      have d1 : w7.drew.cell? ⟨Q, 0, none⟩ = some (.slice A7 E'.length c7) := d0
      have SL1 := hidden (SL.out w7.drew (Below.refl _ _).drew)
      clear SL
      go_region_held3 (fun w' => w'.cell? ⟨Q, 0, none⟩ = some (.slice A7 E'.length c7)) (exact d1)
        (first | (go_at_call 27; refine SL1.out.mono ?_; rintro e w8 ⟨rfl, rfl⟩))
      all_goals
        go_wp2_with fail
        go_roundw
        case rel => exact ⟨k + 1, E', by go_num, HLT.out, hidden (HB7.out.on (Below.refl _ _).drew), HE', hidden B7.out.drew⟩
        case measure => have := HLT.out; simp [intOf]; omega
    · obtain rfl : k = n := by omega
      go_wp2_with fail
      go_ret3
      exact ⟨_, _, _, rfl, hI.out, hEk.out, hb.out⟩
end Go.Proofs.YtbijjjhfekkfaaaGreat
