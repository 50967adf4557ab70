/- The document's index as it lies. No program is walked here. LabelsOrder: whatever two lists are held against one another, the order is the document's, turned when they are. No condition. The document's Find, walked. Condition: the index is one, of valid sets. The reference's Encode, walked: the bytes of a set. Condition: the row is within the reach. -/
import Derived.Test.YtalnndenncnbdaaGreatPkf99cf16e
import Derived.Test.YtalnndenncnbdaaGreatPkfe08034b
import Derived.Test.YtalnndenncnbdaaGreatPkfd37fbbc
import Derived.Test.YtalnndenncnbdaaGreatPk81e63c35
namespace Go.Proofs.YtalnndenncnbdaaGreat
set_option maxRecDepth 100000
open Go.RowKit

/-- the document's index of these sets -/
structure RIdxG (w : World) (base q : Nat) (sv : Value) (L : List SetR) : Prop where
  blk : Whole1 w q 31 #[sv]
  qb : base ≤ q
  sets : w.ownsRow base 32 1 sv L.length (L.map SetR.v)
  lab : ∀ s ∈ L, w.ownsRow base 87 2 s.v s.l.length (s.l.flatMap Lbl.cells)
def RIdx (w : World) (base q : Nat) (E : List (List Lbl)) : Prop := ∃ sv L, RIdxG w base q sv L ∧ L.map SetR.l = E
section
variable {w w' : World} {base b q : Nat} {sv : Value} {L : List SetR} {ts : List TypeId} {mp : Bool}
theorem RIdxG.turn (h : RIdxG w base q sv L) (k : Turn b ts mp w w') (h1 : 31 ∉ ts) (h2 : 32 ∉ ts) (h3 : 87 ∉ ts) : RIdxG w' base q sv L :=
  ⟨k.whole h.blk (.inr h1), h.qb, k.own h.sets (.inl h2), fun s hs => k.own (h.lab s hs) (.inl h3)⟩
theorem RIdx.turn {E : List (List Lbl)} (h : RIdx w base q E) (k : Turn b ts mp w w') (h1 : 31 ∉ ts) (h2 : 32 ∉ ts) (h3 : 87 ∉ ts) : RIdx w' base q E := by
  obtain ⟨sv, L, h, e⟩ := h
  exact ⟨sv, L, h.turn k h1 h2 h3, e⟩
theorem RIdx.below {E : List (List Lbl)} (h : RIdx w base q E) (k : Below w.heap.size w w') : RIdx w' base q E :=
  h.turn (Turn.of_below k w.heap.size [] false) (by simp) (by simp) (by simp)
end
end Go.Proofs.YtalnndenncnbdaaGreat

namespace Go.Proofs.YtalnndenncnbdaaGreat
set_option maxRecDepth 100000
open Go.RowKit Go.WideShapes Go.ChangeShapes

theorem lcmpL (A B : Option Addr) (n m c c2 : Nat) (l l2 : List Lbl) (w : World) (h : LbF w A n l) (h2 : LbF w B m l2) :
    Calls Tryz.prog 29 #[.slice A n c, .slice B m c2] w fun e w' => e = .returned (.int .i64 (cmpLs l l2)) ∧ Below w.heap.size w w' := by
  refine (lcompare_any A B n m c c2 l l2 w _ _ h.row h2.row (Nat.le_refl _) (Nat.le_refl _) h.len h2.len (by have := h.fit; omega) (by have := h2.fit; omega)).mono ?_
  rintro e w' ⟨rfl, hg⟩
  exact ⟨rfl, hg.below⟩
theorem rcmpL (A B : Option Addr) (n m c c2 : Nat) (l l2 : List Lbl) (w : World) (h : LbF w A n l) (h2 : LbF w B m l2) :
    Calls Tryz.prog 12 #[.slice A n c, .slice B m c2] w fun e w' => e = .returned (.int .i64 (cmpLs l l2)) ∧ Below w.heap.size w w' := by
  refine (rcompare_any A B n m c c2 l l2 w _ _ h.row h2.row h.len h2.len (by have := h.fit; omega)).mono ?_
  rintro e w' ⟨rfl, q, rfl⟩
  exact ⟨rfl, rfl, rfl, rfl, Nat.le_refl _, fun _ _ => rfl⟩

namespace labelsOrder
end labelsOrder

end Go.Proofs.YtalnndenncnbdaaGreat

namespace Go.Proofs.YtalnndenncnbdaaGreat
set_option maxRecDepth 100000
open Go.RowKit

theorem lbF_own {w : World} {B : Nat} {e : TypeId} {l : List Lbl} {v : Value} (h : w.ownsRow B e 2 v l.length (l.flatMap Lbl.cells)) (hv : validP l) : ∃ A c, v = .slice A l.length c ∧ LbF w A l.length l ∧ l.length ≤ c := by
  obtain ⟨A, c, rfl, h1, h2⟩ := own_shape h
  have := valid_small hv
  exact ⟨A, c, rfl, ⟨h2, rfl, by omega, fun x hx => by have := this.2 x hx; omega⟩, h1⟩
/-- the document's number of a set, or -1 -/
noncomputable def findE (E : List (List Lbl)) (l : List Lbl) : Int := match atE E l with | some i => (i : Nat) | none => -1
theorem findE_first {E : List (List Lbl)} {l : List Lbl} {k : Nat} (hn : E.Nodup) (h : E[k]? = some l) : findE E l = (k : Int) := by rw [findE, atE_at hn h]
theorem findE_none {E : List (List Lbl)} {l : List Lbl} (h : ∀ x ∈ E, x ≠ l) : findE E l = -1 := by rw [findE, atE_none.2 fun hm => h l hm rfl]

set_option maxHeartbeats 1600000 in
theorem rfind_any (A : Option Addr) (n c : Nat) (l : List Lbl) (w : World) {base q : Nat} {E : List (List Lbl)} (h : RIdx w base q E) (hv : ∀ x ∈ E, validP x) (hn : E.Nodup) (hl : LbF w A n l) (hE : E.length ≤ 1048576) :
    Calls Tryz.prog 15 #[.pointer (some ⟨q, 0, none⟩), .slice A n c] w fun e w' => e = .returned (.int .i64 (findE E l)) ∧ Below w.heap.size w w' := by
  obtain ⟨sv, L, h, rfl⟩ := h
  obtain ⟨As, cs, rfl, hcs, _⟩ := own_shape h.sets
  rw [List.length_map] at hE
  have H := hidden h
  have HL := hidden hl
  obtain ⟨r, hr⟩ : ∃ r, findE (L.map SetR.l) l = r := ⟨_, rfl⟩
  rw [hr]
  have HR := hidden hr
  clear h hl hr
  go_enter Tryz.func15, Tryz.ntmps15
  go_wp2_with fail
  go_loopw [5] (fun vi wr => ∃ k : Nat, vi = .int .i64 (k : Int) ∧ k ≤ L.length ∧ Hid (∀ j < k, ∀ s, L[j]? = some s → s.l ≠ l) ∧ Hid (Below w.heap.size w wr)) (fun vi _ => L.length - (intOf vi).toNat)
  case atStart => exact ⟨0, rfl, Nat.zero_le _, hidden (by simp), hidden (Below.refl _ _)⟩
  case round =>
    obtain ⟨k, rfl, hk, hnot, hb⟩ := hrel
    have hi := H.out.turn (Turn.of_below hb.out base [] false) (by simp) (by simp) (by simp)
    have c0 := hi.blk.cell 0
    by_cases hlt : k < L.length
    · have k1 : (k : Int) < (L.length : Int) := by omega
      have k0 : (0 : Int) ≤ (k : Int) := by omega
      have fwk : IntKind.i64.wrap ((k : Int) + 1) = (k : Int) + 1 := Go.IntWalk.i64_in _ (by omega)
      obtain ⟨s, hs⟩ : ∃ s, L[k]? = some s := ⟨_, List.getElem?_eq_getElem hlt⟩
      obtain ⟨As', cs', e1, _, hr⟩ := own_shape hi.sets
      cases e1
      obtain ⟨g, o, rfl, hg, hc⟩ := hr.at_ (by omega)
      have ck : wr.cell? ⟨g, o + k, none⟩ = some s.v := by rw [hc k (by simpa using hlt), List.getElem?_map, hs]; rfl
      obtain ⟨A2, c2, hv2, hf2, _⟩ := lbF_own (hi.lab s (List.mem_of_getElem? hs)) (hv _ (List.mem_map.2 ⟨s, List.mem_of_getElem? hs, rfl⟩))
      rw [hv2] at ck
      have S1 := hidden (rcmpL A2 A s.l.length n c2 c s.l l wr hf2 (HL.out.on hb.out))
      have HS := hidden hs
      have HLT := hidden (show k + 1 ≤ L.length from hlt)
      clear hc hr hv2 hs hf2 hi
      go_wp2_with fail
      refine S1.out.mono ?_
      rintro e w2 ⟨rfl, b2⟩
      have HB2 := hidden (hb.out.trans (b2.mono hb.out.size))
      clear S1 b2
      by_cases hz : cmpLs s.l l = 0
      · have hfin : Hid (r = (k : Int)) := by
          rw [Hid, ← HR.out]
          refine findE_first hn ?_
          rw [List.getElem?_map, HS.out]
          exact congrArg some ((cmpLs_zero _ _).1 hz)
        go_wp2_with fail
        go_ret
        exact ⟨by rw [hfin.out]; rfl, HB2.out⟩
      · have hne : Hid (s.l ≠ l) := fun e => hz ((cmpLs_zero _ _).2 e)
        generalize cmpLs s.l l = z at *
        go_wp2_with fail
        go_roundw
        case rel =>
          refine ⟨k + 1, by go_num, HLT.out, hidden fun j hj t ht => ?_, HB2⟩
          rcases Nat.lt_succ_iff_lt_or_eq.1 hj with hj | rfl
          · exact hnot.out j hj t ht
          · rw [HS.out] at ht
            cases ht
            exact hne.out
        case measure => have := HLT.out; simp [intOf]; omega
    · obtain rfl : k = L.length := by omega
      have hfin : Hid (r = -1) := by
        rw [Hid, ← HR.out]
        refine findE_none fun x hx e => ?_
        obtain ⟨s, hs, rfl⟩ := List.mem_map.1 hx
        obtain ⟨j, hj, e2⟩ := List.getElem_of_mem hs
        exact hnot.out j hj s (by rw [List.getElem?_eq_getElem hj, e2]) e
      clear hi
      go_wp2_with fail
      go_ret
      exact ⟨by rw [hfin.out]; rfl, hb.out⟩
end Go.Proofs.YtalnndenncnbdaaGreat

namespace Go.Proofs.YtalnndenncnbdaaGreat
set_option maxRecDepth 100000
open Go.RowKit

theorem sizeB (l : List UInt8) : (⟨l.toArray⟩ : ByteArray).size = l.length := rfl

set_option maxHeartbeats 6400000 in
theorem renc_any (A : Option Addr) (n c : Nat) (l : List Lbl) (w : World) (h : LbF w A n l) :
    Calls Tryz.prog 71 #[.slice A n c] w fun e w' => e = .returned (.tuple #[.string (encLb l).1, .int .i64 (encLb l).2]) ∧ Below w.heap.size w w' := by
  have H := hidden h
  have S1 := hidden (makeRef A n c l w h)
  have S2 := hidden (fun W hW => rvalid_any A n c l W (h.on hW))
  clear h
  by_cases he : makeErr l = 0
  · rw [he] at S1
    by_cases hv : validP l
    · have HU := hidden (encLb_ok hv)
      obtain ⟨hl8, hlx⟩ := valid_small hv
      have hn8 : n ≤ 8 := by have := H.out.len; omega
      have HLX := hidden hlx
      rw [decide_eq_true hv] at S2
      have hu : IntKind.u64.wrap (n : Int) = (n : Int) := Go.IntWalk.u64_in _ (by omega)
      have hut := uintL_ten (v := n) (by omega)
      clear hv he hlx hl8
      go_enter Tryz.func71, Tryz.ntmps71
      go_wp2_with fail
      refine S1.out.mono ?_
      rintro e w1 ⟨B1, c1, rfl, _, b1⟩
      have B1 := hidden b1
      have S3 := hidden (S2.out w1 b1)
      clear b1 S1 S2
      go_wp2_with fail
      refine S3.out.mono ?_
      rintro e w2 ⟨rfl, b2⟩
      have HB2 := hidden (B1.out.trans (b2.mono B1.out.size))
      clear b2 S3 B1
      go_wp2_with fail
      refine (uintR_any n w2 (by omega)).mono ?_
      rintro e w3 ⟨rfl, b3⟩
      have HB3 := hidden (HB2.out.trans (b3.mono HB2.out.size))
      clear b3 HB2
      go_wp2_with fail
      go_loopw [7, 8] (fun vs vi wr => ∃ (k : Nat) (s : ByteArray), k ≤ n ∧ vi = .int .i64 k ∧ vs = .string s ∧ Hid (s = ⟨(uintL n ++ encB (l.take k)).toArray⟩) ∧ Hid (Below w.heap.size w wr)) (fun _ vi _ => n - (intOf vi).toNat)
      case atStart => exact ⟨0, _, Nat.zero_le _, rfl, rfl, hidden (bytes_eq (by simp [encB])), HB3⟩
      case round =>
        obtain ⟨k, s, hk, rfl, rfl, hs, hb⟩ := hrel
        have k0 : (0 : Int) ≤ (k : Int) := by omega
        by_cases hlt : k < n
        · have k1 : (k : Int) < (n : Int) := by omega
          obtain ⟨g, o, x, rfl, hg, hx, c0, c1, hxm⟩ := lb_cells (H.out.on hb.out) hlt
          obtain ⟨hx1, hx2⟩ := HLX.out x hxm
          have hel : (encB (l.take k)).length ≤ 116 * 8 := by
            have h1 := encB_len (l := l.take k) fun y hy => HLX.out y (List.mem_of_mem_take hy)
            have h2 : (l.take k).length ≤ 8 := by rw [List.length_take]; omega
            omega
          have hss : s.size ≤ 10 + 116 * 8 := by rw [hs.out, sizeB, List.length_append]; omega
          have t1 := textL_len hx1 (by omega)
          have t2 := textL_len hx2 (by omega)
          obtain ⟨T1, hT1⟩ : ∃ T, (⟨(textL x.name).toArray⟩ : ByteArray) = T := ⟨_, rfl⟩
          obtain ⟨T2, hT2⟩ : ∃ T, (⟨(textL x.value).toArray⟩ : ByteArray) = T := ⟨_, rfl⟩
          have z1 : T1.size ≤ 42 := by rw [← hT1, sizeB]; omega
          have z2 : T2.size ≤ 74 := by rw [← hT2, sizeB]; omega
          have S4 := hidden (fun W => textR_any x.name W (by omega))
          have S5 := hidden (fun W => textR_any x.value W (by omega))
          rw [hT1] at S4
          rw [hT2] at S5
          have hs2 : Hid (s ++ T1 ++ T2 = ⟨(uintL n ++ encB (l.take (k + 1))).toArray⟩) := by
            rw [Hid, hs.out, ← hT1, ← hT2, take_snoc? hx, encB_snoc]
            exact bytes_eq (by simp)
          have l1 : ¬ 9223372036854775807 < s.size + T1.size := by omega
          have l2 : ¬ 9223372036854775807 < s.size + T1.size + T2.size := by omega
          clear hx hxm hT1 hT2 t1 t2
          go_wp2_with fail
          refine (S4.out _).mono ?_
          rintro e w5 ⟨rfl, b5⟩
          have e1 : w5.cell? ⟨g, o + k * 2 + 1, none⟩ = some (.string x.value) := (b5.cell (p := ⟨g, o + k * 2 + 1, none⟩) hg).trans c1
          have HB5 := hidden (hb.out.trans (b5.mono hb.out.size))
          clear b5 c0 c1
          go_wp2_with fail
          refine (S5.out _).mono ?_
          rintro e w6 ⟨rfl, b6⟩
          have HB6 := hidden (HB5.out.trans (b6.mono HB5.out.size))
          clear b6 e1
          go_wp2_with fail
          go_roundw
          case rel => exact ⟨k + 1, _, by omega, by go_num, rfl, hs2, HB6⟩
          case measure => simp [intOf]; omega
        · have k2 : ¬ (k : Int) < (n : Int) := by omega
          have hkn : k = n := by omega
          go_wp2_with fail
          go_ret2
          rw [HU.out]
          have ht : l.take n = l := List.take_of_length_le (by have := H.out.len; omega)
          subst hkn
          have hln := H.out.len
          rw [hs.out]
          exact ⟨by rw [ht, hln]; rfl, hb.out⟩
    · have HU := hidden (encLb_bad he hv)
      rw [decide_eq_false hv] at S2
      clear hv he
      go_enter Tryz.func71, Tryz.ntmps71
      go_wp2_with fail
      refine S1.out.mono ?_
      rintro e w1 ⟨B1, c1, rfl, _, b1⟩
      have B1 := hidden b1
      have S3 := hidden (S2.out w1 b1)
      clear b1 S1 S2
      go_wp2_with fail
      refine S3.out.mono ?_
      rintro e w2 ⟨rfl, b2⟩
      have HB2 := hidden (B1.out.trans (b2.mono B1.out.size))
      clear b2 S3 B1
      go_wp2_with fail
      go_ret2
      rw [HU.out]
      exact ⟨rfl, HB2.out⟩
  · have HU := hidden (encLb_err he)
    have e0 : (((makeErr l : Nat) : Int) != 0) = true := by simpa using he
    clear he
    go_enter Tryz.func71, Tryz.ntmps71
    go_wp2_with fail
    refine S1.out.mono ?_
    rintro e w1 ⟨B1, c1, rfl, _, b1⟩
    go_wp2_with fail
    go_ret2
    rw [HU.out]
    exact ⟨rfl, b1⟩
end Go.Proofs.YtalnndenncnbdaaGreat
