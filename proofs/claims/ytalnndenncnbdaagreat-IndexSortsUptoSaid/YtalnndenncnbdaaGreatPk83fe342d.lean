/- The document's Names and Values, walked. Condition: the index is one, of valid sets. -/
import Derived.Test.YtalnndenncnbdaaGreatPke0389641
import Derived.Test.YtalnndenncnbdaaGreatROfS
import Derived.Test.YtalnndenncnbdaaGreatPk84e56d96
namespace Go.Proofs.YtalnndenncnbdaaGreat
set_option maxRecDepth 100000
open Go.RowKit

/-- all names of these sets, as they come -/
def namesE (E : List (List Lbl)) : List ByteArray := E.flatMap fun l => l.map Lbl.name
theorem namesE_snoc (E : List (List Lbl)) (l : List Lbl) : namesE (E ++ [l]) = namesE E ++ l.map Lbl.name := by simp [namesE]
theorem txF_own {w : World} {B : Nat} {e : TypeId} {l : List ByteArray} {v : Value} {n : Nat} (h : w.ownsRow B e 1 v n (l.map Value.string)) (hf : n * 16 ≤ 140737488351232) : ∃ A c, v = .slice A n c ∧ TxF w A n l ∧ n ≤ c := by
  obtain ⟨A, c, rfl, h1, h2⟩ := own_shape h
  have hl := h2.len
  rw [List.length_map, Nat.mul_one] at hl
  exact ⟨A, c, rfl, ⟨h2, hl, hf⟩, h1⟩
set_option maxHeartbeats 3200000 in
theorem rnames_any (w : World) {base q : Nat} {E : List (List Lbl)} (h : RIdx w base q E) (hv : ∀ x ∈ E, validP x) (hE : E.length ≤ 1048576) :
    Calls Tryz.prog 18 #[.pointer (some ⟨q, 0, none⟩)] w (OfAns w (namesE E)) := by
  obtain ⟨iz, hi, hz0, hz1, hz2⟩ := info_parts infoS
  obtain ⟨sv, L, h, rfl⟩ := h
  obtain ⟨As, cs, rfl, hcs, _⟩ := own_shape h.sets
  rw [List.length_map] at hE
  have H := hidden h
  have HV := hidden hv
  clear h hv
  go_enter Tryz.func18, Tryz.ntmps18
  go_wp2_with fail
  go_loopw [3, 4] (fun v vi wr => ∃ (k j : Nat) (out : List ByteArray), vi = .int .i64 (k : Int) ∧ k ≤ L.length ∧ j ≤ 8 * k ∧ wr.ownsRow w.heap.size 9 1 v j (out.map Value.string) ∧ Hid (out = namesE ((L.take k).map SetR.l)) ∧ Hid (Below w.heap.size w wr)) (fun _ vi _ => L.length - (intOf vi).toNat)
  case atStart => exact ⟨0, 0, [], rfl, Nat.zero_le _, Nat.le_refl _, World.ownsRow_nil _ _ _ _, hidden rfl, hidden (Below.refl _ _)⟩
  case round =>
    obtain ⟨k, j, out, rfl, hk, hj, hown, hout, hb⟩ := hrel
    have hi' := H.out.turn (Turn.of_below hb.out base [] false) (by simp) (by simp) (by simp)
    have c0 := hi'.blk.cell 0
    by_cases hlt : k < L.length
    · have k1 : (k : Int) < (L.length : Int) := by omega
      have k0 : (0 : Int) ≤ (k : Int) := by omega
      have fwk : IntKind.i64.wrap ((k : Int) + 1) = (k : Int) + 1 := Go.IntWalk.i64_in _ (by omega)
      obtain ⟨s, hs⟩ : ∃ s, L[k]? = some s := ⟨_, List.getElem?_eq_getElem hlt⟩
      have hvs := HV.out s.l (List.mem_map.2 ⟨s, List.mem_of_getElem? hs, rfl⟩)
      have hsm := (valid_small hvs).1
      have HT := hidden (show namesE ((L.take (k + 1)).map SetR.l) = out ++ s.l.map Lbl.name from by rw [take_snoc? hs, List.map_append, List.map_singleton, namesE_snoc, hout.out])
      have HS := hidden hs
      have HLT := hidden (show k + 1 ≤ L.length from hlt)
      have HB := hidden hb.out
      clear hs hvs hi' hlt
      generalize wr = wa at *
      go_wp2_with fail
      clear c0
      go_loopw [3, 5] (fun v vi wr => ∃ (i j2 : Nat) (out2 : List ByteArray), vi = .int .i64 (i : Int) ∧ i ≤ s.l.length ∧ j2 ≤ 8 * k + i ∧ wr.ownsRow w.heap.size 9 1 v j2 (out2.map Value.string) ∧ Hid (out2 = out ++ (s.l.take i).map Lbl.name) ∧ Hid (Below w.heap.size w wr)) (fun _ vi _ => s.l.length - (intOf vi).toNat)
      case atStart => exact ⟨0, j, out, rfl, Nat.zero_le _, hj, hown, hidden (by simp), HB⟩
      case round =>
        obtain ⟨i, j2, out2, rfl, hil, hj2, hown2, hout2, hb2⟩ := hrel
        clear HB hown
        have hi' := H.out.turn (Turn.of_below hb2.out base [] false) (by simp) (by simp) (by simp)
        have c0 := hi'.blk.cell 0
        obtain ⟨As', cs', e1, _, hr⟩ := own_shape hi'.sets
        cases e1
        obtain ⟨g, o, rfl, hg, hc⟩ := hr.at_ (by omega)
        have ck : wr.cell? ⟨g, o + k, none⟩ = some s.v := by rw [hc k (by have := HLT.out; rw [Nat.mul_one]; omega), List.getElem?_map, HS.out]; rfl
        obtain ⟨A2, c2, hv2, hf2, _⟩ := lbF_own (hi'.lab s (List.mem_of_getElem? HS.out)) (HV.out s.l (List.mem_map.2 ⟨s, List.mem_of_getElem? HS.out, rfl⟩))
        rw [hv2] at ck
        by_cases hil1 : i < s.l.length
        · have i1 : (i : Int) < (s.l.length : Int) := by omega
          have i0 : (0 : Int) ≤ (i : Int) := by omega
          have fwi : IntKind.i64.wrap ((i : Int) + 1) = (i : Int) + 1 := Go.IntWalk.i64_in _ (by omega)
          obtain ⟨g2, o2, x, rfl, hg2, hx, cx, _, _⟩ := lb_cells hf2 hil1
          have HX := hidden (show out2 ++ [x.name] = out ++ (s.l.take (i + 1)).map Lbl.name from by rw [take_snoc? hx, List.map_append, hout2.out, List.append_assoc]; rfl)
          have hfr := Row.fresh wr 9 1 1 [.string x.name] rfl
          have hbs := hb2.out.size
          clear hi' hr hc hv2 hf2 hx hout2
          go_wp2_with (at_builtin; refine wpList_app _ rfl _ _ 44 rfl w.heap.size 9 iz _ 1 16 Tryz.underlying44 hi hz0 hz1 hz2 rfl (by decide) _ _ _ rfl (hown2.alloc _) _ _ _ _ _ rfl hfr (by simp [Value.oneCell']) (by unfold maxLen; omega) (by omega) (by simp; omega) ?_; intro v1 w9 hown1 hg1 hat1)
          go_roundw
          case rel => exact ⟨i + 1, j2 + 1, out2 ++ [x.name], by go_num, by omega, by omega, by rw [List.map_append]; exact hown1, HX, hidden ((hb2.out.alloc hbs _).grown hg1 (by simp; omega) (fun q hq => (hown2.lt q hq).1))⟩
          case measure => simp [intOf]; omega
        · obtain rfl : s.l.length = i := by omega
          have HO2 := hidden (show out2 = namesE ((L.take (k + 1)).map SetR.l) from by rw [HT.out, hout2.out, List.take_of_length_le (Nat.le_refl _)])
          clear hi' hr hc hv2 hf2 hout2
          go_wp2_with fail
          go_roundw
          case rel => exact ⟨k + 1, j2, out2, by go_num, HLT.out, by omega, hown2, HO2, hb2⟩
          case measure => have := HLT.out; simp [intOf]; omega
    · obtain rfl : L.length = k := by omega
      obtain ⟨A1, c1, rfl, hf, hc1⟩ := txF_own hown (by omega)
      have S1 := hidden (rof_any j A1 j c1 out wr (Nat.le_refl _) hf hc1)
      have HO := hidden (show out = namesE (L.map SetR.l) from by rw [hout.out, List.take_of_length_le (Nat.le_refl _)])
      have HB := hidden hb.out
      clear hf hown hi'
      go_wp2_with fail
      refine S1.out.mono ?_
      rintro e w2 ⟨v2, S, rfl, ho, hr, hm, hl, b2⟩
      have HF := hidden (And.intro ho (And.intro hr (And.intro hm (And.intro hl b2))))
      clear ho hr hm hl b2 S1
      go_wp2_with fail
      go_ret
      exact ⟨v2, S, rfl, own_more HF.out.1 HB.out.size, HF.out.2.1, by rw [← HO.out]; exact HF.out.2.2.1, by rw [← HO.out]; exact HF.out.2.2.2.1, HB.out.trans (HF.out.2.2.2.2.mono HB.out.size)⟩
/-- all values of a name, as they come -/
def valsE (E : List (List Lbl)) (nm : ByteArray) : List ByteArray := E.filterMap fun l => if (getL l nm).toList = [] then none else some (getL l nm)
theorem valsE_snoc (E : List (List Lbl)) (l : List Lbl) (nm : ByteArray) : valsE (E ++ [l]) nm = valsE E nm ++ if (getL l nm).toList = [] then [] else [getL l nm] := by
  simp only [valsE, List.filterMap_append]
  split <;> simp [*]
theorem valsE_len (E : List (List Lbl)) (nm : ByteArray) : (valsE E nm).length ≤ E.length := List.length_filterMap_le _ _
set_option maxHeartbeats 3200000 in
theorem rvalues_any (nm : ByteArray) (w : World) {base q : Nat} {E : List (List Lbl)} (h : RIdx w base q E) (hv : ∀ x ∈ E, validP x) (hE : E.length ≤ 1048576) :
    Calls Tryz.prog 23 #[.pointer (some ⟨q, 0, none⟩), .string nm] w (OfAns w (valsE E nm)) := by
  obtain ⟨iz, hi, hz0, hz1', hz2⟩ := info_parts infoS
  obtain ⟨sv, L, h, rfl⟩ := h
  obtain ⟨As, cs, rfl, hcs, _⟩ := own_shape h.sets
  rw [List.length_map] at hE
  have H := hidden h
  have HV := hidden hv
  clear h hv
  go_enter Tryz.func23, Tryz.ntmps23
  go_wp2_with fail
  go_loopw [5, 6] (fun v vi wr => ∃ (k j : Nat) (out : List ByteArray), vi = .int .i64 (k : Int) ∧ k ≤ L.length ∧ j ≤ k ∧ wr.ownsRow w.heap.size 9 1 v j (out.map Value.string) ∧ Hid (out = valsE ((L.take k).map SetR.l) nm) ∧ Hid (Below w.heap.size w wr)) (fun _ vi _ => L.length - (intOf vi).toNat)
  case atStart => exact ⟨0, 0, [], rfl, Nat.zero_le _, Nat.le_refl _, World.ownsRow_nil _ _ _ _, hidden rfl, hidden (Below.refl _ _)⟩
  case round =>
    obtain ⟨k, j, out, rfl, hk, hj, hown, hout, hb⟩ := hrel
    have hi' := H.out.turn (Turn.of_below hb.out base [] false) (by simp) (by simp) (by simp)
    have c0 := hi'.blk.cell 0
    by_cases hlt : k < L.length
    · have k1 : (k : Int) < (L.length : Int) := by omega
      have k0 : (0 : Int) ≤ (k : Int) := by omega
      have fwk : IntKind.i64.wrap ((k : Int) + 1) = (k : Int) + 1 := Go.IntWalk.i64_in _ (by omega)
      obtain ⟨s, hs⟩ : ∃ s, L[k]? = some s := ⟨_, List.getElem?_eq_getElem hlt⟩
      have hvs := HV.out s.l (List.mem_map.2 ⟨s, List.mem_of_getElem? hs, rfl⟩)
      obtain ⟨As', cs', e1, _, hr⟩ := own_shape hi'.sets
      cases e1
      obtain ⟨g, o, rfl, hg, hc⟩ := hr.at_ (by omega)
      have ck : wr.cell? ⟨g, o + k, none⟩ = some s.v := by rw [hc k (by rw [Nat.mul_one]; omega), List.getElem?_map, hs]; rfl
      obtain ⟨A2, c2, hv2, hf2, _⟩ := lbF_own (hi'.lab s (List.mem_of_getElem? hs)) hvs
      rw [hv2] at ck
      have S1 := hidden (rget_any A2 s.l.length c2 s.l nm wr hf2)
      obtain ⟨x, hx⟩ : ∃ x, getL s.l nm = x := ⟨_, rfl⟩
      have HT := hidden (show valsE ((L.take (k + 1)).map SetR.l) nm = out ++ if x.toList = [] then [] else [x] from by rw [take_snoc? hs, List.map_append, List.map_singleton, valsE_snoc, hout.out, hx])
      rw [hx] at S1
      have HLT := hidden (show k + 1 ≤ L.length from hlt)
      clear hs hvs hi' hlt hr hc hv2 hf2 hx
      go_wp2_with fail
      refine S1.out.mono ?_
      rintro e w2 ⟨rfl, b2⟩
      have HB2 := hidden (hb.out.trans (b2.mono hb.out.size))
      have hown2 := own_below hown b2 (Nat.le_refl _)
      clear S1 c0 ck hown b2 hb hout
      by_cases hz : x.toList = []
      · have hz1 : (x.toList != []) = false := by simp [hz]
        have HT2 := hidden (show out = valsE ((L.take (k + 1)).map SetR.l) nm from by rw [HT.out, if_pos hz, List.append_nil])
        go_wp2_with fail
        go_roundw
        case rel => exact ⟨k + 1, j, out, by go_num, HLT.out, by omega, hown2, HT2, HB2⟩
        case measure => have := HLT.out; simp [intOf]; omega
      · have hz1 : (x.toList != []) = true := by simpa using hz
        have hz3 : (!x.toList.isEmpty) = true := by simpa using hz
        have hz4 : x.toList.isEmpty = false := by simpa using hz
        have HT2 := hidden (show out ++ [x] = valsE ((L.take (k + 1)).map SetR.l) nm from by rw [HT.out, if_neg hz])
        have hfr := Row.fresh w2 9 1 1 [.string x] rfl
        have hbs := HB2.out.size
        go_wp2_with (at_builtin; refine wpList_app _ rfl _ _ 44 rfl w.heap.size 9 iz _ 1 16 Tryz.underlying44 hi hz0 hz1' hz2 rfl (by decide) _ _ _ rfl (hown2.alloc _) _ _ _ _ _ rfl hfr (by simp [Value.oneCell']) (by unfold maxLen; omega) (by omega) (by simp; omega) ?_; intro v1 w9 hown1 hg1 hat1)
        go_roundw
        case rel => exact ⟨k + 1, j + 1, out ++ [x], by go_num, HLT.out, by omega, by rw [List.map_append]; exact hown1, HT2, hidden ((HB2.out.alloc hbs _).grown hg1 (by simp; omega) (fun q hq => (hown2.lt q hq).1))⟩
        case measure => have := HLT.out; simp [intOf]; omega
    · obtain rfl : L.length = k := by omega
      obtain ⟨A1, c1, rfl, hf, hc1⟩ := txF_own hown (by omega)
      have S1 := hidden (rof_any j A1 j c1 out wr (Nat.le_refl _) hf hc1)
      have HO := hidden (show out = valsE (L.map SetR.l) nm from by rw [hout.out, List.take_of_length_le (Nat.le_refl _)])
      have HB := hidden hb.out
      clear hf hown hi'
      go_wp2_with fail
      refine S1.out.mono ?_
      rintro e w2 ⟨v2, S, rfl, ho, hr, hm, hl, b2⟩
      have HF := hidden (And.intro ho (And.intro hr (And.intro hm (And.intro hl b2))))
      clear ho hr hm hl b2 S1
      go_wp2_with fail
      go_ret
      exact ⟨v2, S, rfl, own_more HF.out.1 HB.out.size, HF.out.2.1, by rw [← HO.out]; exact HF.out.2.2.1, by rw [← HO.out]; exact HF.out.2.2.2.1, HB.out.trans (HF.out.2.2.2.2.mono HB.out.size)⟩
end Go.Proofs.YtalnndenncnbdaaGreat
