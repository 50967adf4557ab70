/- The reference's Or over lists of numbers, walked. Condition: the rows are within the reach, all of them together too. -/
import Derived.Test.YtjklonfheenfbaaRefOf13
import Derived.Test.YtjklonfheenfbaaRef13b

namespace Go.Proofs.Ytjklonfheenfbaa
set_option maxRecDepth 100000
open Go.RowKit Go.Shelf

/-- a slice of numbers, as it lies -/
structure IS where
  A : Option Addr
  n : Nat
  c : Nat
  l : List Int
def IS.val (s : IS) : Value := .slice s.A s.n s.c
/-- a slice of slices of numbers -/
structure LLF (w : World) (A : Option Addr) (m : Nat) (ss : List IS) : Prop where
  row : Row w w.heap.size 1 A m (ss.map IS.val)
  len : ss.length = m
  fit : m * 24 ≤ 140737488351232
  each : ∀ s ∈ ss, IntF w s.A s.n s.l ∧ s.n ≤ s.c
theorem LLF.on {w w' : World} {A : Option Addr} {m : Nat} {ss : List IS} (h : LLF w A m ss) (hb : Below w.heap.size w w') : LLF w' A m ss :=
  ⟨(h.row.below hb).more hb.size, h.len, h.fit, fun s hs => ⟨(h.each s hs).1.on hb, (h.each s hs).2⟩⟩
theorem ll_cell {w : World} {A : Option Addr} {m : Nat} {ss : List IS} (h : LLF w A m ss) {k : Nat} (hk : k < m) : ∃ g o s, A = some ⟨g, o, none⟩ ∧ g < w.heap.size ∧ ss[k]? = some s ∧ w.cell? ⟨g, o + k, none⟩ = some (.slice s.A s.n s.c) ∧ IntF w s.A s.n s.l ∧ s.n ≤ s.c := by
  obtain ⟨g, o, rfl, hg, hc⟩ := h.row.at_ (by omega)
  have hs : ss[k]? = some (ss[k]'(by have := h.len; omega)) := List.getElem?_eq_getElem _
  refine ⟨g, o, _, rfl, hg, hs, ?_, h.each _ (List.mem_of_getElem? hs)⟩
  rw [hc k (by omega), List.getElem?_map, hs]; rfl
def sumN (ss : List IS) : Nat := (ss.map fun s => s.l.length).sum
theorem sum_take {ss : List IS} {k : Nat} {s : IS} (h : ss[k]? = some s) : sumN (ss.take (k + 1)) = sumN (ss.take k) + s.l.length := by
  rw [take_snoc? h]; simp [sumN]
theorem sum_le (ss : List IS) (k : Nat) : sumN (ss.take k) ≤ sumN ss := by
  have : sumN ss = sumN (ss.take k) + sumN (ss.drop k) := by
    have h := List.take_append_drop k ss
    unfold sumN
    rw [← List.sum_append, ← List.map_append, h]
  omega

set_option maxHeartbeats 3200000 in
theorem rOr13_any (A : Option Addr) (m c : Nat) (ss : List IS) (w : World) (h : LLF w A m ss) (hsum : sumN ss * 8 ≤ 140737488351232) :
    Calls Try.prog 79 #[.slice A m c] w fun e w' => ∃ E v, e = .returned v ∧ rising E ∧ (∀ x, x ∈ E ↔ ∃ s ∈ ss, x ∈ s.l) ∧ w'.ownsRow w.heap.size 3 1 v E.length (E.map (Value.int .i64)) ∧ Below w.heap.size w w' := by
  obtain ⟨i0, hi, hz0, hz1, hz2⟩ := info_parts info_int
  have H := hidden h
  have hfit := h.fit
  clear h
  go_enter Try.func79, Try.ntmps79
  go_wp2_with fail
  go_loopw [3, 4] (fun v i wr => ∃ (k : Nat) (O : List Int), k ≤ m ∧ i = .int .i64 k ∧ Hid (O = (ss.take k).flatMap IS.l) ∧ O.length = sumN (ss.take k) ∧ wr.ownsRow w.heap.size 3 1 v O.length (O.map (Value.int .i64)) ∧ Below w.heap.size w wr) (fun _ i _ => m - (intOf i).toNat)
  case atStart => exact ⟨0, [], Nat.zero_le _, rfl, hidden (by simp), by simp [sumN], World.ownsRow_nil _ _ _ _, Below.refl _ _⟩
  case round =>
    obtain ⟨k, O, hk, rfl, hO, hOs, hown, hb⟩ := hrel
    by_cases hlt : k < m
    · obtain ⟨g, o, s, rfl, hg, hs, hc, hS, hnc⟩ := ll_cell H.out hlt
      have HS := hidden hS
      have HSl := hidden hs
      have hcs := hidden (fun (w' : World) (hb' : Below w.heap.size w w') => (hb'.cell (p := ⟨g, o + k, none⟩) hg).trans hc)
      have hsn := hS.len
      have hst := sum_take hs
      have hsl := sum_le ss (k + 1)
      have k0 : (0 : Int) ≤ (k : Int) := by omega
      have k1 : (k : Int) < (m : Int) := by omega
      have HOW := hidden hown
      have HB := hidden hb
      have HSN := hidden hsn
      have HOS := hidden hOs
      have HST := hidden hst
      clear hs hc hS hown hb hsn hOs hst
      obtain ⟨sA, sn, sc, sl⟩ := s
      simp only at hcs HS HSN hnc HST
      go_wp2_with fail
      generalize wr = wo at *
      go_loopw [3, 5] (fun v j wz => ∃ (q : Nat) (D : List Int), q ≤ sn ∧ j = .int .i64 q ∧ Hid (D = O ++ sl.take q) ∧ D.length = O.length + q ∧ wz.ownsRow w.heap.size 3 1 v D.length (D.map (Value.int .i64)) ∧ Below w.heap.size w wz) (fun _ j _ => sn - (intOf j).toNat)
      case atStart => exact ⟨0, O, Nat.zero_le _, rfl, hidden (by simp), rfl, HOW.out, HB.out⟩
      case round =>
        obtain ⟨q, D, hq, rfl, hD, hDl, hown, hb⟩ := hrel
        have cs := hcs.out wr hb
        by_cases hql : q < sn
        · obtain ⟨g2, o2, y, rfl, hg2, hy, hcy⟩ := int_cell (HS.out.on hb) hql
          have hT := hidden (take_snoc? hy)
          have hbs := hb.size
          have q0 : (0 : Int) ≤ (q : Int) := by omega
          have q1 : (q : Int) < (sn : Int) := by omega
          have hDb : (D.length + 1) * 8 ≤ 140737488351232 := by have := HSN.out; have := HOS.out; have := HST.out; omega
          have hfr := Row.fresh wr 3 1 1 [.int .i64 y] rfl
          have hD2 : Hid (D ++ [y] = O ++ sl.take (q + 1)) := by rw [Hid, hT.out, hD.out, List.append_assoc]
          clear hy
          go_wp2_with (at_builtin; refine wpList_app _ rfl _ _ 69 rfl w.heap.size 3 i0 _ 1 8 Try.underlying69 hi hz0 hz1 hz2 rfl (by decide) _ _ _ rfl (hown.alloc _) _ _ _ _ _ rfl hfr (by simp [Value.oneCell']) (by unfold maxLen; omega) (by omega) (by simp; omega) ?_; intro v1 w3 hown3 hg3 hat3)
          have hcc : D.map (Value.int .i64) ++ [.int .i64 y] = (D ++ [y]).map (Value.int .i64) := by simp
          rw [hcc] at hown3
          have hb4 : Below w.heap.size w w3 := (hb.alloc hbs _).grown hg3 (by simp; omega) (fun j hj => (hown.lt j hj).1)
          clear hown hb hbs hg3 hat3 hcc hfr hcy cs
          go_wp2_with fail
          go_roundw
          case rel => exact ⟨q + 1, D ++ [y], by omega, by go_num, hD2, by rw [List.length_append, List.length_singleton]; omega, by rw [List.length_append]; exact hown3, hb4⟩
          case measure => simp [intOf]; omega
        · obtain rfl : q = sn := by omega
          have hO2 : Hid (D = (ss.take (k + 1)).flatMap IS.l) := by
            rw [Hid, take_snoc? HSl.out, List.flatMap_append, ← hO.out, hD.out, List.take_of_length_le (by rw [HSN.out]; exact Nat.le_refl _)]; simp
          have hl2 : Hid (D.length = sumN (ss.take (k + 1))) := by have := HSN.out; have := HOS.out; have := HST.out; rw [Hid]; omega
          have q1 : ¬ (q : Int) < (q : Int) := by omega
          go_wp2_with fail
          go_roundw
          case rel => exact ⟨k + 1, D, by omega, by go_num, hO2, hl2.out, hown, hb⟩
          case measure => simp [intOf]; omega
    · obtain rfl : m = k := by omega
      rw [List.take_of_length_le (by rw [H.out.len]; exact Nat.le_refl _)] at hO hOs
      obtain ⟨A1, c1, rfl, _, hr1⟩ := own_shape hown
      have hI : IntF wr A1 O.length O := ⟨hr1, rfl, by omega, fun x hx => by
        rw [hO.out] at hx
        obtain ⟨s, hs, hxs⟩ := List.mem_flatMap.1 hx
        exact (H.out.each s hs).1.ints x hxs⟩
      have S1 := hidden (rOf13_any A1 O.length c1 O wr hI)
      have HB := hidden hb
      have k1 : ¬ (m : Int) < (m : Int) := by omega
      clear hI hown hr1 hb hOs
      go_wp2_with fail
      refine S1.out.mono ?_
      rintro e w2 ⟨E, v, rfl, hE, hm, ho, hb2⟩
      have HF := hidden (And.intro hE (And.intro (own_more ho HB.out.size) (HB.out.trans (hb2.mono HB.out.size))))
      have HM := hidden hm
      clear hE hm ho hb2 S1
      go_wp2_with fail
      go_ret
      exact ⟨E, _, rfl, HF.out.1, fun x => by rw [HM.out x, hO.out, List.mem_flatMap], HF.out.2.1, HF.out.2.2⟩
end Go.Proofs.Ytjklonfheenfbaa
