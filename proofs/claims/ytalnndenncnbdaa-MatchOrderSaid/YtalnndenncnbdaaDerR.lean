/- deriv's rest and star, walked: what is kept once. No condition. -/
import Derived.Test.YtalnndenncnbdaaDerN
import Derived.Test.YtalnndenncnbdaaPair
namespace Go.Proofs.Ytalnndenncnbdaa
set_option maxRecDepth 100000
open Go.RowKit

theorem zero_of {P : Program} {t : TypeId} {z : Value} (h : (P.info? t).map (fun i => i.zero) = some (some z)) (w : World) : (zeroValue t).run P w = .ok z w := by
  obtain ⟨i, h1, h2⟩ := Option.map_eq_some_iff.1 h
  simp [zeroValue, typeInfo, h1, h2]
theorem zeroPR (w : World) : (zeroValue 67).run Try.prog w = .ok (.pointer none) w := zero_of (by kernel_rfl) w
theorem zeroPN (w : World) : (zeroValue 46).run Try.prog w = .ok (.pointer none) w := zero_of (by kernel_rfl) w
theorem zeroI (w : World) : (zeroValue 3).run Try.prog w = .ok (.int .i64 0) w := zero_of (by kernel_rfl) w

set_option maxHeartbeats 3200000 in
theorem rest_any (r b1 b2 n : Nat) (q : Option Addr) (t : Tr) (l : List Tr) (w : World) (hr : RunAt w r b1 b2) (ht : IsTr w n t) (hq : IsRest w q l) :
    Calls Try.prog 43 #[.pointer (some ⟨r, 0, none⟩), .pointer (some ⟨n, 0, none⟩), .pointer q] w fun e w' => ∃ g, e = .returned (.pointer (some ⟨g, 0, none⟩)) ∧ IsRest w' (some ⟨g, 0, none⟩) (t :: l) ∧ RunAt w' r b1 b2 ∧ Stays (fun k => k = b1) w w' := by
  obtain ⟨m1, m2, hr⟩ := hr
  have hb0 : Below w.heap.size w (w.alloc (.cells #[.pointer (some ⟨n, 0, none⟩), .pointer q] 70)) := (Below.refl _ _).alloc (Nat.le_refl _) _
  have hs0 := Stays.of_below hb0 (fun k => k = b1)
  have h0 := Whole1.new w 70 #[.pointer (some ⟨n, 0, none⟩), .pointer q]
  have hr0 := hr.on (Stays.of_below hb0 (fun _ => False)) id id
  have ht0 := isTr_on hs0.cells _ _ ht
  have hq0 := isRest_on hs0.cells _ _ hq
  go_enter Try.func43, Try.ntmps43
  go_upto_region 2 with (fail)
  obtain ⟨g, hg⟩ : ∃ g, w.heap.size = g := ⟨_, rfl⟩
  rw [hg] at h0 hb0 ⊢
  generalize w.alloc (.cells #[.pointer (some ⟨n, 0, none⟩), .pointer q] 70) = w0 at *
  have hk : PairKey w0.drew (.agg #[.pointer (some ⟨n, 0, none⟩), .pointer q]) := ⟨_, q, rfl, show Laid w0 _ from laid_tr ht0, show Laid w0 _ from laid_rest hq0⟩
  have c0 := hr0.blk.cell 0
  have e0 := h0.cell 0
  have e1 := h0.cell 1
  have hr1 : RunM w0.drew r b1 b2 m1 m2 := hr0.on ((Stays.refl (fun _ => False) w0).drewN 1) id id
  have hL := hr1.map1.look keyRest hr1.keys1 Try.underlying90 (zeroPR w0.drew) hk false
  simp only [Bool.false_eq_true, if_false] at hL
  cases hat : atV m1 (.agg #[.pointer (some ⟨n, 0, none⟩), .pointer q]) with
  | none =>
    rw [hat] at hL
    simp only [Option.getD_none] at hL
    go_region
    go_wp2_with fail
    have hr2 : RunM w0.drew.drew r b1 b2 m1 m2 := hr0.on ((Stays.refl (fun _ => False) w0).drewN 2) id id
    obtain ⟨w5, hrun, hm5, hg5, hz5⟩ := hr2.map1.store (P := Try.prog) keyRest hr2.keys1 Try.underlying90 (show PairKey w0.drew.drew _ from hk) ⟨_, q, rfl⟩ (.pointer (some ⟨g, 0, none⟩))
    clear hL
    go_region
    go_wp2_with fail
    have hst : Stays (fun k => k = b1) w0 w5 := ((Stays.refl (fun k => k = b1) w0).drewN 2).trans (Stays.of_map hr2.map1 hg5 rfl)
    have hr5 : RunM w5 r b1 b2 (putV m1 (.agg #[.pointer (some ⟨n, 0, none⟩), .pointer q]) (.pointer (some ⟨g, 0, none⟩))) m2 := by
      refine ⟨hst.cells _ _ _ hr0.blk, hr0.ne, hm5, hst.mapV hr0.map2 (Ne.symm hr0.ne), fun e he => ?_, fun e he => ?_⟩
      · rw [putV_new _ _ _ ((atV_none _ _).1 hat)] at he
        rcases List.mem_append.1 he with he | he
        · obtain ⟨n', q', g', e1, e2, e3, e4⟩ := hr0.at1 e he
          exact ⟨n', q', g', e1, hst.cells _ _ _ e2, laid_on e3 hst.cells, laid_on e4 hst.cells⟩
        · simp only [List.mem_singleton] at he
          subst he
          exact ⟨n, q, g, rfl, hst.cells _ _ _ h0, laid_on (laid_tr ht0) hst.cells, laid_on (laid_rest hq0) hst.cells⟩
      · obtain ⟨p, g', x, e1, e2, e3⟩ := hr0.at2 e he
        exact ⟨p, g', x, e1, isTr_on hst.cells _ _ e2, isTr_on hst.cells _ _ e3⟩
    have c5 := hr5.blk.cell 0
    have k0 := (hst.cells _ _ _ h0).cell 0
    have k1 := (hst.cells _ _ _ h0).cell 1
    have hr6 : RunM w5.drew r b1 b2 _ m2 := hr5.on ((Stays.refl (fun _ => False) w5).drewN 1) id id
    have hL5 := hr6.map1.look keyRest hr6.keys1 Try.underlying90 (zeroPR w5.drew) (show PairKey w5.drew _ from ⟨_, q, rfl, laid_on (laid_tr ht0) hst.cells, laid_on (laid_rest hq0) hst.cells⟩) false
    simp only [Bool.false_eq_true, if_false] at hL5
    rw [atV_put_same, Option.getD_some] at hL5
    clear hrun c0 e0 e1
    go_region
    go_wp2_with fail
    go_ret
    have hst6 := hst.drewN 1
    exact ⟨g, rfl, ⟨g, n, q, rfl, hst6.cells _ _ _ h0, isTr_on hst6.cells _ _ ht0, isRest_on hst6.cells _ _ hq0⟩, ⟨_, m2, hr6⟩, (hs0.trans hst).drewN 1⟩
  | some v => 
    rw [hat] at hL
    simp only [Option.getD_some] at hL
    obtain ⟨n', q', g', e2, hw, _⟩ := hr0.at1 _ (atV_mem _ _ _ hat)
    simp only [kid, Prod.mk.injEq, Value.agg.injEq, Array.mk.injEq, List.cons.injEq, Value.pointer.injEq, and_true, Option.some.injEq, Addr.mk.injEq] at e2
    obtain ⟨⟨rfl, rfl⟩, rfl⟩ := e2
    go_region
    go_wp2_with fail
    clear hL
    have hr2 : RunM w0.drew.drew r b1 b2 m1 m2 := hr0.on ((Stays.refl (fun _ => False) w0).drewN 2) id id
    have hL := hr2.map1.look keyRest hr2.keys1 Try.underlying90 (zeroPR w0.drew.drew) (show PairKey w0.drew.drew _ from hk) false
    simp only [Bool.false_eq_true, if_false] at hL
    rw [hat, Option.getD_some] at hL
    go_region
    go_wp2_with fail
    go_ret
    have hst6 := (Stays.refl (fun _ => False) w0).drewN 2
    exact ⟨g', rfl, ⟨g', _, _, rfl, hst6.cells _ _ _ hw, isTr_on hst6.cells _ _ ht0, isRest_on hst6.cells _ _ hq0⟩, ⟨m1, m2, hr2⟩, hs0.drewN 2⟩

set_option maxHeartbeats 3200000 in
theorem star_any (r b1 b2 n : Nat) (x : Tr) (w : World) (hr : RunAt w r b1 b2) (ht : IsTr w n (.plus x)) :
    Calls Try.prog 60 #[.pointer (some ⟨r, 0, none⟩), .pointer (some ⟨n, 0, none⟩)] w fun e w' => ∃ g, e = .returned (.pointer (some ⟨g, 0, none⟩)) ∧ IsTr w' g (.star x) ∧ RunAt w' r b1 b2 ∧ Stays (fun k => k = b2) w w' := by
  obtain ⟨m1, m2, hr⟩ := hr
  have hk : PtrKey w (.pointer (some ⟨n, 0, none⟩)) := ⟨_, rfl, laid_tr ht⟩
  have c0 := hr.blk.cell 1
  have hL := hr.map2.look keyNode hr.keys2 Try.underlying91 (zeroPN w) hk false
  simp only [Bool.false_eq_true, if_false] at hL
  cases hat : atV m2 (.pointer (some ⟨n, 0, none⟩)) with
  | none =>
    rw [hat] at hL
    simp only [Option.getD_none] at hL
    obtain ⟨p1, hn1, hx⟩ := ht
    obtain ⟨qk, ck, hnode, hkid⟩ := hn1
    have c5 : w.cell? ⟨n, 5, none⟩ = some (.slice (some ⟨qk, 0, none⟩) 1 ck) := Whole1.cell hnode 5
    obtain ⟨w1, hw1⟩ : ∃ w1, (w.alloc (.cells #[.int .i64 4, .int .u64 0, .int .u64 0, .int .u64 0, .int .u64 0, .slice (some ⟨qk, 0, none⟩) 1 ck] 101)).drew = w1 := ⟨_, rfl⟩
    have hs1 : Stays (fun k => k = b2) w w1 := hw1 ▸ ((Stays.refl _ w).alloc _).drewN 1
    have hn2 : Whole1 w1 w.heap.size 101 #[.int .i64 4, .int .u64 0, .int .u64 0, .int .u64 0, .int .u64 0, .slice (some ⟨qk, 0, none⟩) 1 ck] := hw1 ▸ Whole1.new w _ _
    have hr1 : RunM w1 r b1 b2 m1 m2 := hr.on (hw1 ▸ ((Stays.refl (fun _ => False) w).alloc _).drewN 1 : Stays (fun _ => False) w w1) id id
    obtain ⟨w5, hrun, hm5, hg5, hz5⟩ := hr1.map2.store (P := Try.prog) keyNode hr1.keys2 Try.underlying91 (key := .pointer (some ⟨n, 0, none⟩)) ⟨_, rfl, laid_on (laid_whole hnode) hs1.cells⟩ ⟨_, rfl⟩ (.pointer (some ⟨w.heap.size, 0, none⟩))
    have c7 := hr1.blk.cell 1
    rw [← hw1] at hrun c7
    have hst : Stays (fun k => k = b2) w w5 := hs1.trans (Stays.of_map hr1.map2 hg5 rfl)
    have htr : IsTr w5 n (.plus x) := isTr_on hst.cells _ _ ⟨p1, ⟨qk, ck, hnode, hkid⟩, hx⟩
    have hts : IsTr w5 w.heap.size (.star x) := ⟨p1, ⟨qk, ck, (Stays.of_map (F := fun k => k = b2) hr1.map2 hg5 rfl).cells _ _ _ hn2, hst.cells _ _ _ hkid⟩, isTr_on hst.cells _ _ hx⟩
    have hr5 : RunM w5 r b1 b2 m1 (putV m2 (.pointer (some ⟨n, 0, none⟩)) (.pointer (some ⟨w.heap.size, 0, none⟩))) := by
      refine ⟨hst.cells _ _ _ hr.blk, hr.ne, hst.mapV hr.map1 hr.ne, hm5, fun e he => ?_, fun e he => ?_⟩
      · obtain ⟨n', q', g', e1, e2, e3, e4⟩ := hr.at1 e he
        exact ⟨n', q', g', e1, hst.cells _ _ _ e2, laid_on e3 hst.cells, laid_on e4 hst.cells⟩
      · rw [putV_new _ _ _ ((atV_none _ _).1 hat)] at he
        rcases List.mem_append.1 he with he | he
        · obtain ⟨p, g', y, e1, e2, e3⟩ := hr.at2 e he
          exact ⟨p, g', y, e1, isTr_on hst.cells _ _ e2, isTr_on hst.cells _ _ e3⟩
        · simp only [List.mem_singleton] at he
          subst he
          exact ⟨n, w.heap.size, x, rfl, htr, hts⟩
    have c6 := hr5.blk.cell 1
    have hL5 := hr5.map2.look keyNode hr5.keys2 Try.underlying91 (zeroPN w5) ⟨_, rfl, laid_tr htr⟩ false
    simp only [Bool.false_eq_true, if_false] at hL5
    rw [atV_put_same, Option.getD_some] at hL5
    have HW1 := hidden hw1
    clear hw1
    go_enter Try.func60, Try.ntmps60
    go_wp2_with fail
    clear hL
    go_region
    go_wp2_with fail
    go_ret
    exact ⟨_, rfl, hts, ⟨m1, _, hr5⟩, hst⟩
  | some v => 
    rw [hat] at hL
    simp only [Option.getD_some] at hL
    obtain ⟨n', g', y, e2, hw, hy⟩ := hr.at2 _ (atV_mem _ _ _ hat)
    simp only [kid, Prod.mk.injEq, Value.pointer.injEq, and_true, Option.some.injEq, Addr.mk.injEq] at e2
    obtain ⟨rfl, rfl⟩ := e2
    have e3 := isTr_one _ _ _ ht hw
    simp only [Tr.plus.injEq] at e3
    subst e3
    go_enter Try.func60, Try.ntmps60
    go_wp2_with fail
    go_ret
    exact ⟨_, rfl, hy, ⟨m1, m2, hr⟩, Stays.refl _ _⟩
end Go.Proofs.Ytalnndenncnbdaa
