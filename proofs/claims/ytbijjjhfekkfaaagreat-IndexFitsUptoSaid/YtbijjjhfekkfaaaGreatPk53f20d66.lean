/- post.Or, Without, Of: new cursors. Condition: the rows are within the reach. -/
import Derived.Test.YtbijjjhfekkfaaaGreatPkaf155ceb
namespace Go.Proofs.YtbijjjhfekkfaaaGreat
set_option maxRecDepth 100000
open Go.RowKit Go.Shelf

set_option maxHeartbeats 800000 in
theorem or_any (A : Option Addr) (n c : Nat) (cs : List Kid) (w : World) (h : KidRow w A n cs) :
    Calls Tryz.prog 159 #[.slice A n c] w (NewCur w (gOf cs) fun E => ∀ x, x ∈ E ↔ ∃ y ∈ cs, x ∈ y.E) := by
  obtain ⟨d, hd⟩ := kids_depth cs h.cur
  obtain ⟨E, hE, hm⟩ : ∃ E, rising E ∧ ∀ x, x ∈ E ↔ ∃ y ∈ cs, x ∈ y.E := by
    obtain ⟨E, hE, hm⟩ := union_exists (cs.flatMap Kid.E)
    exact ⟨E, hE, fun x => by rw [hm x, List.mem_flatMap]⟩
  have S1 := hidden (clonePtr A n c (cs.map Kid.p) w h.row (fun u hu => by
    obtain ⟨x, hx, rfl⟩ := List.mem_map.1 hu
    exact ptr_one (h.cur x hx)) h.fit)
  have H := hidden h
  have HM := hidden hm
  clear h hm
  go_enter Tryz.func159, Tryz.ntmps159
  go_wp2_with fail
  refine S1.out.mono ?_
  rintro e w1 ⟨A1, c1, rfl, hc1, hr1, hb1, ho1⟩
  have hK := kids_new H.out hd hr1 hb1 ho1
  have hs : IsSrc (d + 1) w1 (.iface 375 (.slice A1 n c1)) E (fun k => (cs ≠ [] ∧ blockOf A1 k) ∨ ∃ x ∈ cs, x.F k) := .inr (.inr (.inl ⟨A1, n, c1, cs, rfl, H.out.len, by have := H.out.fit; omega, hK, hE, HM.out⟩))
  have S2 := hidden (make_of (Q := fun E => ∀ x, x ∈ E ↔ ∃ y ∈ cs, x ∈ y.E) H.out hb1 ho1 HM.out hs)
  clear hK hs hr1 hb1 ho1 S1
  go_wp2_with fail
  refine S2.out.mono ?_
  rintro e w2 ⟨p, E2, F2, rfl, h1⟩
  go_wp2_with fail
  go_ret
  exact ⟨p, E2, F2, rfl, h1⟩

set_option maxHeartbeats 800000 in
theorem without_any (x y : Kid) (w : World) (hx : IsCur w x.p x.E x.F) (hy : IsCur w y.p y.E y.F) (hd : ∀ k, ¬ (x.F k ∧ y.F k)) :
    Calls Tryz.prog 158 #[x.p, y.p] w (NewCur w (fun k => x.F k ∨ y.F k) fun E => ∀ z, z ∈ E ↔ z ∈ x.E ∧ z ∉ y.E) := by
  obtain ⟨d, hcs⟩ := kids_depth (w := w) [x, y] (by simp; exact ⟨hx, hy⟩)
  obtain ⟨E, hE, hm⟩ := union_exists (x.E.filter fun z => decide (z ∉ y.E))
  have hm2 : ∀ z, z ∈ E ↔ z ∈ x.E ∧ z ∉ y.E := fun z => by rw [hm z, List.mem_filter]; simp
  have hs : IsSrc (d + 1) w (.iface 374 (.agg #[x.p, y.p])) E (fun k => x.F k ∨ y.F k) := .inr (.inr (.inr ⟨x, y, rfl, hcs x (by simp), hcs y (by simp), hd, fun _ => Iff.rfl, hE, hm2⟩))
  have S2 := hidden (over_any (d + 1) _ _ _ w hs)
  have HM := hidden hm2
  obtain ⟨d1, ⟨e1, _⟩ | ⟨b1, v1, fr1, dn1, E1, F1, e1, _⟩⟩ := hx
  all_goals obtain ⟨d2, ⟨e2, _⟩ | ⟨b2, v2, fr2, dn2, E2, F2, e2, _⟩⟩ := hy
  all_goals
    rw [e1, e2] at S2 ⊢
    clear hm hm2 hs hcs
    go_enter Tryz.func158, Tryz.ntmps158
    go_wp2_with fail
    refine S2.out.mono ?_
    rintro e w2 ⟨p, E2', F2', rfl, h1, rfl, h2⟩
    go_wp2_with fail
    go_ret
    exact ⟨p, E2', F2', rfl, h1, HM.out, h2⟩

theorem list_new {w0 w : World} {A : Option Addr} {n c : Nat} {E : List Int} (hr : Row w w.heap.size 1 A n (E.map (Value.int .i64))) (hc : n ≤ c) (hn : n * 8 ≤ 140737488355328) (ho : 0 < n → ∀ k, blockOf A k → w0.heap.size ≤ k ∧ k < w.heap.size) (hE : rising E) (hI : ∀ x ∈ E, inI x) (hb : Below w0.heap.size w0 w) {Q : List Int → Prop} (hQ : Q E) :
    Calls Tryz.prog 160 #[.iface 370 (.pointer (some ⟨w.heap.size, 0, none⟩))] (w.alloc (.cells #[.slice A n c] 372)) (NewCur w0 (fun _ => False) Q) := by
  have hb2 : Below w.heap.size w (w.alloc (.cells #[.slice A n c] 372)) := (Below.refl _ _).alloc (Nat.le_refl _) _
  have hs : IsSrc 0 (w.alloc (.cells #[.slice A n c] 372)) (.iface 370 (.pointer (some ⟨w.heap.size, 0, none⟩))) E (fun k => k = w.heap.size ∨ (0 < n ∧ blockOf A k)) :=
    ⟨w.heap.size, A, n, c, rfl, Whole1.new _ _ _, (hr.below hb2).more hb2.size, hc, hn, fun h hbk => by have := (ho h _ hbk).2; omega, ⟨.inl rfl, fun k h hbk => .inr ⟨h, hbk⟩⟩, hE, hI, fun k hk => by
      rcases hk with rfl | ⟨h, hbk⟩
      · simp
      · have := (ho h _ hbk).2; simp; omega⟩
  refine (over_any 0 _ E _ _ hs).mono ?_
  rintro e w2 ⟨p, E2, F2, rfl, h1, rfl, h2, h3⟩
  have hs0 := hb.size
  refine ⟨p, E2, F2, rfl, h1, hQ, fun k hk => ?_, hb.trans ((hb2.trans (h3.mono hb2.size)).mono hs0)⟩
  rcases h2 k hk with h4 | rfl | ⟨h, hbk⟩
  · simp at h4; exact .inl (by omega)
  · exact .inl hs0
  · exact .inl (ho h _ hbk).1
set_option maxHeartbeats 1600000 in
theorem of_any (A : Option Addr) (n c : Nat) (l : List Int) (w : World) (hr : Row w w.heap.size 1 A n (l.map (Value.int .i64))) (hn : n * 8 ≤ 140737488351232) (hI : ∀ x ∈ l, inI x) :
    Calls Tryz.prog 157 #[.slice A n c] w (NewCur w (fun _ => False) fun E => (∀ x, x ∈ E ↔ x ∈ l) ∧ E.length ≤ n) := by
  have hl := hr.len
  rw [List.length_map, Nat.mul_one] at hl
  have S1 := hidden (cloneInt A n c (l.map (Value.int .i64)) w hr (fun u hu => by
    obtain ⟨x, _, rfl⟩ := List.mem_map.1 hu
    rfl) hn)
  clear hr
  rcases Nat.eq_zero_or_pos n with h0 | h0
  · subst h0
    obtain rfl : l = [] := List.eq_nil_of_length_eq_zero hl
    go_enter Tryz.func157, Tryz.ntmps157
    go_wp2_with fail
    refine S1.out.mono ?_
    rintro e w1 ⟨A1, c1, rfl, hc1, hr1, hb1, _⟩
    have HB := hidden hb1
    clear hb1 S1 hr1
    go_wp2_with fail
    refine (slices_Sort_int_none A1 c1 _).mono ?_
    rintro e w' ⟨rfl, rfl⟩
    go_wp2_with fail
    refine (slices_Compact_int_empty A1 c1 _).mono ?_
    rintro e w' ⟨rfl, rfl⟩
    have S2 := list_new (w := w') (c := c1) (Q := fun E => (∀ x, x ∈ E ↔ x ∈ ([] : List Int)) ∧ E.length ≤ 0) (Row.nil (A := A1)) (Nat.zero_le _) (by omega) (fun h => absurd h (by omega)) List.Pairwise.nil (by simp) HB.out (by simp)
    go_wp2_with fail
    refine S2.mono ?_
    rintro e w2 ⟨p, E2, F2, rfl, h1⟩
    go_wp2_with fail
    go_ret
    exact ⟨p, E2, F2, rfl, h1⟩
  · subst hl
    obtain ⟨ts, hts⟩ : ∃ ts, l.mergeSort (fun x y => decide (x ≤ y)) = ts := ⟨_, rfl⟩
    have hperm : ts.Perm l := by rw [← hts]; exact List.mergeSort_perm l _
    have hsrt : ts.Pairwise (· ≤ ·) := by
      rw [← hts]
      have := List.pairwise_mergeSort (le := fun a b : Int => decide (a ≤ b)) (fun a b c h1 h2 => by simp at *; omega) (fun a b => by simp; omega) l
      exact this.imp fun h => by simpa using h
    obtain ⟨hE, hm⟩ := compact_sorted hsrt
    have hle := Lib.compact_length_le ts
    have htl := hperm.length_eq
    have HTL := hidden htl
    have HEX := hidden (fun (w1 : World) (g cap : Nat) (hown : w1.ownsRow w.heap.size 3 1 (.slice (some ⟨g, 0, none⟩) l.length cap) l.length (l.map (Value.int .i64))) => slices_Sort_int g 0 cap l w1 (by
      obtain ⟨g', cap', e, _, _, _, _, _, hH⟩ := Lib.holds_of_ownsRow hown (by simp)
      simp only [Value.slice.injEq, Option.some.injEq, Addr.mk.injEq] at e
      obtain ⟨⟨rfl, _⟩, _⟩ := e
      exact hH) (hown.lt g rfl).2 (by omega))
    rw [hts] at HEX
    have HQ := hidden (show (∀ x, x ∈ Lib.compact ts ↔ x ∈ l) from fun x => by rw [hm x]; exact hperm.mem_iff)
    have HI := hidden (show ∀ x ∈ Lib.compact ts, inI x from fun x hx => hI x ((HQ.out x).1 hx))
    clear hts hperm hsrt hm hI htl
    go_enter Tryz.func157, Tryz.ntmps157
    go_wp2_with fail
    refine S1.out.mono ?_
    rintro e w1 ⟨A1, c1, rfl, hc1, hr1, hb1, ho1⟩
    have hown := ho1 h0
    obtain ⟨g, cap, cur, hv, hbase, hbk, hn1, hcm, hcs, htk⟩ : ∃ g cap cur, (Value.slice A1 l.length c1) = .slice (some ⟨g, 0, none⟩) l.length cap ∧ w.heap.size ≤ g ∧ w1.heap[g]? = some (.cells cur 3 (0, 0)) ∧ l.length ≤ cap ∧ cap ≤ maxLen ∧ cur.size = cap * 1 ∧ cur.toList.take (l.length * 1) = l.map (Value.int .i64) := by
      rcases hown.2 with ⟨_, h⟩ | ⟨g, cap, cur, h⟩
      · omega
      · exact ⟨g, cap, cur, h⟩
    simp only [Value.slice.injEq, true_and] at hv
    obtain ⟨rfl, rfl⟩ := hv
    have S2 := HEX.out w1 g c1 hown
    have hown2 := fun n os => ownsRow_sortedI (n := n) (os := os) HTL.out hbase hbk hn1 hcm hcs
    have hb2 := fun n os => hb1.grown (grownBy_sortedI (n := n) (os := os) ts.toArray) hb1.size (fun j hj => by cases hj; exact hbase)
    have HS2 := hidden S2
    have HOW := hidden hown2
    have HB2 := hidden hb2
    have HC1 := hidden hc1
    clear S1 S2 hown hown2 hb2 ho1 hr1 hb1 hbk hn1 hcm hcs htk HEX hc1
    go_wp2_with fail
    refine HS2.out.mono ?_
    rintro e w2 ⟨rfl, nq, os, rfl⟩
    have hown2 := HOW.out nq os
    have hb2 := HB2.out nq os
    generalize Go.Sort.grow (Go.Sort.putRow (Value.int .i64) (Go.Sort.ahead w1 nq) g 0 ts.toArray) os = w2 at hown2 hb2 ⊢
    have S3 := slices_Compact_int g 0 c1 ts w2 (by
      obtain ⟨g', cap', e, _, _, _, _, _, hH⟩ := Lib.holds_of_ownsRow hown2 (by simp)
      simp only [Value.slice.injEq, Option.some.injEq, Addr.mk.injEq] at e
      obtain ⟨⟨rfl, _⟩, _⟩ := e
      exact hH) (by have := HTL.out; omega) (by have := HTL.out; have := HC1.out; omega)
    rw [HTL.out] at S3
    have HS3 := hidden S3
    have HO2 := hidden hown2
    have HB3 := hidden hb2
    clear S3 hown2 hb2 HS2 HOW HB2
    go_wp2_with fail
    refine HS3.out.mono ?_
    rintro e w3 ⟨rfl, q, rfl⟩
    have hown3 := Lib.ownsRow_putRow (q := q) (k := (Lib.compact ts).length) (ys := Lib.compact ts ++ List.replicate (l.length - (Lib.compact ts).length) 0) HO2.out (by have := HTL.out; rw [List.length_append, List.length_replicate]; omega) (by have := HTL.out; omega)
    rw [List.take_left] at hown3
    have hb3 : Below w.heap.size w (Go.Sort.putRow (Value.int .i64) (Go.Sort.ahead w2 q) g 0 (Lib.compact ts ++ List.replicate (l.length - (Lib.compact ts).length) 0).toArray) := Lib.below_putRow HB3.out hbase
    generalize Go.Sort.putRow (Value.int .i64) (Go.Sort.ahead w2 q) g 0 (Lib.compact ts ++ List.replicate (l.length - (Lib.compact ts).length) 0).toArray = w3 at hown3 hb3 ⊢
    have S4 := hidden (list_new (c := c1) (Q := fun E => (∀ x, x ∈ E ↔ x ∈ l) ∧ E.length ≤ l.length) (Row.of_own hown3) (by have := HTL.out; have := HC1.out; omega) (by have := HTL.out; omega) (fun _ k ⟨o, e⟩ => by
      simp only [Option.some.injEq, Addr.mk.injEq] at e
      obtain ⟨rfl, _⟩ := e
      exact hown3.lt g rfl) hE HI.out hb3 ⟨HQ.out, by have := HTL.out; omega⟩)
    clear hown3 hb3 HS3 HO2 HB3
    go_wp2_with fail
    refine S4.out.mono ?_
    rintro e w4 ⟨p, E2, F2, rfl, h1⟩
    go_wp2_with fail
    go_ret
    exact ⟨p, E2, F2, rfl, h1⟩
end Go.Proofs.YtbijjjhfekkfaaaGreat
