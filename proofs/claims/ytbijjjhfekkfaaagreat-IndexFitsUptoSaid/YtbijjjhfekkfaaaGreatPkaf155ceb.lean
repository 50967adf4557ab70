/- post.Of, And, Or, Without: new cursors. Condition: the rows are within the reach. -/
import Derived.Test.YtbijjjhfekkfaaaGreatPkc8a6fd74
import Derived.Sort.OwnSortedInts
import Derived.Lib.OwnBridge
import Derived.Lib.RowBridge
namespace Go.Proofs.YtbijjjhfekkfaaaGreat
set_option maxRecDepth 100000
open Go.RowKit Go.Shelf

theorem compact_step {zs : List Int} (hs : zs.Pairwise (· ≤ ·)) : ∀ m, m ≤ zs.length → rising (Lib.compactUpTo zs.toArray m) ∧ ∀ x, x ∈ Lib.compactUpTo zs.toArray m ↔ x ∈ zs.take m
  | 0, _ => ⟨List.Pairwise.nil, by simp [Lib.compactUpTo]⟩
  | m + 1, hm => by
    obtain ⟨h1, h2⟩ := compact_step hs m (by omega)
    have hz : zs[m]? = some (zs[m]'(by omega)) := List.getElem?_eq_getElem _
    have hd : zs.toArray[m]! = zs[m]'(by omega) := by rw [getElem!_pos zs.toArray m (by simp; omega)]; simp
    rw [Lib.compactUpTo_succ, take_snoc? hz]
    by_cases hk : Lib.keeps zs.toArray m = true
    · rw [if_pos hk, hd]
      refine ⟨?_, fun x => by rw [List.mem_append, List.mem_append, h2 x]⟩
      unfold rising
      rw [List.pairwise_append]
      refine ⟨h1, by simp, fun a ha b hb => ?_⟩
      rw [List.mem_singleton.1 hb]
      have ha2 := (h2 a).1 ha
      obtain ⟨i, hi⟩ := List.mem_iff_getElem?.1 ha2
      have him : i < m := by
        have := (List.getElem?_eq_some_iff.1 hi).1
        rw [List.length_take] at this; omega
      rw [List.getElem?_take_of_lt him] at hi
      obtain ⟨hil, hie⟩ := List.getElem?_eq_some_iff.1 hi
      have hne : zs.toArray[m]! ≠ zs.toArray[m - 1]! := by
        intro e
        rw [Lib.keeps_neg (by omega) e] at hk
        cases hk
      have hd1 : zs.toArray[m - 1]! = zs[m - 1]'(by omega) := by rw [getElem!_pos zs.toArray (m - 1) (by simp; omega)]; simp
      rw [hd, hd1] at hne
      have hp := List.pairwise_iff_getElem.1 hs
      have l1 : zs[m - 1]'(by omega) ≤ zs[m]'(by omega) := hp (m - 1) m (by omega) (by omega) (by omega)
      have l2 : a ≤ zs[m - 1]'(by omega) := by
        rw [← hie]
        rcases Nat.lt_or_ge i (m - 1) with h | h
        · exact hp i (m - 1) hil (by omega) h
        · have : i = m - 1 := by omega
          subst this; exact Int.le_refl _
      omega
    · rw [if_neg hk, List.append_nil]
      refine ⟨h1, fun x => ?_⟩
      rw [h2 x, List.mem_append, List.mem_singleton]
      refine ⟨.inl, fun h => h.elim id fun e => ?_⟩
      have hm0 : m ≠ 0 := fun e => hk (by simp [Lib.keeps, e])
      have heq : zs.toArray[m]! = zs.toArray[m - 1]! := by
        apply Classical.byContradiction
        intro h
        exact hk (Lib.keeps_pos h)
      have hd1 : zs.toArray[m - 1]! = zs[m - 1]'(by omega) := by rw [getElem!_pos zs.toArray (m - 1) (by simp; omega)]; simp
      rw [hd, hd1] at heq
      rw [e, heq]
      exact List.mem_of_getElem? (i := m - 1) (by rw [List.getElem?_take_of_lt (by omega)]; exact List.getElem?_eq_getElem _)
theorem compact_sorted {zs : List Int} (hs : zs.Pairwise (· ≤ ·)) : rising (Lib.compact zs) ∧ ∀ x, x ∈ Lib.compact zs ↔ x ∈ zs := by
  have := compact_step hs zs.length (Nat.le_refl _)
  rw [List.take_length] at this
  exact this
/-- a new cursor: its list as Q says, its blocks new but for those that G names -/
def NewCur (w : World) (G : Nat → Prop) (Q : List Int → Prop) (e : Ending) (w' : World) : Prop := ∃ p E F, e = .returned p ∧ IsCur w' p E F ∧ Q E ∧ (∀ k, F k → w.heap.size ≤ k ∨ G k) ∧ Below w.heap.size w w'
theorem src_iface : ∀ {d : Nat} {w : World} {v : Value} {E : List Int} {F : Nat → Prop}, IsSrc d w v E F → ∃ tid x, v = .iface tid x
  | 0, _, _, _, _, ⟨_, _, _, _, e, _⟩ => ⟨_, _, e⟩
  | _ + 1, _, _, _, _, .inl ⟨_, _, _, _, e, _⟩ => ⟨_, _, e⟩
  | _ + 1, _, _, _, _, .inr (.inl ⟨_, _, _, _, e, _⟩) => ⟨_, _, e⟩
  | _ + 1, _, _, _, _, .inr (.inr (.inl ⟨_, _, _, _, e, _⟩)) => ⟨_, _, e⟩
  | _ + 1, _, _, _, _, .inr (.inr (.inr ⟨_, _, e, _⟩)) => ⟨_, _, e⟩
theorem over_any (d : Nat) (v : Value) (E : List Int) (F : Nat → Prop) (w : World) (h : IsSrc d w v E F) :
    Calls Tryz.prog 160 #[v] w (NewCur w F (· = E)) := by
  have hr := src_rise d _ _ _ _ h
  have ho := src_old d _ _ _ _ h
  obtain ⟨tid, x, rfl⟩ := src_iface h
  go_enter Tryz.func160, Tryz.ntmps160
  go_wp2_with fail
  go_ret
  have hX := Whole1.new w 379 #[.iface tid x, .int .i64 (-9223372036854775808), .bool false]
  have hB : Below w.heap.size w (w.alloc (.cells #[.iface tid x, .int .i64 (-9223372036854775808), .bool false] 379)) := (Below.refl _ _).alloc (Nat.le_refl _) _
  refine ⟨_, E, fun k => k = w.heap.size ∨ F k, rfl, ⟨d, .inr ⟨w.heap.size, .iface tid x, -9223372036854775808, false, E, F, rfl, hX, fun h => by have := ho _ h; omega, ?_, by unfold inI; decide, fun _ => Iff.rfl, ?_⟩⟩, rfl, fun k hk => hk.imp (fun e => by omega) id, hB⟩
  · exact src_frame d _ _ _ _ _ h hB.size fun k hk => hB.block k (ho k hk)
  · simp only [Bool.false_eq_true, if_false]
    exact (geL_all fun x hx => (hr.2 x hx).1).symm

theorem union_exists : ∀ L : List Int, ∃ E, rising E ∧ ∀ x, x ∈ E ↔ x ∈ L := fun L => by
  have hs : (L.mergeSort fun a b => decide (a ≤ b)).Pairwise (· ≤ ·) := by
    have := List.pairwise_mergeSort (le := fun a b : Int => decide (a ≤ b)) (fun a b c h1 h2 => by simp at *; omega) (fun a b => by simp; omega) L
    exact this.imp fun h => by simpa using h
  obtain ⟨h1, h2⟩ := compact_sorted hs
  exact ⟨_, h1, fun x => by rw [h2 x]; exact (List.mergeSort_perm L _).mem_iff⟩
theorem kids_depth {w : World} : ∀ (cs : List Kid), (∀ x ∈ cs, IsCur w x.p x.E x.F) → ∃ d, ∀ x ∈ cs, CurOf (IsSrc d) w x.p x.E x.F
  | [], _ => ⟨0, by simp⟩
  | c :: cs, h => by
    obtain ⟨d1, h1⟩ := h c (by simp)
    obtain ⟨d2, h2⟩ := kids_depth cs fun x hx => h x (by simp [hx])
    refine ⟨max d1 d2, fun x hx => ?_⟩
    rcases List.mem_cons.1 hx with rfl | hx
    · exact cur_mono (fun _ _ _ _ hs => src_le (Nat.le_max_left _ _) hs) _ _ _ _ h1
    · exact cur_mono (fun _ _ _ _ hs => src_le (Nat.le_max_right _ _) hs) _ _ _ _ (h2 x hx)
/-- kids handed over in a row -/
structure KidRow (w : World) (A : Option Addr) (n : Nat) (cs : List Kid) : Prop where
  row : Row w w.heap.size 1 A n (cs.map Kid.p)
  len : cs.length = n
  fit : n * 8 ≤ 140737488351232
  cur : ∀ x ∈ cs, IsCur w x.p x.E x.F
  apart : cs.Pairwise fun x y => ∀ k, ¬ (x.F k ∧ y.F k)
theorem ptr_one {w : World} {p : Value} {E : List Int} {F : Nat → Prop} (h : IsCur w p E F) : p.oneCell' = true := by
  obtain ⟨d, ⟨rfl, _⟩ | ⟨b, v, fr, dn, E0, F0, rfl, _⟩⟩ := h <;> rfl
theorem kids_new {w w1 : World} {A1 : Option Addr} {n c1 : Nat} {cs : List Kid} {d : Nat} {A : Option Addr} (h : KidRow w A n cs) (hd : ∀ x ∈ cs, CurOf (IsSrc d) w x.p x.E x.F) (hr : Row w1 w1.heap.size 1 A1 n (cs.map Kid.p)) (hb : Below w.heap.size w w1) (ho : 0 < n → w1.ownsRow w.heap.size 183 1 (.slice A1 n c1) n (cs.map Kid.p)) :
    Kids (IsSrc d) w1 A1 cs (fun k => (cs ≠ [] ∧ blockOf A1 k) ∨ ∃ x ∈ cs, x.F k) := by
  have hold : ∀ x ∈ cs, ∀ k, x.F k → k < w.heap.size := fun x hx => isCur_old _ _ _ _ (h.cur x hx)
  have hnew : cs ≠ [] → ∀ k, blockOf A1 k → w.heap.size ≤ k ∧ k < w1.heap.size := fun hne k ⟨o, e⟩ => by
    have hn : 0 < n := by rw [← h.len]; exact List.length_pos_iff.2 hne
    subst e
    exact (ho hn).lt k rfl
  refine ⟨by rw [h.len]; exact hr, fun x hx => cur_frame (src_frame d) _ _ _ _ _ (hd x hx) hb.size fun k hk => hb.block k (hold x hx k hk), h.apart, fun x hx k hk hbk => ?_, ⟨fun k hne hbk => .inl ⟨hne, hbk⟩, fun x hx k hk => .inr ⟨x, hx, hk⟩⟩, fun k hk => ?_⟩
  · have := (hnew (fun e => by rw [e] at hx; simp at hx) k hbk).1
    have := hold x hx k hk
    omega
  · rcases hk with ⟨hne, hbk⟩ | ⟨x, hx, hk⟩
    · exact (hnew hne k hbk).2
    · have := hold x hx k hk
      have := hb.size
      omega
def gOf (cs : List Kid) (k : Nat) : Prop := ∃ x ∈ cs, x.F k

theorem make_of {w w1 : World} {A1 : Option Addr} {n c1 : Nat} {cs : List Kid} {E : List Int} {A : Option Addr} {d : Nat} {v : Value} {Q : List Int → Prop} (h : KidRow w A n cs) (hb : Below w.heap.size w w1) (ho : 0 < n → w1.ownsRow w.heap.size 183 1 (.slice A1 n c1) n (cs.map Kid.p)) (hQ : Q E)
    (hs : IsSrc d w1 v E (fun k => (cs ≠ [] ∧ blockOf A1 k) ∨ ∃ x ∈ cs, x.F k)) : Calls Tryz.prog 160 #[v] w1 (NewCur w (gOf cs) Q) := by
  refine (over_any d v E _ w1 hs).mono ?_
  rintro e w2 ⟨p, E2, F2, rfl, h1, rfl, h2, h3⟩
  refine ⟨p, E2, F2, rfl, h1, hQ, fun k hk => ?_, hb.trans (h3.mono hb.size)⟩
  rcases h2 k hk with h4 | ⟨hne, o, e⟩ | h4
  · have := hb.size; exact .inl (by omega)
  · have hn : 0 < n := by rw [← h.len]; exact List.length_pos_iff.2 hne
    subst e
    exact .inl ((ho hn).lt k rfl).1
  · exact .inr h4

set_option maxHeartbeats 800000 in
theorem and_any (A : Option Addr) (n c : Nat) (cs : List Kid) (w : World) (h : KidRow w A n cs) :
    Calls Tryz.prog 87 #[.slice A n c] w (NewCur w (gOf cs) fun E => ∀ x, x ∈ E ↔ cs ≠ [] ∧ ∀ y ∈ cs, x ∈ y.E) := by
  obtain ⟨d, hd⟩ := kids_depth cs h.cur
  obtain ⟨E, hE, hm⟩ : ∃ E, rising E ∧ ∀ x, x ∈ E ↔ cs ≠ [] ∧ ∀ y ∈ cs, x ∈ y.E := by
    cases cs with
    | nil => exact ⟨[], List.Pairwise.nil, by simp⟩
    | cons y cs =>
      obtain ⟨E, hE, hm⟩ := union_exists (y.E.filter fun x => (y :: cs).all fun z => decide (x ∈ z.E))
      refine ⟨E, hE, fun x => ?_⟩
      rw [hm x, List.mem_filter, List.all_eq_true]
      exact ⟨fun h => ⟨by simp, fun z hz => by simpa using h.2 z hz⟩, fun h => ⟨h.2 y (by simp), fun z hz => by simpa using h.2 z hz⟩⟩
  have S1 := hidden (clonePtr A n c (cs.map Kid.p) w h.row (fun u hu => by
    obtain ⟨x, hx, rfl⟩ := List.mem_map.1 hu
    exact ptr_one (h.cur x hx)) h.fit)
  have H := hidden h
  have HM := hidden hm
  clear h hm
  go_enter Tryz.func87, Tryz.ntmps87
  go_wp2_with fail
  refine S1.out.mono ?_
  rintro e w1 ⟨A1, c1, rfl, hc1, hr1, hb1, ho1⟩
  have hK := kids_new H.out hd hr1 hb1 ho1
  have hs : IsSrc (d + 1) w1 (.iface 303 (.slice A1 n c1)) E (fun k => (cs ≠ [] ∧ blockOf A1 k) ∨ ∃ x ∈ cs, x.F k) := .inr (.inl ⟨A1, n, c1, cs, rfl, H.out.len, by have := H.out.fit; omega, hK, hE, HM.out⟩)
  have S2 := hidden (make_of (Q := fun E => ∀ x, x ∈ E ↔ cs ≠ [] ∧ ∀ y ∈ cs, x ∈ y.E) H.out hb1 ho1 HM.out hs)
  clear hK hs hr1 hb1 ho1 S1
  go_wp2_with fail
  refine S2.out.mono ?_
  rintro e w2 ⟨p, E2, F2, rfl, h1⟩
  go_wp2_with fail
  go_ret
  exact ⟨p, E2, F2, rfl, h1⟩
end Go.Proofs.YtbijjjhfekkfaaaGreat
