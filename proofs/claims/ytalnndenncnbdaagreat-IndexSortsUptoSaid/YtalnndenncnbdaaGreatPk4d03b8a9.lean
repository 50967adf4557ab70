/- post.Of, And, Or, Without: new cursors. Condition: the rows are within the reach. post.Or, Without, Of: new cursors. Condition: the rows are within the reach. almanaclaw13.wakes: it holds. What the laws of cursors call: each as it tells of plain lists. Condition: the rows are within the reach. -/
import Derived.Test.YtalnndenncnbdaaGreatPk9e9e8481
import Derived.Test.YtalnndenncnbdaaGreatPke899b16f
import Derived.Sort.OwnSortedInts
import Derived.Lib.OwnBridge
import Derived.Lib.RowBridge
namespace Go.Proofs.YtalnndenncnbdaaGreat
set_option maxRecDepth 100000
open Go.RowKit Go.Shelf

theorem compact_step {zs : List Int} (hs : zs.Pairwise (· ≤ ·)) : ∀ m, m ≤ zs.length → rising (Lib.compactUpTo zs.toArray m) ∧ ∀ x, x ∈ Lib.compactUpTo zs.toArray m ↔ x ∈ zs.take m
  | 0, _ => ⟨List.Pairwise.nil, by simp [Lib.compactUpTo]⟩
  | m + 1, hm => by
    obtain ⟨h1, h2⟩ := compact_step hs m (by omega)
    have hz : zs[m]? = some (zs[m]'(by omega)) := List.getElem?_eq_getElem _
    have hd : zs.toArray[m]! = zs[m]'(by omega) := by rw [getElem!_pos zs.toArray m (by simp; omega)]; simp
    rw [Lib.compactUpTo_succ, take_snoc? hz]
    by_cases hk : Lib.keeps zs.toArray m = true
    · rw [if_pos hk, hd]
      refine ⟨?_, fun x => by rw [List.mem_append, List.mem_append, h2 x]⟩
      unfold rising
      rw [List.pairwise_append]
      refine ⟨h1, by simp, fun a ha b hb => ?_⟩
      rw [List.mem_singleton.1 hb]
      have ha2 := (h2 a).1 ha
      obtain ⟨i, hi⟩ := List.mem_iff_getElem?.1 ha2
      have him : i < m := by
        have := (List.getElem?_eq_some_iff.1 hi).1
        rw [List.length_take] at this; omega
      rw [List.getElem?_take_of_lt him] at hi
      obtain ⟨hil, hie⟩ := List.getElem?_eq_some_iff.1 hi
      have hne : zs.toArray[m]! ≠ zs.toArray[m - 1]! := by
        intro e
        rw [Lib.keeps_neg (by omega) e] at hk
        cases hk
      have hd1 : zs.toArray[m - 1]! = zs[m - 1]'(by omega) := by rw [getElem!_pos zs.toArray (m - 1) (by simp; omega)]; simp
      rw [hd, hd1] at hne
      have hp := List.pairwise_iff_getElem.1 hs
      have l1 : zs[m - 1]'(by omega) ≤ zs[m]'(by omega) := hp (m - 1) m (by omega) (by omega) (by omega)
      have l2 : a ≤ zs[m - 1]'(by omega) := by
        rw [← hie]
        rcases Nat.lt_or_ge i (m - 1) with h | h
        · exact hp i (m - 1) hil (by omega) h
        · have : i = m - 1 := by omega
          subst this; exact Int.le_refl _
      omega
    · rw [if_neg hk, List.append_nil]
      refine ⟨h1, fun x => ?_⟩
      rw [h2 x, List.mem_append, List.mem_singleton]
      refine ⟨.inl, fun h => h.elim id fun e => ?_⟩
      have hm0 : m ≠ 0 := fun e => hk (by simp [Lib.keeps, e])
      have heq : zs.toArray[m]! = zs.toArray[m - 1]! := by
        apply Classical.byContradiction
        intro h
        exact hk (Lib.keeps_pos h)
      have hd1 : zs.toArray[m - 1]! = zs[m - 1]'(by omega) := by rw [getElem!_pos zs.toArray (m - 1) (by simp; omega)]; simp
      rw [hd, hd1] at heq
      rw [e, heq]
      exact List.mem_of_getElem? (i := m - 1) (by rw [List.getElem?_take_of_lt (by omega)]; exact List.getElem?_eq_getElem _)
theorem compact_sorted {zs : List Int} (hs : zs.Pairwise (· ≤ ·)) : rising (Lib.compact zs) ∧ ∀ x, x ∈ Lib.compact zs ↔ x ∈ zs := by
  have := compact_step hs zs.length (Nat.le_refl _)
  rw [List.take_length] at this
  exact this
/-- a new cursor: its list as Q says, its blocks new but for those that G names -/
def NewCur (w : World) (G : Nat → Prop) (Q : List Int → Prop) (e : Ending) (w' : World) : Prop := ∃ p E F, e = .returned p ∧ IsCur w' p E F ∧ Q E ∧ (∀ k, F k → w.heap.size ≤ k ∨ G k) ∧ Below w.heap.size w w'
theorem src_iface : ∀ {d : Nat} {w : World} {v : Value} {E : List Int} {F : Nat → Prop}, IsSrc d w v E F → ∃ tid x, v = .iface tid x
  | 0, _, _, _, _, ⟨_, _, _, _, e, _⟩ => ⟨_, _, e⟩
  | _ + 1, _, _, _, _, .inl ⟨_, _, _, _, e, _⟩ => ⟨_, _, e⟩
  | _ + 1, _, _, _, _, .inr (.inl ⟨_, _, _, _, e, _⟩) => ⟨_, _, e⟩
  | _ + 1, _, _, _, _, .inr (.inr (.inl ⟨_, _, _, _, e, _⟩)) => ⟨_, _, e⟩
  | _ + 1, _, _, _, _, .inr (.inr (.inr ⟨_, _, e, _⟩)) => ⟨_, _, e⟩
theorem over_any (d : Nat) (v : Value) (E : List Int) (F : Nat → Prop) (w : World) (h : IsSrc d w v E F) :
    Calls Tryz.prog 98 #[v] w (NewCur w F (· = E)) := by
  have hr := src_rise d _ _ _ _ h
  have ho := src_old d _ _ _ _ h
  obtain ⟨tid, x, rfl⟩ := src_iface h
  go_enter Tryz.func98, Tryz.ntmps98
  go_wp2_with fail
  go_ret
  have hX := Whole1.new w 229 #[.iface tid x, .int .i64 (-9223372036854775808), .bool false]
  have hB : Below w.heap.size w (w.alloc (.cells #[.iface tid x, .int .i64 (-9223372036854775808), .bool false] 229)) := (Below.refl _ _).alloc (Nat.le_refl _) _
  refine ⟨_, E, fun k => k = w.heap.size ∨ F k, rfl, ⟨d, .inr ⟨w.heap.size, .iface tid x, -9223372036854775808, false, E, F, rfl, hX, fun h => by have := ho _ h; omega, ?_, by unfold inI; decide, fun _ => Iff.rfl, ?_⟩⟩, rfl, fun k hk => hk.imp (fun e => by omega) id, hB⟩
  · exact src_frame d _ _ _ _ _ h hB.size fun k hk => hB.block k (ho k hk)
  · simp only [Bool.false_eq_true, if_false]
    exact (geL_all fun x hx => (hr.2 x hx).1).symm

theorem union_exists : ∀ L : List Int, ∃ E, rising E ∧ ∀ x, x ∈ E ↔ x ∈ L := fun L => by
  have hs : (L.mergeSort fun a b => decide (a ≤ b)).Pairwise (· ≤ ·) := by
    have := List.pairwise_mergeSort (le := fun a b : Int => decide (a ≤ b)) (fun a b c h1 h2 => by simp at *; omega) (fun a b => by simp; omega) L
    exact this.imp fun h => by simpa using h
  obtain ⟨h1, h2⟩ := compact_sorted hs
  exact ⟨_, h1, fun x => by rw [h2 x]; exact (List.mergeSort_perm L _).mem_iff⟩
theorem kids_depth {w : World} : ∀ (cs : List Kid), (∀ x ∈ cs, IsCur w x.p x.E x.F) → ∃ d, ∀ x ∈ cs, CurOf (IsSrc d) w x.p x.E x.F
  | [], _ => ⟨0, by simp⟩
  | c :: cs, h => by
    obtain ⟨d1, h1⟩ := h c (by simp)
    obtain ⟨d2, h2⟩ := kids_depth cs fun x hx => h x (by simp [hx])
    refine ⟨max d1 d2, fun x hx => ?_⟩
    rcases List.mem_cons.1 hx with rfl | hx
    · exact cur_mono (fun _ _ _ _ hs => src_le (Nat.le_max_left _ _) hs) _ _ _ _ h1
    · exact cur_mono (fun _ _ _ _ hs => src_le (Nat.le_max_right _ _) hs) _ _ _ _ (h2 x hx)
/-- kids handed over in a row -/
structure KidRow (w : World) (A : Option Addr) (n : Nat) (cs : List Kid) : Prop where
  row : Row w w.heap.size 1 A n (cs.map Kid.p)
  len : cs.length = n
  fit : n * 8 ≤ 140737488351232
  cur : ∀ x ∈ cs, IsCur w x.p x.E x.F
  apart : cs.Pairwise fun x y => ∀ k, ¬ (x.F k ∧ y.F k)
theorem ptr_one {w : World} {p : Value} {E : List Int} {F : Nat → Prop} (h : IsCur w p E F) : p.oneCell' = true := by
  obtain ⟨d, ⟨rfl, _⟩ | ⟨b, v, fr, dn, E0, F0, rfl, _⟩⟩ := h <;> rfl
theorem kids_new {w w1 : World} {A1 : Option Addr} {n c1 : Nat} {cs : List Kid} {d : Nat} {A : Option Addr} (h : KidRow w A n cs) (hd : ∀ x ∈ cs, CurOf (IsSrc d) w x.p x.E x.F) (hr : Row w1 w1.heap.size 1 A1 n (cs.map Kid.p)) (hb : Below w.heap.size w w1) (ho : 0 < n → w1.ownsRow w.heap.size 94 1 (.slice A1 n c1) n (cs.map Kid.p)) :
    Kids (IsSrc d) w1 A1 cs (fun k => (cs ≠ [] ∧ blockOf A1 k) ∨ ∃ x ∈ cs, x.F k) := by
  have hold : ∀ x ∈ cs, ∀ k, x.F k → k < w.heap.size := fun x hx => isCur_old _ _ _ _ (h.cur x hx)
  have hnew : cs ≠ [] → ∀ k, blockOf A1 k → w.heap.size ≤ k ∧ k < w1.heap.size := fun hne k ⟨o, e⟩ => by
    have hn : 0 < n := by rw [← h.len]; exact List.length_pos_iff.2 hne
    subst e
    exact (ho hn).lt k rfl
  refine ⟨by rw [h.len]; exact hr, fun x hx => cur_frame (src_frame d) _ _ _ _ _ (hd x hx) hb.size fun k hk => hb.block k (hold x hx k hk), h.apart, fun x hx k hk hbk => ?_, ⟨fun k hne hbk => .inl ⟨hne, hbk⟩, fun x hx k hk => .inr ⟨x, hx, hk⟩⟩, fun k hk => ?_⟩
  · have := (hnew (fun e => by rw [e] at hx; simp at hx) k hbk).1
    have := hold x hx k hk
    omega
  · rcases hk with ⟨hne, hbk⟩ | ⟨x, hx, hk⟩
    · exact (hnew hne k hbk).2
    · have := hold x hx k hk
      have := hb.size
      omega
def gOf (cs : List Kid) (k : Nat) : Prop := ∃ x ∈ cs, x.F k

theorem make_of {w w1 : World} {A1 : Option Addr} {n c1 : Nat} {cs : List Kid} {E : List Int} {A : Option Addr} {d : Nat} {v : Value} {Q : List Int → Prop} (h : KidRow w A n cs) (hb : Below w.heap.size w w1) (ho : 0 < n → w1.ownsRow w.heap.size 94 1 (.slice A1 n c1) n (cs.map Kid.p)) (hQ : Q E)
    (hs : IsSrc d w1 v E (fun k => (cs ≠ [] ∧ blockOf A1 k) ∨ ∃ x ∈ cs, x.F k)) : Calls Tryz.prog 98 #[v] w1 (NewCur w (gOf cs) Q) := by
  refine (over_any d v E _ w1 hs).mono ?_
  rintro e w2 ⟨p, E2, F2, rfl, h1, rfl, h2, h3⟩
  refine ⟨p, E2, F2, rfl, h1, hQ, fun k hk => ?_, hb.trans (h3.mono hb.size)⟩
  rcases h2 k hk with h4 | ⟨hne, o, e⟩ | h4
  · have := hb.size; exact .inl (by omega)
  · have hn : 0 < n := by rw [← h.len]; exact List.length_pos_iff.2 hne
    subst e
    exact .inl ((ho hn).lt k rfl).1
  · exact .inr h4

set_option maxHeartbeats 800000 in
theorem and_any (A : Option Addr) (n c : Nat) (cs : List Kid) (w : World) (h : KidRow w A n cs) :
    Calls Tryz.prog 53 #[.slice A n c] w (NewCur w (gOf cs) fun E => ∀ x, x ∈ E ↔ cs ≠ [] ∧ ∀ y ∈ cs, x ∈ y.E) := by
  obtain ⟨d, hd⟩ := kids_depth cs h.cur
  obtain ⟨E, hE, hm⟩ : ∃ E, rising E ∧ ∀ x, x ∈ E ↔ cs ≠ [] ∧ ∀ y ∈ cs, x ∈ y.E := by
    cases cs with
    | nil => exact ⟨[], List.Pairwise.nil, by simp⟩
    | cons y cs =>
      obtain ⟨E, hE, hm⟩ := union_exists (y.E.filter fun x => (y :: cs).all fun z => decide (x ∈ z.E))
      refine ⟨E, hE, fun x => ?_⟩
      rw [hm x, List.mem_filter, List.all_eq_true]
      exact ⟨fun h => ⟨by simp, fun z hz => by simpa using h.2 z hz⟩, fun h => ⟨h.2 y (by simp), fun z hz => by simpa using h.2 z hz⟩⟩
  have S1 := hidden (clonePtr A n c (cs.map Kid.p) w h.row (fun u hu => by
    obtain ⟨x, hx, rfl⟩ := List.mem_map.1 hu
    exact ptr_one (h.cur x hx)) h.fit)
  have H := hidden h
  have HM := hidden hm
  clear h hm
  go_enter Tryz.func53, Tryz.ntmps53
  go_wp2_with fail
  refine S1.out.mono ?_
  rintro e w1 ⟨A1, c1, rfl, hc1, hr1, hb1, ho1⟩
  have hK := kids_new H.out hd hr1 hb1 ho1
  have hs : IsSrc (d + 1) w1 (.iface 162 (.slice A1 n c1)) E (fun k => (cs ≠ [] ∧ blockOf A1 k) ∨ ∃ x ∈ cs, x.F k) := .inr (.inl ⟨A1, n, c1, cs, rfl, H.out.len, by have := H.out.fit; omega, hK, hE, HM.out⟩)
  have S2 := hidden (make_of (Q := fun E => ∀ x, x ∈ E ↔ cs ≠ [] ∧ ∀ y ∈ cs, x ∈ y.E) H.out hb1 ho1 HM.out hs)
  clear hK hs hr1 hb1 ho1 S1
  go_wp2_with fail
  refine S2.out.mono ?_
  rintro e w2 ⟨p, E2, F2, rfl, h1⟩
  go_wp2_with fail
  go_ret
  exact ⟨p, E2, F2, rfl, h1⟩
end Go.Proofs.YtalnndenncnbdaaGreat

namespace Go.Proofs.YtalnndenncnbdaaGreat
set_option maxRecDepth 100000
open Go.RowKit Go.Shelf

set_option maxHeartbeats 800000 in
theorem or_any (A : Option Addr) (n c : Nat) (cs : List Kid) (w : World) (h : KidRow w A n cs) :
    Calls Tryz.prog 97 #[.slice A n c] w (NewCur w (gOf cs) fun E => ∀ x, x ∈ E ↔ ∃ y ∈ cs, x ∈ y.E) := by
  obtain ⟨d, hd⟩ := kids_depth cs h.cur
  obtain ⟨E, hE, hm⟩ : ∃ E, rising E ∧ ∀ x, x ∈ E ↔ ∃ y ∈ cs, x ∈ y.E := by
    obtain ⟨E, hE, hm⟩ := union_exists (cs.flatMap Kid.E)
    exact ⟨E, hE, fun x => by rw [hm x, List.mem_flatMap]⟩
  have S1 := hidden (clonePtr A n c (cs.map Kid.p) w h.row (fun u hu => by
    obtain ⟨x, hx, rfl⟩ := List.mem_map.1 hu
    exact ptr_one (h.cur x hx)) h.fit)
  have H := hidden h
  have HM := hidden hm
  clear h hm
  go_enter Tryz.func97, Tryz.ntmps97
  go_wp2_with fail
  refine S1.out.mono ?_
  rintro e w1 ⟨A1, c1, rfl, hc1, hr1, hb1, ho1⟩
  have hK := kids_new H.out hd hr1 hb1 ho1
  have hs : IsSrc (d + 1) w1 (.iface 225 (.slice A1 n c1)) E (fun k => (cs ≠ [] ∧ blockOf A1 k) ∨ ∃ x ∈ cs, x.F k) := .inr (.inr (.inl ⟨A1, n, c1, cs, rfl, H.out.len, by have := H.out.fit; omega, hK, hE, HM.out⟩))
  have S2 := hidden (make_of (Q := fun E => ∀ x, x ∈ E ↔ ∃ y ∈ cs, x ∈ y.E) H.out hb1 ho1 HM.out hs)
  clear hK hs hr1 hb1 ho1 S1
  go_wp2_with fail
  refine S2.out.mono ?_
  rintro e w2 ⟨p, E2, F2, rfl, h1⟩
  go_wp2_with fail
  go_ret
  exact ⟨p, E2, F2, rfl, h1⟩

set_option maxHeartbeats 800000 in
theorem without_any (x y : Kid) (w : World) (hx : IsCur w x.p x.E x.F) (hy : IsCur w y.p y.E y.F) (hd : ∀ k, ¬ (x.F k ∧ y.F k)) :
    Calls Tryz.prog 96 #[x.p, y.p] w (NewCur w (fun k => x.F k ∨ y.F k) fun E => ∀ z, z ∈ E ↔ z ∈ x.E ∧ z ∉ y.E) := by
  obtain ⟨d, hcs⟩ := kids_depth (w := w) [x, y] (by simp; exact ⟨hx, hy⟩)
  obtain ⟨E, hE, hm⟩ := union_exists (x.E.filter fun z => decide (z ∉ y.E))
  have hm2 : ∀ z, z ∈ E ↔ z ∈ x.E ∧ z ∉ y.E := fun z => by rw [hm z, List.mem_filter]; simp
  have hs : IsSrc (d + 1) w (.iface 224 (.agg #[x.p, y.p])) E (fun k => x.F k ∨ y.F k) := .inr (.inr (.inr ⟨x, y, rfl, hcs x (by simp), hcs y (by simp), hd, fun _ => Iff.rfl, hE, hm2⟩))
  have S2 := hidden (over_any (d + 1) _ _ _ w hs)
  have HM := hidden hm2
  obtain ⟨d1, ⟨e1, _⟩ | ⟨b1, v1, fr1, dn1, E1, F1, e1, _⟩⟩ := hx
  all_goals obtain ⟨d2, ⟨e2, _⟩ | ⟨b2, v2, fr2, dn2, E2, F2, e2, _⟩⟩ := hy
  all_goals
    rw [e1, e2] at S2 ⊢
    clear hm hm2 hs hcs
    go_enter Tryz.func96, Tryz.ntmps96
    go_wp2_with fail
    refine S2.out.mono ?_
    rintro e w2 ⟨p, E2', F2', rfl, h1, rfl, h2⟩
    go_wp2_with fail
    go_ret
    exact ⟨p, E2', F2', rfl, h1, HM.out, h2⟩

theorem list_new {w0 w : World} {A : Option Addr} {n c : Nat} {E : List Int} (hr : Row w w.heap.size 1 A n (E.map (Value.int .i64))) (hc : n ≤ c) (hn : n * 8 ≤ 140737488355328) (ho : 0 < n → ∀ k, blockOf A k → w0.heap.size ≤ k ∧ k < w.heap.size) (hE : rising E) (hI : ∀ x ∈ E, inI x) (hb : Below w0.heap.size w0 w) {Q : List Int → Prop} (hQ : Q E) :
    Calls Tryz.prog 98 #[.iface 191 (.pointer (some ⟨w.heap.size, 0, none⟩))] (w.alloc (.cells #[.slice A n c] 193)) (NewCur w0 (fun _ => False) Q) := by
  have hb2 : Below w.heap.size w (w.alloc (.cells #[.slice A n c] 193)) := (Below.refl _ _).alloc (Nat.le_refl _) _
  have hs : IsSrc 0 (w.alloc (.cells #[.slice A n c] 193)) (.iface 191 (.pointer (some ⟨w.heap.size, 0, none⟩))) E (fun k => k = w.heap.size ∨ (0 < n ∧ blockOf A k)) :=
    ⟨w.heap.size, A, n, c, rfl, Whole1.new _ _ _, (hr.below hb2).more hb2.size, hc, hn, fun h hbk => by have := (ho h _ hbk).2; omega, ⟨.inl rfl, fun k h hbk => .inr ⟨h, hbk⟩⟩, hE, hI, fun k hk => by
      rcases hk with rfl | ⟨h, hbk⟩
      · simp
      · have := (ho h _ hbk).2; simp; omega⟩
  refine (over_any 0 _ E _ _ hs).mono ?_
  rintro e w2 ⟨p, E2, F2, rfl, h1, rfl, h2, h3⟩
  have hs0 := hb.size
  refine ⟨p, E2, F2, rfl, h1, hQ, fun k hk => ?_, hb.trans ((hb2.trans (h3.mono hb2.size)).mono hs0)⟩
  rcases h2 k hk with h4 | rfl | ⟨h, hbk⟩
  · simp at h4; exact .inl (by omega)
  · exact .inl hs0
  · exact .inl (ho h _ hbk).1
set_option maxHeartbeats 1600000 in
theorem of_any (A : Option Addr) (n c : Nat) (l : List Int) (w : World) (hr : Row w w.heap.size 1 A n (l.map (Value.int .i64))) (hn : n * 8 ≤ 140737488351232) (hI : ∀ x ∈ l, inI x) :
    Calls Tryz.prog 82 #[.slice A n c] w (NewCur w (fun _ => False) fun E => (∀ x, x ∈ E ↔ x ∈ l) ∧ E.length ≤ n) := by
  have hl := hr.len
  rw [List.length_map, Nat.mul_one] at hl
  have S1 := hidden (cloneInt A n c (l.map (Value.int .i64)) w hr (fun u hu => by
    obtain ⟨x, _, rfl⟩ := List.mem_map.1 hu
    rfl) hn)
  clear hr
  rcases Nat.eq_zero_or_pos n with h0 | h0
  · subst h0
    obtain rfl : l = [] := List.eq_nil_of_length_eq_zero hl
    go_enter Tryz.func82, Tryz.ntmps82
    go_wp2_with fail
    refine S1.out.mono ?_
    rintro e w1 ⟨A1, c1, rfl, hc1, hr1, hb1, _⟩
    have HB := hidden hb1
    clear hb1 S1 hr1
    go_wp2_with fail
    refine (slices_Sort_int_none A1 c1 _).mono ?_
    rintro e w' ⟨rfl, rfl⟩
    go_wp2_with fail
    refine (slices_Compact_int_empty A1 c1 _).mono ?_
    rintro e w' ⟨rfl, rfl⟩
    have S2 := list_new (w := w') (c := c1) (Q := fun E => (∀ x, x ∈ E ↔ x ∈ ([] : List Int)) ∧ E.length ≤ 0) (Row.nil (A := A1)) (Nat.zero_le _) (by omega) (fun h => absurd h (by omega)) List.Pairwise.nil (by simp) HB.out (by simp)
    go_wp2_with fail
    refine S2.mono ?_
    rintro e w2 ⟨p, E2, F2, rfl, h1⟩
    go_wp2_with fail
    go_ret
    exact ⟨p, E2, F2, rfl, h1⟩
  · subst hl
    obtain ⟨ts, hts⟩ : ∃ ts, l.mergeSort (fun x y => decide (x ≤ y)) = ts := ⟨_, rfl⟩
    have hperm : ts.Perm l := by rw [← hts]; exact List.mergeSort_perm l _
    have hsrt : ts.Pairwise (· ≤ ·) := by
      rw [← hts]
      have := List.pairwise_mergeSort (le := fun a b : Int => decide (a ≤ b)) (fun a b c h1 h2 => by simp at *; omega) (fun a b => by simp; omega) l
      exact this.imp fun h => by simpa using h
    obtain ⟨hE, hm⟩ := compact_sorted hsrt
    have hle := Lib.compact_length_le ts
    have htl := hperm.length_eq
    have HTL := hidden htl
    have HEX := hidden (fun (w1 : World) (g cap : Nat) (hown : w1.ownsRow w.heap.size 3 1 (.slice (some ⟨g, 0, none⟩) l.length cap) l.length (l.map (Value.int .i64))) => slices_Sort_int g 0 cap l w1 (by
      obtain ⟨g', cap', e, _, _, _, _, _, hH⟩ := Lib.holds_of_ownsRow hown (by simp)
      simp only [Value.slice.injEq, Option.some.injEq, Addr.mk.injEq] at e
      obtain ⟨⟨rfl, _⟩, _⟩ := e
      exact hH) (hown.lt g rfl).2 (by omega))
    rw [hts] at HEX
    have HQ := hidden (show (∀ x, x ∈ Lib.compact ts ↔ x ∈ l) from fun x => by rw [hm x]; exact hperm.mem_iff)
    have HI := hidden (show ∀ x ∈ Lib.compact ts, inI x from fun x hx => hI x ((HQ.out x).1 hx))
    clear hts hperm hsrt hm hI htl
    go_enter Tryz.func82, Tryz.ntmps82
    go_wp2_with fail
    refine S1.out.mono ?_
    rintro e w1 ⟨A1, c1, rfl, hc1, hr1, hb1, ho1⟩
    have hown := ho1 h0
    obtain ⟨g, cap, cur, hv, hbase, hbk, hn1, hcm, hcs, htk⟩ : ∃ g cap cur, (Value.slice A1 l.length c1) = .slice (some ⟨g, 0, none⟩) l.length cap ∧ w.heap.size ≤ g ∧ w1.heap[g]? = some (.cells cur 3 (0, 0)) ∧ l.length ≤ cap ∧ cap ≤ maxLen ∧ cur.size = cap * 1 ∧ cur.toList.take (l.length * 1) = l.map (Value.int .i64) := by
      rcases hown.2 with ⟨_, h⟩ | ⟨g, cap, cur, h⟩
      · omega
      · exact ⟨g, cap, cur, h⟩
    simp only [Value.slice.injEq, true_and] at hv
    obtain ⟨rfl, rfl⟩ := hv
    have S2 := HEX.out w1 g c1 hown
    have hown2 := fun n os => ownsRow_sortedI (n := n) (os := os) HTL.out hbase hbk hn1 hcm hcs
    have hb2 := fun n os => hb1.grown (grownBy_sortedI (n := n) (os := os) ts.toArray) hb1.size (fun j hj => by cases hj; exact hbase)
    have HS2 := hidden S2
    have HOW := hidden hown2
    have HB2 := hidden hb2
    have HC1 := hidden hc1
    clear S1 S2 hown hown2 hb2 ho1 hr1 hb1 hbk hn1 hcm hcs htk HEX hc1
    go_wp2_with fail
    refine HS2.out.mono ?_
    rintro e w2 ⟨rfl, nq, os, rfl⟩
    have hown2 := HOW.out nq os
    have hb2 := HB2.out nq os
    generalize Go.Sort.grow (Go.Sort.putRow (Value.int .i64) (Go.Sort.ahead w1 nq) g 0 ts.toArray) os = w2 at hown2 hb2 ⊢
    have S3 := slices_Compact_int g 0 c1 ts w2 (by
      obtain ⟨g', cap', e, _, _, _, _, _, hH⟩ := Lib.holds_of_ownsRow hown2 (by simp)
      simp only [Value.slice.injEq, Option.some.injEq, Addr.mk.injEq] at e
      obtain ⟨⟨rfl, _⟩, _⟩ := e
      exact hH) (by have := HTL.out; omega) (by have := HTL.out; have := HC1.out; omega)
    rw [HTL.out] at S3
    have HS3 := hidden S3
    have HO2 := hidden hown2
    have HB3 := hidden hb2
    clear S3 hown2 hb2 HS2 HOW HB2
    go_wp2_with fail
    refine HS3.out.mono ?_
    rintro e w3 ⟨rfl, q, rfl⟩
    have hown3 := Lib.ownsRow_putRow (q := q) (k := (Lib.compact ts).length) (ys := Lib.compact ts ++ List.replicate (l.length - (Lib.compact ts).length) 0) HO2.out (by have := HTL.out; rw [List.length_append, List.length_replicate]; omega) (by have := HTL.out; omega)
    rw [List.take_left] at hown3
    have hb3 : Below w.heap.size w (Go.Sort.putRow (Value.int .i64) (Go.Sort.ahead w2 q) g 0 (Lib.compact ts ++ List.replicate (l.length - (Lib.compact ts).length) 0).toArray) := Lib.below_putRow HB3.out hbase
    generalize Go.Sort.putRow (Value.int .i64) (Go.Sort.ahead w2 q) g 0 (Lib.compact ts ++ List.replicate (l.length - (Lib.compact ts).length) 0).toArray = w3 at hown3 hb3 ⊢
    have S4 := hidden (list_new (c := c1) (Q := fun E => (∀ x, x ∈ E ↔ x ∈ l) ∧ E.length ≤ l.length) (Row.of_own hown3) (by have := HTL.out; have := HC1.out; omega) (by have := HTL.out; omega) (fun _ k ⟨o, e⟩ => by
      simp only [Option.some.injEq, Addr.mk.injEq] at e
      obtain ⟨rfl, _⟩ := e
      exact hown3.lt g rfl) hE HI.out hb3 ⟨HQ.out, by have := HTL.out; omega⟩)
    clear hown3 hb3 HS3 HO2 HB3
    go_wp2_with fail
    refine S4.out.mono ?_
    rintro e w4 ⟨p, E2, F2, rfl, h1⟩
    go_wp2_with fail
    go_ret
    exact ⟨p, E2, F2, rfl, h1⟩
end Go.Proofs.YtalnndenncnbdaaGreat

namespace Go.Proofs.YtalnndenncnbdaaGreat
set_option maxRecDepth 100000
open Go.RowKit Go.Shelf

theorem isCur_ptr {w : World} {p : Value} {E : List Int} {F : Nat → Prop} (h : IsCur w p E F) : ∃ a, p = .pointer a := by
  obtain ⟨d, ⟨rfl, _⟩ | ⟨b, v, fr, dn, E0, F0, rfl, _⟩⟩ := h
  · exact ⟨_, rfl⟩
  · exact ⟨_, rfl⟩
theorem isCur_on {w w' : World} {p : Value} {E : List Int} {F : Nat → Prop} (h : IsCur w p E F) (hb : Below w.heap.size w w') : IsCur w' p E F :=
  isCur_frame _ _ _ _ _ h hb.size fun k hk => hb.block k (isCur_old _ _ _ _ h k hk)
theorem isCur_kp {w w' : World} {p : Value} {E : List Int} {F G : Nat → Prop} (h : IsCur w p E F) (hk : Kp G w w') (hd : ∀ k, ¬ (F k ∧ G k)) : IsCur w' p E F :=
  isCur_frame _ _ _ _ _ h hk.size fun k hF => hk.block k (isCur_old _ _ _ _ h k hF) fun hG => hd k ⟨hF, hG⟩
/-- a call returned a new cursor over this very list -/
theorem of_lit (l : List Int) (c : Nat) (w : World) (hl : l.length * 8 ≤ 140737488351232) (hI : ∀ x ∈ l, inI x) (hr : rising l) :
    Calls Tryz.prog 82 #[.slice (some ⟨w.heap.size, 0, none⟩) l.length c] (w.alloc (.cells (l.map (Value.int .i64)).toArray 3)) (NewCur w (fun _ => False) (· = l)) := by
  have hb : Below w.heap.size w (w.alloc (.cells (l.map (Value.int .i64)).toArray 3)) := (Below.refl _ _).alloc (Nat.le_refl _) _
  have hf := Row.fresh w 3 1 l.length (l.map (Value.int .i64)) (by simp)
  refine (of_any _ l.length c l _ (hf.more (by simp)) hl hI).mono ?_
  rintro e w' ⟨p, E, F, rfl, h1, ⟨h2, _⟩, h3, h4⟩
  refine ⟨p, E, F, rfl, h1, rising_ext (isCur_rise _ _ _ _ h1).1 hr h2, fun k hk => (h3 k hk).imp (fun h => by simp at h; omega) id, hb.trans (h4.mono (by simp))⟩

end Go.Proofs.YtalnndenncnbdaaGreat

namespace Go.Proofs.YtalnndenncnbdaaGreat
set_option maxRecDepth 100000
open Go.RowKit Go.Shelf

structure IntF (w : World) (A : Option Addr) (n : Nat) (l : List Int) : Prop where
  row : Row w w.heap.size 1 A n (l.map (Value.int .i64))
  len : l.length = n
  fit : n * 8 ≤ 140737488351232
  ints : ∀ x ∈ l, inI x
theorem IntF.on {w w' : World} {A : Option Addr} {n : Nat} {l : List Int} (h : IntF w A n l) (hb : Below w.heap.size w w') : IntF w' A n l := ⟨(h.row.below hb).more hb.size, h.len, h.fit, h.ints⟩
/-- a cursor that was made behind the world ws -/
def FC (ws w : World) (p : Value) (E : List Int) (F : Nat → Prop) : Prop := IsCur w p E F ∧ (∀ k, F k → ws.heap.size ≤ k) ∧ Below ws.heap.size ws w
def FCR (ws : World) (Q : List Int → Prop) (e : Ending) (w' : World) : Prop := ∃ a E F, e = .returned (.pointer a) ∧ FC ws w' (.pointer a) E F ∧ Q E
theorem fcr_new {ws w : World} {G : Nat → Prop} {Q : List Int → Prop} {e : Ending} {w' : World} (h : NewCur w G Q e w') (hG : ∀ k, G k → ws.heap.size ≤ k) (hb : Below ws.heap.size ws w) : FCR ws Q e w' := by
  obtain ⟨p, E, F, rfl, h1, h2, h3, h4⟩ := h
  obtain ⟨a, rfl⟩ := isCur_ptr h1
  refine ⟨a, E, F, rfl, ⟨h1, fun k hk => ?_, hb.trans (h4.mono hb.size)⟩, h2⟩
  rcases h3 k hk with h | h
  · have := hb.size; omega
  · exact hG k h

/-- post.Of at a list that came in -/
theorem ofF (A : Option Addr) (n c : Nat) (l : List Int) (w : World) (h : IntF w A n l) :
    Calls Tryz.prog 82 #[.slice A n c] w (FCR w fun E => (∀ x, x ∈ E ↔ x ∈ l) ∧ E.length ≤ n) :=
  (of_any A n c l w h.row h.fit h.ints).mono fun _ _ k => fcr_new k (fun _ h => h.elim) (Below.refl _ _)
/-- two cursors handed over -/
theorem pair_row {ws w1 w2 : World} {a1 a2 : Option Addr} {E1 E2 : List Int} {F1 F2 : Nat → Prop} (h1 : FC ws w1 (.pointer a1) E1 F1) (h2 : FC w1 w2 (.pointer a2) E2 F2) :
    KidRow (w2.alloc (.cells #[.pointer a1, .pointer a2] 94)) (some ⟨w2.heap.size, 0, none⟩) 2 [⟨.pointer a1, E1, F1⟩, ⟨.pointer a2, E2, F2⟩] ∧
    (∀ k, gOf [⟨.pointer a1, E1, F1⟩, ⟨.pointer a2, E2, F2⟩] k → ws.heap.size ≤ k) ∧ Below ws.heap.size ws (w2.alloc (.cells #[.pointer a1, .pointer a2] 94)) := by
  obtain ⟨c1, f1, b1⟩ := h1
  obtain ⟨c2, f2, b2⟩ := h2
  have hb3 : Below w2.heap.size w2 (w2.alloc (.cells #[.pointer a1, .pointer a2] 94)) := (Below.refl _ _).alloc (Nat.le_refl _) _
  have hap : ∀ k, F1 k → ¬ F2 k := fun k a b => by
    have := isCur_old _ _ _ _ c1 k a
    have := f2 k b
    omega
  refine ⟨⟨(Row.fresh w2 94 1 2 [.pointer a1, .pointer a2] rfl).more (by simp), rfl, by decide, ?_, by simp; exact hap⟩, fun k ⟨x, hx, hk⟩ => ?_, b1.trans ((b2.trans (hb3.mono b2.size)).mono b1.size)⟩
  · simp only [List.mem_cons, List.not_mem_nil, or_false, forall_eq_or_imp, forall_eq]
    exact ⟨isCur_on (isCur_on c1 b2) hb3, isCur_on c2 hb3⟩
  · simp only [List.mem_cons, List.not_mem_nil, or_false] at hx
    rcases hx with rfl | rfl
    · exact f1 k hk
    · have := f2 k hk
      have := b1.size
      omega
section
variable {ws w1 w2 : World} {a1 a2 : Option Addr} {E1 E2 : List Int} {F1 F2 : Nat → Prop} (h1 : FC ws w1 (.pointer a1) E1 F1) (h2 : FC w1 w2 (.pointer a2) E2 F2)
include h1 h2
theorem andF : Calls Tryz.prog 53 #[.slice (some ⟨w2.heap.size, 0, none⟩) 2 2] (w2.alloc (.cells #[.pointer a1, .pointer a2] 94)) (FCR ws fun E => ∀ x, x ∈ E ↔ x ∈ E1 ∧ x ∈ E2) := by
  obtain ⟨k1, k2, k3⟩ := pair_row h1 h2
  refine (and_any _ 2 2 _ _ k1).mono fun e w' k => ?_
  obtain ⟨a, E, F, r1, r2, r3⟩ := fcr_new k k2 k3
  exact ⟨a, E, F, r1, r2, fun x => by rw [r3 x]; simp⟩
theorem orF : Calls Tryz.prog 97 #[.slice (some ⟨w2.heap.size, 0, none⟩) 2 2] (w2.alloc (.cells #[.pointer a1, .pointer a2] 94)) (FCR ws fun E => ∀ x, x ∈ E ↔ x ∈ E1 ∨ x ∈ E2) := by
  obtain ⟨k1, k2, k3⟩ := pair_row h1 h2
  refine (or_any _ 2 2 _ _ k1).mono fun e w' k => ?_
  obtain ⟨a, E, F, r1, r2, r3⟩ := fcr_new k k2 k3
  exact ⟨a, E, F, r1, r2, fun x => by rw [r3 x]; simp⟩
theorem withoutF : Calls Tryz.prog 96 #[.pointer a1, .pointer a2] w2 (FCR ws fun E => ∀ x, x ∈ E ↔ x ∈ E1 ∧ x ∉ E2) := by
  obtain ⟨c1, f1, b1⟩ := h1
  obtain ⟨c2, f2, b2⟩ := h2
  have hs := b1.size
  refine (without_any ⟨.pointer a1, E1, F1⟩ ⟨.pointer a2, E2, F2⟩ w2 (isCur_on c1 b2) c2 fun k ⟨a, b⟩ => ?_).mono fun e w' k => fcr_new k (fun k hk => ?_) (b1.trans (b2.mono hs))
  · have := isCur_old _ _ _ _ c1 k a
    have := f2 k b
    omega
  · rcases hk with h | h
    · exact f1 k h
    · have := f2 k h; omega
end
/-- all that is left -/
theorem restF {ws w : World} {a : Option Addr} {E : List Int} {F : Nat → Prop} (h : FC ws w (.pointer a) E F) (hl : E.length * 8 ≤ 140737488351232) :
    Calls Tryz.prog 44 #[.pointer a] w fun e w' => ∃ A c, e = .returned (.slice A E.length c) ∧ IntF w' A E.length E ∧ Below ws.heap.size ws w' := by
  obtain ⟨h1, h2, h3⟩ := h
  have hI := (isCur_rise _ _ _ _ h1).2
  refine (rest_cur _ E F w h1 (by omega)).mono ?_
  rintro e w' ⟨v, rfl, ho, _, hk⟩
  obtain ⟨A, c, rfl, _, hr⟩ := own_shape ho
  exact ⟨A, c, rfl, ⟨hr, rfl, hl, hI⟩, h3.trans (hk.below h2 h3.size)⟩
theorem FC.rising {ws w : World} {p : Value} {E : List Int} {F : Nat → Prop} (h : FC ws w p E F) : rising E := (isCur_rise _ _ _ _ h.1).1
theorem rising_nodup {E : List Int} (h : rising E) : E.Nodup := h.imp fun h => by omega
/-- a rising list among so many elements is no longer -/
theorem rising_le {E l : List Int} (h : rising E) (hm : ∀ x ∈ E, x ∈ l) : E.length ≤ l.length := by
  induction E generalizing l with
  | nil => simp
  | cons e E ih =>
    obtain ⟨h1, h2⟩ := List.pairwise_cons.1 h
    obtain ⟨l1, l2, rfl⟩ := List.append_of_mem (hm e (by simp))
    have := ih (l := l1 ++ l2) h2 fun x hx => by
      have hx2 := hm x (by simp [hx])
      have hne := h1 x hx
      rcases List.mem_append.1 hx2 with hx2 | hx2
      · exact List.mem_append_left _ hx2
      · rcases List.mem_cons.1 hx2 with e | hx2
        · omega
        · exact List.mem_append_right _ hx2
    simp only [List.length_append, List.length_cons] at this ⊢
    omega
end Go.Proofs.YtalnndenncnbdaaGreat
