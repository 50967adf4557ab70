/- The law's own helper built, walked: the cursor that is made last, and its list. Condition: the nodes are within the reach, their numbers of bulk at most 1048576. -/
import Derived.Test.YtjklonfheenfbaaBuiltP
import Derived.Test.YtjklonfheenfbaaAppFull
namespace Go.Proofs.Ytjklonfheenfbaa
set_option maxRecDepth 100000
open Go.RowKit Go.Shelf

/-- the stack of cursors, and the stack of lists, as they lie -/
structure BI (ws w : World) (A : Option Addr) (N : Nat) (cs : List Kid) (B : Option Addr) (ss : List IS) : Prop where
  kids : KidRow w A N cs
  lists : LLF w B N ss
  same : cs.map Kid.E = ss.map IS.l
  new : ∀ x ∈ cs, ∀ k, x.F k → ws.heap.size ≤ k
  off : ∀ x ∈ cs, ∀ s ∈ ss, ∀ k, x.F k → ¬ (0 < s.n ∧ blockOf s.A k)
  below : Below ws.heap.size ws w
theorem KidRow.on {w w' : World} {A : Option Addr} {n : Nat} {cs : List Kid} (h : KidRow w A n cs) (hb : Below w.heap.size w w') : KidRow w' A n cs :=
  ⟨(h.row.below hb).more hb.size, h.len, h.fit, fun x hx => isCur_on (h.cur x hx) hb, h.apart⟩
theorem BI.on {ws w w' : World} {A : Option Addr} {N : Nat} {cs : List Kid} {B : Option Addr} {ss : List IS} (h : BI ws w A N cs B ss) (hb : Below w.heap.size w w') : BI ws w' A N cs B ss :=
  ⟨h.kids.on hb, h.lists.on hb, h.same, h.new, h.off, h.below.trans (hb.mono h.below.size)⟩
theorem BI.len {ws w : World} {A : Option Addr} {N : Nat} {cs : List Kid} {B : Option Addr} {ss : List IS} (h : BI ws w A N cs B ss) : (cs.map Kid.E).length = N := by rw [List.length_map]; exact h.kids.len
/-- the address of a tail -/
def offA (A : Option Addr) (i : Nat) : Option Addr := A.map (fun a => (⟨a.block, a.off + i * 1, a.spot⟩ : Addr))
theorem KidRow.tail {w : World} {A : Option Addr} {N : Nat} {cs : List Kid} (h : KidRow w A N cs) {i : Nat} (hi : i ≤ N) : KidRow w (offA A i) (N - i) (cs.drop i) := by
  have hl := h.len
  have hc := h.row.cut (i := i) (k := N) hi (Nat.le_refl _)
  refine ⟨?_, by rw [List.length_drop]; omega, by have := h.fit; omega, fun x hx => h.cur x (List.mem_of_mem_drop hx), h.apart.sublist (List.drop_sublist i cs)⟩
  have e : (cs.drop i).map Kid.p = ((cs.map Kid.p).drop (i * 1)).take ((N - i) * 1) := by
    rw [Nat.mul_one, Nat.mul_one, ← List.map_drop, List.take_of_length_le (by simp; omega)]
  rw [e]; exact hc
theorem KidRow.none {w : World} {A : Option Addr} : KidRow w A 0 [] := ⟨⟨rfl, fun h => absurd h (by omega)⟩, rfl, by decide, by simp, List.Pairwise.nil⟩
theorem LLF.tail {w : World} {A : Option Addr} {N : Nat} {ss : List IS} (h : LLF w A N ss) {i : Nat} (hi : i ≤ N) : LLF w (offA A i) (N - i) (ss.drop i) := by
  have hl := h.len
  have hc := h.row.cut (i := i) (k := N) hi (Nat.le_refl _)
  refine ⟨?_, by rw [List.length_drop]; omega, by have := h.fit; omega, fun x hx => h.each x (List.mem_of_mem_drop hx)⟩
  have e : (ss.drop i).map IS.val = ((ss.map IS.val).drop (i * 1)).take ((N - i) * 1) := by
    rw [Nat.mul_one, Nat.mul_one, ← List.map_drop, List.take_of_length_le (by simp; omega)]
  rw [e]; exact hc
theorem LLF.none {w : World} {A : Option Addr} : LLF w A 0 [] := ⟨⟨rfl, fun h => absurd h (by omega)⟩, rfl, by decide, by simp⟩
/-- the first ones of a row -/
theorem Row.first {w : World} {B n : Nat} {A : Option Addr} {xs : List Value} (h : Row w B 1 A n xs) {k : Nat} (hk : k ≤ n) : Row w B 1 A k (xs.take k) := by
  have hl := h.len
  refine ⟨by rw [List.length_take]; omega, fun hn => ?_⟩
  obtain ⟨g, o, e, hb, hc⟩ := h.at_ (by omega)
  exact ⟨g, o, e, hb, fun j hj => by rw [hc j (by omega), List.getElem?_take_of_lt (by omega)]⟩

/-- the new cursor p and the new list s stand where those that it took stood -/
theorem BI.push {ws w w2 : World} {A : Option Addr} {N : Nat} {cs : List Kid} {B : Option Addr} {ss : List IS} (h : BI ws w A N cs B ss) {j : Nat} (hj : j ≤ N) {x : Kid} {s : IS}
    {A1 B1 : Option Addr} (hb : Below w.heap.size w w2)
    (hr1 : Row w2 w2.heap.size 1 A1 (j + 1) ((cs.map Kid.p).take j ++ [x.p])) (hr2 : Row w2 w2.heap.size 1 B1 (j + 1) ((ss.map IS.val).take j ++ [s.val]))
    (hfit : (j + 1) * 24 ≤ 140737488351232) (hx : IsCur w2 x.p x.E x.F) (hxF : ∀ k, x.F k → w.heap.size ≤ k ∨ gOf (cs.drop j) k) (hs : IntF w2 s.A s.n s.l) (hsc : s.n ≤ s.c) (hsl : s.l = x.E)
    (hso : ∀ k, 0 < s.n → blockOf s.A k → w.heap.size ≤ k ∧ ¬ x.F k) : BI ws w2 A1 (j + 1) (cs.take j ++ [x]) B1 (ss.take j ++ [s]) := by
  have hcl := h.kids.len
  have hold : ∀ y ∈ cs, ∀ k, y.F k → k < w.heap.size := fun y hy => isCur_old _ _ _ _ (h.kids.cur y hy)
  have hap := h.kids.apart
  rw [← List.take_append_drop j cs] at hap
  obtain ⟨p1, p2, p3⟩ := List.pairwise_append.1 hap
  have hsO : ∀ t ∈ ss, ∀ k, 0 < t.n → blockOf t.A k → k < w.heap.size := fun t ht k hn ⟨o, e⟩ => by
    obtain ⟨g, o', e', hb', _⟩ := (h.lists.each t ht).1.row.at_ hn
    rw [e] at e'
    simp only [Option.some.injEq, Addr.mk.injEq] at e'
    omega
  refine ⟨⟨by rw [List.map_append, List.map_take]; exact hr1, by rw [List.length_append, List.length_take]; simp; omega, by omega, ?_, ?_⟩, ⟨by rw [List.map_append, List.map_take]; exact hr2, by rw [List.length_append, List.length_take]; have := h.lists.len; simp; omega, hfit, ?_⟩, ?_, ?_, ?_, h.below.trans (hb.mono h.below.size)⟩
  · intro y hy
    rcases List.mem_append.1 hy with hy | hy
    · exact isCur_on (h.kids.cur y (List.mem_of_mem_take hy)) hb
    · rw [List.mem_singleton.1 hy]; exact hx
  · rw [List.pairwise_append]
    refine ⟨p1, List.pairwise_singleton _ _, fun a ha b hbb k ⟨ka, kb⟩ => ?_⟩
    rw [List.mem_singleton.1 hbb] at kb
    rcases hxF k kb with h1 | ⟨z, hz, hzk⟩
    · have := hold a (List.mem_of_mem_take ha) k ka; omega
    · exact p3 a ha z hz k ⟨ka, hzk⟩
  · intro t ht
    rcases List.mem_append.1 ht with ht | ht
    · have := h.lists.each t (List.mem_of_mem_take ht)
      exact ⟨this.1.on hb, this.2⟩
    · rw [List.mem_singleton.1 ht]; exact ⟨hs, hsc⟩
  · rw [List.map_append, List.map_append, List.map_take, List.map_take, h.same]; simp [hsl]
  · intro y hy k hk
    rcases List.mem_append.1 hy with hy | hy
    · exact h.new y (List.mem_of_mem_take hy) k hk
    · rw [List.mem_singleton.1 hy] at hk
      rcases hxF k hk with h1 | ⟨z, hz, hzk⟩
      · have := h.below.size; omega
      · exact h.new z (List.mem_of_mem_drop hz) k hzk
  · intro y hy t ht k hk ⟨hn, hbk⟩
    rcases List.mem_append.1 ht with ht | ht
    · have hto := hsO t (List.mem_of_mem_take ht) k hn hbk
      rcases List.mem_append.1 hy with hy | hy
      · exact h.off y (List.mem_of_mem_take hy) t (List.mem_of_mem_take ht) k hk ⟨hn, hbk⟩
      · rw [List.mem_singleton.1 hy] at hk
        rcases hxF k hk with h1 | ⟨z, hz, hzk⟩
        · omega
        · exact h.off z (List.mem_of_mem_drop hz) t (List.mem_of_mem_take ht) k hzk ⟨hn, hbk⟩
    · rw [List.mem_singleton.1 ht] at hn hbk
      have h2 := hso k hn hbk
      rcases List.mem_append.1 hy with hy | hy
      · have := hold y (List.mem_of_mem_take hy) k hk; omega
      · rw [List.mem_singleton.1 hy] at hk
        exact h2.2 hk
/-- a new cursor among others, its list given -/
def NewIs (w : World) (G : Nat → Prop) (E : List Int) (e : Ending) (w' : World) : Prop := ∃ a F, e = .returned (.pointer a) ∧ IsCur w' (.pointer a) E F ∧ (∀ k, F k → w.heap.size ≤ k ∨ G k) ∧ Below w.heap.size w w'
theorem newIs_of {w w' : World} {G : Nat → Prop} {Q : List Int → Prop} {e : Ending} {E : List Int} (h : NewCur w G Q e w') (hE : rising E) (hm : ∀ D, Q D → ∀ x, x ∈ D ↔ x ∈ E) : NewIs w G E e w' := by
  obtain ⟨p, D, F, rfl, h1, h2, h3, h4⟩ := h
  obtain rfl : D = E := rising_ext (isCur_rise _ _ _ _ h1).1 hE (hm D h2)
  obtain ⟨a, rfl⟩ := isCur_ptr h1
  exact ⟨a, F, rfl, h1, h3, h4⟩
/-- a new list -/
def NewL (w : World) (E : List Int) (e : Ending) (w' : World) : Prop := ∃ A c, e = .returned (.slice A E.length c) ∧ E.length ≤ c ∧ IntF w' A E.length E ∧ (∀ k, 0 < E.length → blockOf A k → w.heap.size ≤ k) ∧ Below w.heap.size w w'
theorem newL_of {w w' : World} {v : Value} {E : List Int} (h : w'.ownsRow w.heap.size 3 1 v E.length (E.map (Value.int .i64))) (hb : Below w.heap.size w w') (hI : ∀ x ∈ E, inI x) (hl : E.length ≤ 1048576) : NewL w E (.returned v) w' := by
  obtain ⟨A, c, rfl, hc, hr⟩ := own_shape h
  exact ⟨A, c, rfl, hc, ⟨hr, rfl, by omega, hI⟩, fun k _ ⟨o, e⟩ => by
    subst e
    exact (h.lt k rfl).1, hb⟩
section
variable {ws w : World} {A B : Option Addr} {N : Nat} {cs : List Kid} {ss : List IS} (h : BI ws w A N cs B ss) (ht : totL (ss.map IS.l) ≤ 1048576) {j : Nat} (hj : j ≤ N)
include h
theorem BI.rise : ∀ l ∈ ss.map IS.l, rising l ∧ ∀ x ∈ l, inI x := fun l hl => by
  rw [← h.same] at hl
  obtain ⟨x, hx, rfl⟩ := List.mem_map.1 hl
  exact isCur_rise _ _ _ _ (h.kids.cur x hx)
include hj
theorem BI.kidTail {A' : Option Addr} (hA : A' = offA A j ∨ N - j = 0) : KidRow w A' (N - j) (cs.drop j) := by
  rcases hA with rfl | h0
  · exact h.kids.tail hj
  · have e : cs.drop j = [] := List.eq_nil_of_length_eq_zero (by rw [List.length_drop, h.kids.len]; exact h0)
    rw [h0, e]; exact KidRow.none
theorem BI.listTail {A' : Option Addr} (hA : A' = offA B j ∨ N - j = 0) : LLF w A' (N - j) (ss.drop j) := by
  rcases hA with rfl | h0
  · exact h.lists.tail hj
  · have e : ss.drop j = [] := List.eq_nil_of_length_eq_zero (by rw [List.length_drop, h.lists.len]; exact h0)
    rw [h0, e]; exact LLF.none
theorem andB {A' : Option Addr} (hA : A' = offA A j ∨ N - j = 0) (c : Nat) : Calls Try.prog 48 #[.slice A' (N - j) c] w (NewIs w (gOf (cs.drop j)) (andE ((ss.map IS.l).drop j))) := by
  refine (and_any A' (N - j) c _ w (h.kidTail hj hA)).mono fun e w' k => newIs_of k (andE_spec _).1 fun D hD x => ?_
  rw [hD x, (andE_spec _).2 x, ← h.same, ← List.map_drop]
  refine and_congr (by simp) ⟨fun g l hl => ?_, fun g y hy => g _ (List.mem_map_of_mem hy)⟩
  obtain ⟨y, hy, rfl⟩ := List.mem_map.1 hl
  exact g y hy
theorem orB {A' : Option Addr} (hA : A' = offA A j ∨ N - j = 0) (c : Nat) : Calls Try.prog 50 #[.slice A' (N - j) c] w (NewIs w (gOf (cs.drop j)) (riseOf ((ss.map IS.l).drop j).flatten)) := by
  refine (or_any A' (N - j) c _ w (h.kidTail hj hA)).mono fun e w' k => newIs_of k (riseOf_spec _).1 fun D hD x => ?_
  rw [hD x, (riseOf_spec _).2 x, ← h.same, ← List.map_drop, List.mem_flatten]
  constructor
  · rintro ⟨y, hy, hx⟩; exact ⟨_, List.mem_map_of_mem hy, hx⟩
  · rintro ⟨l, hl, hx⟩
    obtain ⟨y, hy, rfl⟩ := List.mem_map.1 hl
    exact ⟨y, hy, hx⟩
include ht
theorem rAndB {A' : Option Addr} (hA : A' = offA B j ∨ N - j = 0) (c : Nat) : Calls Try.prog 78 #[.slice A' (N - j) c] w (NewL w (andE ((ss.map IS.l).drop j))) := by
  refine (rAnd13_any A' (N - j) c _ w (h.listTail hj hA)).mono ?_
  rintro e w' ⟨v, rfl, ho, hb⟩
  have hrs := h.rise
  have e1 : andLs (ss.drop j) = andE ((ss.map IS.l).drop j) := by
    rw [← List.map_drop]
    have hrd : ∀ s ∈ ss.drop j, rising s.l := fun s hs => (hrs s.l (List.mem_map_of_mem (List.mem_of_mem_drop hs))).1
    generalize ss.drop j = r at hrd
    cases r with
    | nil => rfl
    | cons s r =>
      refine rising_ext (List.Pairwise.filter _ (hrd s (by simp))) (andE_spec _).1 fun x => ?_
      rw [andLs, List.mem_filter, (andE_spec _).2 x, inAll, List.all_eq_true]
      constructor
      · rintro ⟨h1, h2⟩
        refine ⟨by simp, fun l hl => ?_⟩
        obtain ⟨y, hy, rfl⟩ := List.mem_map.1 hl
        rcases List.mem_cons.1 hy with rfl | hy
        · exact h1
        · simpa using h2 y hy
      · rintro ⟨_, h2⟩
        exact ⟨h2 s.l (by simp), fun y hy => by simpa using h2 y.l (List.mem_map_of_mem (List.mem_cons_of_mem _ hy))⟩
  rw [e1] at ho
  refine newL_of ho hb (fun x hx => ?_) ?_
  · obtain ⟨hne, hall⟩ := ((andE_spec _).2 x).1 hx
    obtain ⟨z, hz⟩ := List.exists_mem_of_ne_nil _ hne
    exact (hrs z (List.mem_of_mem_drop hz)).2 x (hall z hz)
  · have h1 := andE_le ((ss.map IS.l).drop j)
    have h2 := totL_cut (ss.map IS.l) j
    omega
theorem rOrB {A' : Option Addr} (hA : A' = offA B j ∨ N - j = 0) (c : Nat) : Calls Try.prog 79 #[.slice A' (N - j) c] w (NewL w (riseOf ((ss.map IS.l).drop j).flatten)) := by
  have h2 := totL_cut (ss.map IS.l) j
  have hsum : sumN (ss.drop j) = totL ((ss.map IS.l).drop j) := by
    rw [← List.map_drop, sumN, totL, List.map_map]; rfl
  refine (rOr13_any A' (N - j) c _ w (h.listTail hj hA) (by omega)).mono ?_
  rintro e w' ⟨E, v, rfl, hE, hm, ho, hb⟩
  obtain rfl : E = riseOf ((ss.map IS.l).drop j).flatten := riseOf_uniq hE fun x => by
    rw [hm x, ← List.map_drop, List.mem_flatten]
    constructor
    · rintro ⟨y, hy, hx⟩; exact ⟨_, List.mem_map_of_mem hy, hx⟩
    · rintro ⟨l, hl, hx⟩
      obtain ⟨y, hy, rfl⟩ := List.mem_map.1 hl
      exact ⟨y, hy, hx⟩
  refine newL_of ho hb (fun x hx => ?_) ?_
  · obtain ⟨l, hl, hxl⟩ := List.mem_flatten.1 (((riseOf_spec _).2 x).1 hx)
    exact (h.rise l (List.mem_of_mem_drop hl)).2 x hxl
  · have h1 := riseOf_le ((ss.map IS.l).drop j).flatten
    rw [totL_flat] at h1
    omega
end

section
variable {ws w : World} {A B : Option Addr} {N : Nat} {cs : List Kid} {ss : List IS} (h : BI ws w A N cs B ss)
include h
/-- the last two of a stack -/
theorem BI.two {M : Nat} (hN : N = M + 2) : ∃ x y s t, cs.drop M = [x, y] ∧ ss.drop M = [s, t] ∧ (ss.map IS.l).getD M [] = s.l ∧ (ss.map IS.l).getD (M + 1) [] = t.l ∧ x.E = s.l ∧ y.E = t.l ∧ IsCur w x.p x.E x.F ∧ IsCur w y.p y.E y.F ∧ (∀ k, ¬ (x.F k ∧ y.F k)) ∧ IntF w s.A s.n s.l ∧ IntF w t.A t.n t.l ∧
    (∃ g o, A = some ⟨g, o, none⟩ ∧ w.cell? ⟨g, o + M, none⟩ = some x.p ∧ w.cell? ⟨g, o + (M + 1), none⟩ = some y.p) ∧ ∃ g o, B = some ⟨g, o, none⟩ ∧ w.cell? ⟨g, o + M, none⟩ = some s.val ∧ w.cell? ⟨g, o + (M + 1), none⟩ = some t.val := by
  have hcl := h.kids.len
  have hsl := h.lists.len
  have get2 : ∀ {α : Type} (l : List α), l.length = M + 2 → ∃ x y, l.drop M = [x, y] ∧ l[M]? = some x ∧ l[M + 1]? = some y := fun l hl => by
    refine ⟨l[M]'(by omega), l[M + 1]'(by omega), ?_, List.getElem?_eq_getElem _, List.getElem?_eq_getElem _⟩
    rw [List.drop_eq_getElem_cons (by omega), List.drop_eq_getElem_cons (by omega), List.drop_eq_nil_of_le (by omega)]
  obtain ⟨x, y, e1, x1, y1⟩ := get2 cs (by omega)
  obtain ⟨s, t, e2, s1, t1⟩ := get2 ss (by omega)
  have xs : ∀ {i : Nat} {x : Kid} {s : IS}, cs[i]? = some x → ss[i]? = some s → x.E = s.l := fun {i x s} hx hs => by
    have := congrArg (fun l => l[i]?) h.same
    simpa [List.getElem?_map, hx, hs] using this
  have hap := h.kids.apart.sublist (List.drop_sublist M cs)
  rw [e1] at hap
  obtain ⟨g, o, hA, _, hc⟩ := h.kids.row.at_ (by omega)
  obtain ⟨g2, o2, hB, _, hd⟩ := h.lists.row.at_ (by omega)
  refine ⟨x, y, s, t, e1, e2, by simp [List.getD, s1], by simp [List.getD, t1], xs x1 s1, xs y1 t1, h.kids.cur x (List.mem_of_getElem? x1), h.kids.cur y (List.mem_of_getElem? y1), by simpa using hap, (h.lists.each s (List.mem_of_getElem? s1)).1, (h.lists.each t (List.mem_of_getElem? t1)).1, ⟨g, o, hA, ?_, ?_⟩, ⟨g2, o2, hB, ?_, ?_⟩⟩
  · rw [hc M (by omega), List.getElem?_map, x1]; rfl
  · rw [hc (M + 1) (by omega), List.getElem?_map, y1]; rfl
  · rw [hd M (by omega), List.getElem?_map, s1]; rfl
  · rw [hd (M + 1) (by omega), List.getElem?_map, t1]; rfl
end
/-- the last one of a stack -/
theorem BI.top {ws w : World} {A B : Option Addr} {N : Nat} {cs : List Kid} {ss : List IS} (h : BI ws w A N cs B ss) {M : Nat} (hN : N = M + 1) : ∃ (x : Kid) (L : Option Addr) (c : Nat), (ss.map IS.l).getLastD [] = x.E ∧ FC ws w x.p x.E x.F ∧ x.E.length ≤ c ∧ IntF w L x.E.length x.E ∧ (∀ k, x.F k → ¬ (0 < x.E.length ∧ blockOf L k)) ∧
    (∃ g o, A = some ⟨g, o, none⟩ ∧ w.cell? ⟨g, o + M, none⟩ = some x.p) ∧ ∃ g o, B = some ⟨g, o, none⟩ ∧ w.cell? ⟨g, o + M, none⟩ = some (.slice L x.E.length c) := by
  have hcl := h.kids.len
  have hsl := h.lists.len
  have x1 : cs[M]? = some (cs[M]'(by omega)) := List.getElem?_eq_getElem _
  have s1 : ss[M]? = some (ss[M]'(by omega)) := List.getElem?_eq_getElem _
  generalize cs[M]'(by omega) = x at x1
  generalize ss[M]'(by omega) = s at s1
  have hxm := List.mem_of_getElem? x1
  have hsm := List.mem_of_getElem? s1
  have hxs : x.E = s.l := by
    have := congrArg (fun l => l[M]?) h.same
    simpa [List.getElem?_map, x1, s1] using this
  have hlast : (ss.map IS.l).getLastD [] = x.E := by
    rw [hxs, List.getLastD_eq_getLast?, List.getLast?_eq_getElem?, List.length_map, hsl, hN, Nat.add_sub_cancel, List.getElem?_map, s1]; rfl
  obtain ⟨g, o, hA, _, hc⟩ := h.kids.row.at_ (by omega)
  obtain ⟨g2, o2, hB, _, hd⟩ := h.lists.row.at_ (by omega)
  have hI := h.lists.each s hsm
  have hof := h.off x hxm s hsm
  have hdM := hd M (by omega)
  rw [List.getElem?_map, s1] at hdM
  obtain ⟨sA, sn, sc, sl⟩ := s
  obtain ⟨hI1, hI2⟩ := hI
  have hln := hI1.len
  simp only at hxs hI1 hI2 hof hln
  subst hxs
  subst hln
  refine ⟨x, sA, sc, hlast, ⟨h.kids.cur x hxm, h.new x hxm, h.below⟩, hI2, hI1, hof, ⟨g, o, hA, ?_⟩, ⟨g2, o2, hB, hdM⟩⟩
  rw [hc M (by omega), List.getElem?_map, x1]; rfl
theorem woB {w : World} {x y : Kid} (hx : IsCur w x.p x.E x.F) (hy : IsCur w y.p y.E y.F) (hd : ∀ k, ¬ (x.F k ∧ y.F k)) : Calls Try.prog 49 #[x.p, y.p] w (NewIs w (gOf [x, y]) (woE x.E y.E)) := by
  refine (without_any x y w hx hy hd).mono fun e w' k => ?_
  obtain ⟨p, E, F, h1, h2, h3, h4, h5⟩ := k
  exact newIs_of (Q := fun E => ∀ z, z ∈ E ↔ z ∈ x.E ∧ ¬ z ∈ y.E) ⟨p, E, F, h1, h2, h3, fun k hk => (h4 k hk).imp id fun h => by
    rcases h with h | h
    · exact ⟨x, by simp, h⟩
    · exact ⟨y, by simp, h⟩, h5⟩ (woE_spec _ _).1 fun D hD z => by rw [hD z, (woE_spec _ _).2 z]
theorem rWoB {w : World} {s t : IS} (hs : IntF w s.A s.n s.l) (ht : IntF w t.A t.n t.l) (hr : rising s.l) (hl : s.l.length ≤ 1048576) : Calls Try.prog 80 #[s.val, t.val] w (NewL w (woE s.l t.l)) := by
  refine (rWithout13_any s.A s.n s.c s.l t.A t.n t.c t.l w hs ht).mono ?_
  rintro e w' ⟨v, rfl, ho, hb⟩
  have e1 : (s.l.filter fun x => decide (x ∉ t.l)) = woE s.l t.l := rising_ext (List.Pairwise.filter _ hr) (woE_spec _ _).1 fun x => by
    rw [List.mem_filter, (woE_spec _ _).2 x]; simp
  rw [e1] at ho
  refine newL_of ho hb (fun x hx => hs.ints x (((woE_spec _ _).2 x).1 hx).1) ?_
  have := woE_le s.l t.l
  omega
theorem ofB {w : World} {A : Option Addr} {n c : Nat} {l : List Int} (h : IntF w A n l) : Calls Try.prog 46 #[.slice A n c] w (NewIs w (fun _ => False) (riseOf l)) := by
  refine (of_any A n c l w h.row h.fit h.ints).mono fun e w' k => newIs_of k (riseOf_spec _).1 fun D hD z => by rw [hD.1 z, (riseOf_spec _).2 z]
theorem rOfB {w : World} {A : Option Addr} {n c : Nat} {l : List Int} (h : IntF w A n l) (hl : l.length ≤ 1048576) : Calls Try.prog 51 #[.slice A n c] w (NewL w (riseOf l)) := by
  refine (rOf13_any A n c l w h).mono ?_
  rintro e w' ⟨E, v, rfl, hE, hm, ho, hb⟩
  obtain rfl : E = riseOf l := riseOf_uniq hE hm
  refine newL_of ho hb (fun x hx => h.ints x (((riseOf_spec _).2 x).1 hx)) ?_
  have := riseOf_le l
  omega

/-- nodes that came in -/
structure NdF (w : World) (A : Option Addr) (m : Nat) (l : List Nd) : Prop where
  row : Row w w.heap.size 3 A m (l.flatMap Nd.cells)
  len : l.length = m
  each : ∀ x ∈ l, IntF w x.s.A x.s.n x.s.l ∧ x.s.n ≤ x.s.c ∧ inI x.kind ∧ inI x.take
  few : m ≤ 1048576 ∧ ndSum l ≤ 1048576
theorem NdF.on {w w' : World} {A : Option Addr} {m : Nat} {l : List Nd} (h : NdF w A m l) (hb : Below w.heap.size w w') : NdF w' A m l :=
  ⟨(h.row.below hb).more hb.size, h.len, fun x hx => ⟨(h.each x hx).1.on hb, (h.each x hx).2⟩, h.few⟩
theorem flat3 : ∀ {l : List Nd} {k : Nat} {x : Nd}, l[k]? = some x → ∀ i, i < 3 → (l.flatMap Nd.cells)[k * 3 + i]? = x.cells[i]?
  | y :: l, 0, x, h, i, hi => by
    simp only [List.getElem?_cons_zero, Option.some.injEq] at h
    subst h
    rw [Nat.zero_mul, Nat.zero_add, List.flatMap_cons, List.getElem?_append_left (by simpa [Nd.cells] using hi)]
  | y :: l, k + 1, x, h, i, hi => by
    rw [List.getElem?_cons_succ] at h
    have := flat3 h i hi
    rw [List.flatMap_cons, List.getElem?_append_right (by simp [Nd.cells]; omega), show (k + 1) * 3 + i - (Nd.cells y).length = k * 3 + i by simp [Nd.cells]; omega]
    exact this
theorem nd_cells {w : World} {A : Option Addr} {m : Nat} {l : List Nd} (h : NdF w A m l) {k : Nat} (hk : k < m) : ∃ g o x, A = some ⟨g, o, none⟩ ∧ g < w.heap.size ∧ l[k]? = some x ∧ w.cell? ⟨g, o + k * 3, none⟩ = some (.int .i64 x.kind) ∧ w.cell? ⟨g, o + k * 3 + 1, none⟩ = some (.int .i64 x.take) ∧ w.cell? ⟨g, o + k * 3 + 2, none⟩ = some (.slice x.s.A x.s.n x.s.c) ∧ x ∈ l := by
  obtain ⟨g, o, rfl, hg, hc⟩ := h.row.at_ (by omega)
  have hs : l[k]? = some (l[k]'(by have := h.len; omega)) := List.getElem?_eq_getElem _
  have e := flat3 hs
  refine ⟨g, o, _, rfl, hg, hs, ?_, ?_, ?_, List.mem_of_getElem? hs⟩
  · rw [show o + k * 3 = o + (k * 3 + 0) by omega, hc _ (by omega), e 0 (by omega)]; rfl
  · rw [show o + k * 3 + 1 = o + (k * 3 + 1) by omega, hc _ (by omega), e 1 (by omega)]; rfl
  · rw [show o + k * 3 + 2 = o + (k * 3 + 2) by omega, hc _ (by omega), e 2 (by omega)]; rfl
end Go.Proofs.Ytjklonfheenfbaa
