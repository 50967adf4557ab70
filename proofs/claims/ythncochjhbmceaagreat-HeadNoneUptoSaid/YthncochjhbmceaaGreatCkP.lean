/- Lists of series as a checkpoint has them, as they lie; and what is left of them when they are written into. No program is walked here. -/
import Derived.Test.YthncochjhbmceaaGreatHedRawP
namespace Go.Proofs.YthncochjhbmceaaGreat
set_option maxRecDepth 100000
open Go.RowKit

/-- a series of a list, as it lies -/
structure CkR where
  lab : Sl Lbl
  mx : Int
  smp : Sl Smp
def CkR.cells (x : CkR) : List Value := [x.lab.val, .int .i64 x.mx, .slice none 0 0, .slice none 0 0, .slice none 0 0, x.smp.val]
def CkR.q (x : CkR) : List Lbl × Int × List Smp := (x.lab.l, x.mx, x.smp.l)
/-- a list of series of the call's own: of these types are a series, its labels, its samples -/
structure CkO (tT tL tS : TypeId) (w : World) (base : Nat) (v : Value) (L : List CkR) : Prop where
  row : w.ownsRow base tT 6 v L.length (L.flatMap CkR.cells)
  lab : ∀ x ∈ L, w.ownsRow base tL 2 x.lab.val x.lab.n (x.lab.l.flatMap Lbl.cells) ∧ x.lab.l.length = x.lab.n
  smp : ∀ x ∈ L, (0 < x.smp.n → w.ownsRow base tS 2 x.smp.val x.smp.n (x.smp.l.flatMap Smp.cells)) ∧ x.smp.l.length = x.smp.n
/-- blocks from B on are as they were -/
structure Abv (B : Nat) (w w' : World) : Prop where
  size : w.heap.size ≤ w'.heap.size
  block : ∀ g, B ≤ g → g < w.heap.size → w'.heap[g]? = w.heap[g]?
theorem Abv.refl (B : Nat) (w : World) : Abv B w w := ⟨Nat.le_refl _, fun _ _ _ => rfl⟩
theorem Abv.trans {B : Nat} {a b c : World} (h : Abv B a b) (k : Abv B b c) : Abv B a c :=
  ⟨Nat.le_trans h.size k.size, fun g hg hs => (k.block g hg (Nat.lt_of_lt_of_le hs h.size)).trans (h.block g hg hs)⟩
theorem Abv.of_below {B : Nat} {a b : World} (h : Below a.heap.size a b) : Abv B a b := ⟨h.size, fun g _ hs => h.block g hs⟩
theorem Abv.put {B q : Nat} {a b : World} (h : Abv B a b) (hq : q < B) (i : Nat) (u : Value) : Abv B a (b.setCell ⟨q, i, none⟩ u) :=
  ⟨by rw [World.size_setCell]; exact h.size, fun g hg hs => (Below.heap_setCell b ⟨q, i, none⟩ u g (by show g ≠ q; omega)).trans (h.block g hg hs)⟩
theorem Abv.own {B base n size : Nat} {w w' : World} {T : TypeId} {v : Value} {xs : List Value} (h : Abv B w w') (ho : w.ownsRow base T size v n xs) (hB : B ≤ base) : w'.ownsRow base T size v n xs := by
  refine ⟨ho.1, ho.2.imp id ?_⟩
  rintro ⟨g, cap, cur, h1, h2, h3, h4⟩
  exact ⟨g, cap, cur, h1, h2, (h.block g (by omega) (Array.getElem?_eq_some_iff.1 h3).1).trans h3, h4⟩
section
variable {tT tL tS : TypeId} {w w' : World} {base b : Nat} {v : Value} {L : List CkR} {ts : List TypeId} {mp : Bool}
theorem CkO.turn (h : CkO tT tL tS w base v L) (k : Turn b ts mp w w') (h1 : tT ∉ ts) (h2 : tL ∉ ts) (h3 : tS ∉ ts) : CkO tT tL tS w' base v L :=
  ⟨k.own h.row (.inl h1), fun x hx => ⟨k.own (h.lab x hx).1 (.inl h2), (h.lab x hx).2⟩, fun x hx => ⟨fun hn => k.own ((h.smp x hx).1 hn) (.inl h3), (h.smp x hx).2⟩⟩
theorem CkO.below (h : CkO tT tL tS w base v L) (hb : Below w.heap.size w w') : CkO tT tL tS w' base v L := h.turn (Turn.of_below hb 0 [] false) (by simp) (by simp) (by simp)
theorem CkO.abv {B : Nat} (h : CkO tT tL tS w base v L) (k : Abv B w w') (hB : B ≤ base) : CkO tT tL tS w' base v L :=
  ⟨k.own h.row hB, fun x hx => ⟨k.own (h.lab x hx).1 hB, (h.lab x hx).2⟩, fun x hx => ⟨fun hn => k.own ((h.smp x hx).1 hn) hB, (h.smp x hx).2⟩⟩
theorem CkO.nil : CkO tT tL tS w base (.slice none 0 0) [] := ⟨World.ownsRow_nil _ _ _ _, by simp, by simp⟩
theorem CkO.snoc {v' : Value} {x : CkR} (h : CkO tT tL tS w base v L) (hl : w.ownsRow base tL 2 x.lab.val x.lab.n (x.lab.l.flatMap Lbl.cells) ∧ x.lab.l.length = x.lab.n) (hs : (0 < x.smp.n → w.ownsRow base tS 2 x.smp.val x.smp.n (x.smp.l.flatMap Smp.cells)) ∧ x.smp.l.length = x.smp.n)
    (hown : w'.ownsRow base tT 6 v' (L.length + 1) (L.flatMap CkR.cells ++ x.cells)) (hg : w.grownBy w' v.ownBlock) (h1 : tL ≠ tT) (h2 : tS ≠ tT) : CkO tT tL tS w' base v' (L ++ [x]) := by
  have k : Turn base [tT] false w w' := Turn.of_own h.row (Nat.le_refl _) (by simp) hg
  have h1' : tL ∉ [tT] := by simpa using h1
  have h2' : tS ∉ [tT] := by simpa using h2
  refine ⟨by simpa using hown, fun y hy => ?_, fun y hy => ?_⟩
  · rcases List.mem_append.1 hy with hy | hy
    · exact ⟨k.own (h.lab y hy).1 (.inl h1'), (h.lab y hy).2⟩
    · rw [List.mem_singleton.1 hy]; exact ⟨k.own hl.1 (.inl h1'), hl.2⟩
  · rcases List.mem_append.1 hy with hy | hy
    · exact ⟨fun hn => k.own ((h.smp y hy).1 hn) (.inl h2'), (h.smp y hy).2⟩
    · rw [List.mem_singleton.1 hy]; exact ⟨fun hn => k.own (hs.1 hn) (.inl h2'), hs.2⟩
end
/-! written into -/
/-- a row that may be written into, between lo and hi, but not in block ga -/
def WrT (w : World) (A : Option Addr) (n k lo hi ga : Nat) : Prop := 0 < n → ∃ (g : Nat) (t : TypeId) (cs : Array Value), A = some ⟨g, 0, none⟩ ∧ Whole1 w g t cs ∧ n * k ≤ cs.size ∧ lo ≤ g ∧ g < hi ∧ g ≠ ga
theorem WrT.put {w : World} {A : Option Addr} {n k lo hi ga : Nat} (h : WrT w A n k lo hi ga) (q i : Nat) (u : Value) : WrT (w.setCell ⟨q, i, none⟩ u) A n k lo hi ga := fun hn => by
  obtain ⟨g, t, cs, h1, h2, h3, h4⟩ := h hn
  by_cases hq : g = q
  · subst hq
    exact ⟨g, t, _, h1, h2.put i u, by simpa using h3, h4⟩
  · exact ⟨g, t, cs, h1, h2.off hq u, h3, h4⟩
theorem WrT.below {w w' : World} {A : Option Addr} {n k lo hi ga : Nat} (h : WrT w A n k lo hi ga) (hb : Below hi w w') : WrT w' A n k lo hi ga := fun hn => by
  obtain ⟨g, t, cs, h1, h2, h3, h4, h5, h6⟩ := h hn
  exact ⟨g, t, cs, h1, h2.below hb h5, h3, h4, h5, h6⟩
theorem WrT.of_own {w : World} {base size n hi ga : Nat} {e t : TypeId} {v : Value} {A : Option Addr} {c : Nat} {xs : List Value} {cs : Array Value} (h : w.ownsRow base e size v n xs) (hv : v = .slice A n c) (hi' : w.heap.size ≤ hi) (hga : Whole1 w ga t cs) (ht : e ≠ t) : WrT w A n size base hi ga := fun hn => by
  obtain ⟨hl, h2⟩ := h
  rcases h2 with ⟨_, h0⟩ | ⟨g, cap, cur, hv', hb, hg, hnc, _, hs, _⟩
  · omega
  · rw [hv] at hv'
    injection hv' with h1 _ _
    subst h1
    refine ⟨g, e, cur, rfl, hg, ?_, hb, ?_, fun e' => ?_⟩
    · rw [hs]; exact Nat.mul_le_mul_right _ hnc
    · have := (Array.getElem?_eq_some_iff.1 hg).1
      omega
    · subst e'
      have : w.heap[g]? = some (.cells cs t (0, 0)) := hga
      rw [hg] at this
      injection this with this
      injection this with _ this _
      exact ht this
/-- a list of series that is written into -/
structure CkM (lo hi gA : Nat) (w : World) (A : Option Addr) (n : Nat) (L : List CkR) : Prop where
  len : L.length = n
  row : 0 < n → ∃ (t : TypeId) (cs : Array Value), A = some ⟨gA, 0, none⟩ ∧ Whole1 w gA t cs ∧ n * 6 ≤ cs.size ∧ lo ≤ gA ∧ gA < hi ∧ ∀ i x, L[i]? = some x → cs[i * 6]? = some x.lab.val ∧ cs[i * 6 + 5]? = some x.smp.val
  lab : ∀ x ∈ L, WrT w x.lab.A x.lab.n 2 lo hi gA
  smp : ∀ x ∈ L, WrT w x.smp.A x.smp.n 2 lo hi gA
theorem CkM.below {lo hi gA n : Nat} {w w' : World} {A : Option Addr} {L : List CkR} (h : CkM lo hi gA w A n L) (hb : Below hi w w') : CkM lo hi gA w' A n L :=
  ⟨h.len, fun hn => by
    obtain ⟨t, cs, h1, h2, h3, h4, h5, h6⟩ := h.row hn
    exact ⟨t, cs, h1, h2.below hb h5, h3, h4, h5, h6⟩, fun x hx => (h.lab x hx).below hb, fun x hx => (h.smp x hx).below hb⟩
theorem CkM.put {lo hi gA n : Nat} {w : World} {A : Option Addr} {L : List CkR} (h : CkM lo hi gA w A n L) {q : Nat} (hq : 0 < n → q ≠ gA) (i : Nat) (u : Value) : CkM lo hi gA (w.setCell ⟨q, i, none⟩ u) A n L :=
  ⟨h.len, fun hn => by
    obtain ⟨t, cs, h1, h2, h3⟩ := h.row hn
    exact ⟨t, cs, h1, h2.off (Ne.symm (hq hn)) u, h3⟩, fun x hx => (h.lab x hx).put q i u, fun x hx => (h.smp x hx).put q i u⟩
theorem CkM.putMax {lo hi gA n : Nat} {w : World} {A : Option Addr} {L : List CkR} (h : CkM lo hi gA w A n L) (j : Nat) (u : Value) : CkM lo hi gA (w.setCell ⟨gA, j * 6 + 1, none⟩ u) A n L :=
  ⟨h.len, fun hn => by
    obtain ⟨t, cs, h1, h2, h3, h4, h5, h6⟩ := h.row hn
    refine ⟨t, _, h1, h2.put _ u, by simpa using h3, h4, h5, fun i x hx => ?_⟩
    obtain ⟨e1, e2⟩ := h6 i x hx
    rw [Array.getElem?_setIfInBounds_ne (by omega), Array.getElem?_setIfInBounds_ne (by omega)]
    exact ⟨e1, e2⟩, fun x hx => (h.lab x hx).put _ _ u, fun x hx => (h.smp x hx).put _ _ u⟩
theorem CkM.of {tT tL tS : TypeId} {w : World} {base n c : Nat} {A : Option Addr} {L : List CkR} (h : CkO tT tL tS w base (.slice A n c) L) (hn : L.length = n) (h1 : tL ≠ tT) (h2 : tS ≠ tT) : ∃ gA, CkM base w.heap.size gA w A n L := by
  subst hn
  by_cases h0 : 0 < L.length
  · rcases h.row with ⟨hl, ⟨_, e0⟩ | ⟨g, cap, cur, hv, hb, hg, hnc, _, hs, ht⟩⟩
    · omega
    · have hw : Whole1 w g tT cur := hg
      injection hv with e1 _ _
      subst e1
      refine ⟨g, rfl, fun _ => ⟨tT, cur, rfl, hw, ?_, hb, hw.lt, fun i x hx => ?_⟩, fun x hx => WrT.of_own (h.lab x hx).1 rfl (Nat.le_refl _) hw h1, fun x hx hn => WrT.of_own ((h.smp x hx).1 hn) rfl (Nat.le_refl _) hw h2 hn⟩
      · rw [hs]; exact Nat.mul_le_mul_right _ hnc
      · have hil := (List.getElem?_eq_some_iff.1 hx).1
        have hat : ∀ q, q < 6 → cur[i * 6 + q]? = (x.cells)[q]? := fun q hq => by
          rw [← fm_at (enc := CkR.cells) (k := 6) (fun _ => rfl) L i x q hx hq, ← ht, List.getElem?_take_of_lt (by omega), Array.getElem?_toList]
        exact ⟨hat 0 (by omega), hat 5 (by omega)⟩
  · have : L = [] := List.eq_nil_of_length_eq_zero (by omega)
    subst this
    exact ⟨0, rfl, fun h => absurd h (by simp), by simp, by simp⟩
/-- samples that are counted on: a row of them that may be written into, from lo on, not in block ga -/
def WrS (w : World) (A : Option Addr) (n lo ga : Nat) : Prop := 0 < n → ∃ (g : Nat) (t : TypeId) (cs : Array Value), A = some ⟨g, 0, none⟩ ∧ Whole1 w g t cs ∧ lo ≤ g ∧ g ≠ ga ∧ ∀ i, i < n → ∃ y : Nat, cs[i * 2 + 1]? = some (.int .u64 (y : Int))
theorem WrS.put {w : World} {A : Option Addr} {n lo ga : Nat} (h : WrS w A n lo ga) (q j y : Nat) : WrS (w.setCell ⟨q, j, none⟩ (.int .u64 (y : Int))) A n lo ga := fun hn => by
  obtain ⟨g, t, cs, h1, h2, h3, h4, h5⟩ := h hn
  by_cases hq : g = q
  · subst hq
    refine ⟨g, t, _, h1, h2.put j _, h3, h4, fun i hi => ?_⟩
    obtain ⟨z, hz⟩ := h5 i hi
    by_cases e : j = i * 2 + 1
    · subst e
      exact ⟨y, by rw [Array.getElem?_setIfInBounds_self_of_lt (Array.getElem?_eq_some_iff.1 hz).1]⟩
    · exact ⟨z, by rw [Array.getElem?_setIfInBounds_ne e]; exact hz⟩
  · exact ⟨g, t, cs, h1, h2.off hq _, h3, h4, h5⟩
/-- what Raw tells, counted on -/
structure RawM (lo gA : Nat) (w : World) (A : Option Addr) (n : Nat) (L : List Ser) : Prop where
  len : L.length = n
  row : 0 < n → ∃ (t : TypeId) (cs : Array Value), A = some ⟨gA, 0, none⟩ ∧ Whole1 w gA t cs ∧ lo ≤ gA ∧ ∀ i x, L[i]? = some x → cs[i * 3 + 1]? = some x.smp.val
  smp : ∀ x ∈ L, WrS w x.smp.A x.smp.n lo gA
theorem RawM.put {lo gA n : Nat} {w : World} {A : Option Addr} {L : List Ser} (h : RawM lo gA w A n L) {q : Nat} (hq : 0 < n → q ≠ gA) (j y : Nat) : RawM lo gA (w.setCell ⟨q, j, none⟩ (.int .u64 (y : Int))) A n L :=
  ⟨h.len, fun hn => by
    obtain ⟨t, cs, h1, h2, h3⟩ := h.row hn
    exact ⟨t, cs, h1, h2.off (Ne.symm (hq hn)) _, h3⟩, fun x hx => (h.smp x hx).put q j y⟩
theorem RawM.of {w : World} {base n c : Nat} {A : Option Addr} {L : List Ser} (h : RawO w base (.slice A n c) L) (hn : L.length = n) : ∃ gA, RawM base gA w A n L := by
  subst hn
  by_cases h0 : 0 < L.length
  · rcases h.row with ⟨hl, ⟨_, e0⟩ | ⟨g, cap, cur, hv, hb, hg, hnc, _, hs, ht⟩⟩
    · omega
    · have hw : Whole1 w g 73 cur := hg
      injection hv with e1 _ _
      subst e1
      refine ⟨g, rfl, fun _ => ⟨_, cur, rfl, hw, hb, fun i x hx => ?_⟩, fun x hx hxn => ?_⟩
      · have hil := (List.getElem?_eq_some_iff.1 hx).1
        rw [show i * 3 + 1 = i * 3 + 1 from rfl]
        have := fm_at (enc := Ser.cells) (k := 3) (fun _ => rfl) L i x 1 hx (by omega)
        rw [← ht, List.getElem?_take_of_lt (by omega), Array.getElem?_toList] at this
        exact this
      · obtain ⟨ho, hl2⟩ := h.smp x hx
        obtain ⟨_, h2⟩ := ho
        rcases h2 with ⟨_, e0⟩ | ⟨g2, cap2, cur2, hv2, hb2, hg2, hnc2, _, hs2, ht2⟩
        · omega
        · injection hv2 with e2 _ _
          have hw2 : Whole1 w g2 68 cur2 := hg2
          refine ⟨g2, _, cur2, e2, hw2, hb2, fun e' => ?_, fun i hi => ?_⟩
          · subst e'
            rw [hg] at hg2
            injection hg2 with this
            injection this with _ this _
            exact absurd this (by decide)
          · obtain ⟨s, hsx⟩ : ∃ s, x.smp.l[i]? = some s := ⟨_, List.getElem?_eq_getElem (by omega)⟩
            refine ⟨s.v, ?_⟩
            have := fm_at (enc := Smp.cells) (k := 2) (fun _ => rfl) x.smp.l i s 1 hsx (by omega)
            rw [← ht2, List.getElem?_take_of_lt (by omega), Array.getElem?_toList] at this
            exact this
  · have : L = [] := List.eq_nil_of_length_eq_zero (by omega)
    subst this
    exact ⟨0, rfl, fun h => absurd h (by simp), by simp⟩
end Go.Proofs.YthncochjhbmceaaGreat
