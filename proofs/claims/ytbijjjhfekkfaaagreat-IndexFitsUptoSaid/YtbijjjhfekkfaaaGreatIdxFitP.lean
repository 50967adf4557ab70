/- What index.fitting answers, plainly; the walk's helpers. No program is walked here. -/
import Derived.Test.YtbijjjhfekkfaaaGreatPk4b142be3
import Derived.Test.YtbijjjhfekkfaaaGreatPk52a4b502
import Derived.Test.YtbijjjhfekkfaaaGreatPk965429b8
import Derived.Test.YtbijjjhfekkfaaaGreatPk40264705
import Derived.Test.YtbijjjhfekkfaaaGreatPk21fc8dba
namespace Go.Proofs.YtbijjjhfekkfaaaGreat
set_option maxRecDepth 100000
open Go.RowKit Go.Shelf

/-- the sets that fit -/
def fitE (E : List (List Lbl)) (nm : ByteArray) (F : ByteArray → Bool) (z : Int) : Prop := ∃ (i : Nat) (l : List Lbl), E[i]? = some l ∧ z = (i : Int) ∧ F (getL l nm) = true
/-- the sets that have a value of this name of which this holds -/
def hasW (E : List (List Lbl)) (nm : ByteArray) (P : ByteArray → Prop) (z : Int) : Prop := ∃ (i : Nat) (l : List Lbl), E[i]? = some l ∧ z = (i : Int) ∧ (getL l nm).toList ≠ [] ∧ P (getL l nm)
theorem empty_of {v : ByteArray} (h : v.toList = []) : v = ⟨#[]⟩ := bytes_eq (by rw [Lib.toList_data] at h; exact h)
theorem fit_true {E : List (List Lbl)} {nm : ByteArray} {F : ByteArray → Bool} (h0 : F ⟨#[]⟩ = true) (z : Int) : fitE E nm F z ↔ z ∈ upL E.length ∧ ¬ hasW E nm (fun v => F v ≠ true) z := by
  constructor
  · rintro ⟨i, l, h1, rfl, h3⟩
    refine ⟨mem_upL.2 ⟨by omega, by have := (List.getElem?_eq_some_iff.1 h1).1; omega⟩, ?_⟩
    rintro ⟨j, l', k1, e, _, k3⟩
    obtain rfl : i = j := by omega
    rw [h1] at k1
    obtain rfl := Option.some.inj k1
    exact k3 h3
  · rintro ⟨h1, h2⟩
    obtain ⟨a, b⟩ := mem_upL.1 h1
    have hi : z.toNat < E.length := by omega
    refine ⟨z.toNat, E[z.toNat], List.getElem?_eq_getElem hi, by omega, ?_⟩
    by_cases e : (getL E[z.toNat] nm).toList = []
    · rw [empty_of e]; exact h0
    · by_cases hf : F (getL E[z.toNat] nm) = true
      · exact hf
      · exact absurd ⟨z.toNat, E[z.toNat], List.getElem?_eq_getElem hi, by omega, e, hf⟩ h2
theorem fit_false {E : List (List Lbl)} {nm : ByteArray} {F : ByteArray → Bool} (h0 : F ⟨#[]⟩ = false) (z : Int) : fitE E nm F z ↔ hasW E nm (fun v => F v ≠ false) z := by
  constructor
  · rintro ⟨i, l, h1, rfl, h3⟩
    refine ⟨i, l, h1, rfl, fun e => ?_, show F (getL l nm) ≠ false by rw [h3]; simp⟩
    rw [empty_of e, h0] at h3
    cases h3
  · rintro ⟨i, l, h1, rfl, _, h3⟩
    exact ⟨i, l, h1, rfl, by simpa using h3⟩
theorem mem_ixs {G : List (Int × Lbl)} {x : Lbl} {z : Int} : z ∈ ixs G x ↔ ∃ y ∈ G, y.2 = x ∧ y.1 = z := by
  unfold ixs
  rw [List.mem_map]
  constructor
  · rintro ⟨y, hy, rfl⟩
    obtain ⟨h1, h2⟩ := List.mem_filter.1 hy
    exact ⟨y, h1, by simpa using h2, rfl⟩
  · rintro ⟨y, hy, rfl, rfl⟩
    exact ⟨y, List.mem_filter.2 ⟨hy, by simp⟩, rfl⟩
/-- what the name's map tells is what the sets have -/
theorem with_iff {w : World} {base : Nat} {oI : Nat → Option Lbl} {mi : List (Value × Value)} {E : List (List Lbl)} {nm : ByteArray} (h : Inner w base oI mi (flatE E) nm) (hv : ∀ l ∈ E, validP l) (P : ByteArray → Prop) (z : Int) :
    (∃ p ∈ mi, ∃ vl u, p = (Value.string vl, u) ∧ P vl ∧ z ∈ ixs (flatE E) ⟨nm, vl⟩) ↔ hasW E nm P z := by
  constructor
  · rintro ⟨p, _, vl, u, rfl, hP, hz⟩
    obtain ⟨y, hy, e, rfl⟩ := mem_ixs.1 hz
    obtain ⟨i, l, h1, h2, h3⟩ := mem_flatE.1 hy
    rw [e] at h3
    obtain ⟨h4, h5⟩ := (valid_has (hv l (List.mem_of_getElem? h1))).1 h3
    exact ⟨i, l, h1, h2, by rw [h4]; exact h5, by rw [h4]; exact hP⟩
  · rintro ⟨i, l, h1, rfl, h3, h4⟩
    have hm : (⟨nm, getL l nm⟩ : Lbl) ∈ l := (valid_has (hv l (List.mem_of_getElem? h1))).2 ⟨rfl, h3⟩
    have hy : ((i : Int), (⟨nm, getL l nm⟩ : Lbl)) ∈ flatE E := mem_flatE.2 ⟨i, l, h1, rfl, hm⟩
    cases hat : atV mi (.string (getL l nm)) with
    | none => exact absurd rfl (h.miss _ hat _ hy)
    | some u => exact ⟨_, atV_mem _ _ _ hat, _, u, rfl, h4, mem_ixs.2 ⟨_, hy, rfl, rfl⟩⟩
/-- a name that no set has -/
theorem hasW_none {E : List (List Lbl)} {nm : ByteArray} (h : ∀ y ∈ flatE E, y.2.name ≠ nm) (P : ByteArray → Prop) (z : Int) : ¬ hasW E nm P z := by
  rintro ⟨i, l, h1, rfl, h3, _⟩
  exact h ((i : Int), ⟨nm, getL l nm⟩) (mem_flatE.2 ⟨i, l, h1, rfl, getL_some h3⟩) rfl
/-- each value of a name is small, its numbers are those of the sets -/
theorem inner_small {w : World} {base : Nat} {oI : Nat → Option Lbl} {mi : List (Value × Value)} {E : List (List Lbl)} {nm vl : ByteArray} {u : Value} (h : Inner w base oI mi (flatE E) nm) (hv : ∀ l ∈ E, validP l) (hu : atV mi (.string vl) = some u) (hE : E.length ≤ 1048576) :
    vl.size ≤ 140737488355328 ∧ (∀ x ∈ ixs (flatE E) ⟨nm, vl⟩, inI x) ∧ (ixs (flatE E) ⟨nm, vl⟩).length ≤ 8 * 1048576 := by
  obtain ⟨⟨y, hy, e⟩, _, _⟩ := h.hit vl u hu
  refine ⟨?_, fun x hx => ?_, ?_⟩
  · obtain ⟨i, l, h1, _, h3⟩ := mem_flatE.1 hy
    rw [e] at h3
    have := (valid_small (hv l (List.mem_of_getElem? h1))).2 _ h3
    simp only at this
    omega
  · obtain ⟨y, hy, _, rfl⟩ := mem_ixs.1 hx
    obtain ⟨i, l, h1, h2, _⟩ := mem_flatE.1 hy
    have := (List.getElem?_eq_some_iff.1 h1).1
    unfold inI
    omega
  · have := ixs_len (flatE E) ⟨nm, vl⟩
    have h2 : (flatE E).length ≤ 8 * E.length := flatE_len E fun l hl => (valid_small (hv l hl)).1
    omega
theorem strs_lenE {m : List (Value × Value)} (hn : (m.map (·.1)).Nodup) (hS : ∀ p ∈ m, IsStr p.1) {b : List ByteArray} (h : ∀ s, atV m (.string s) ≠ none → s ∈ b) : m.length ≤ b.length := by
  have := nodup_len (b := b.map Value.string) hn fun x hx => by
    obtain ⟨p, hp, rfl⟩ := List.mem_map.1 hx
    obtain ⟨s, hs⟩ := hS p hp
    have h0 : atV m (.string s) ≠ none := fun h0 => (atV_none _ _).1 h0 p hp hs
    rw [hs]
    exact List.mem_map.2 ⟨s, h s h0, rfl⟩
  simpa using this
theorem KOwn.old {w0 w : World} {v : Value} {cs : List Kid} (h : KOwn w0 w v cs) : ∀ x ∈ cs, ∀ k, x.F k → k < w.heap.size := fun x hx => isCur_old _ _ _ _ (h.cur x hx)
theorem KOwn.gOf {w0 w : World} {v : Value} {cs : List Kid} (h : KOwn w0 w v cs) : ∀ k, gOf cs k → w0.heap.size ≤ k := fun k ⟨x, hx, hk⟩ => (h.off x hx k hk).1
/-- a fresh cursor was appended to the row -/
theorem KOwn.add {w0 w w1 w2 : World} {v v1 : Value} {cs : List Kid} {a : Option Addr} {S : List Int} {F : Nat → Prop} (h : KOwn w0 w v cs) (hF : FC w w1 (.pointer a) S F)
    (hown : w2.ownsRow w0.heap.size 183 1 v1 (cs.length + 1) (cs.map Kid.p ++ [.pointer a])) (hg : (w1.alloc (.cells #[.pointer a] 183)).grownBy w2 v.ownBlock) (hat : v1.ownBlock = v.ownBlock ∨ v1.ownBlock = some (w1.alloc (.cells #[.pointer a] 183)).heap.size) : KOwn w0 w2 v1 (cs ++ [⟨.pointer a, S, F⟩]) := by
  obtain ⟨h1, h2, h3⟩ := hF
  have hb : Below w.heap.size w (w1.alloc (.cells #[.pointer a] 183)) := h3.alloc h3.size _
  have hs := h.below.size
  refine (h.on hb).push (x := ⟨.pointer a, S, F⟩) (isCur_on h1 ((Below.refl _ _).alloc (Nat.le_refl _) _)) (fun y hy k ⟨hk, hk2⟩ => ?_) (fun k hk => ⟨?_, fun e => ?_⟩) hown hg hat
  · have := h.old y hy k hk; have := h2 k hk2; omega
  · have := h2 k hk; omega
  · have := (h.row.lt k e).2; have := h2 k hk; omega
/-- a map's iterator is no row -/
theorem RangeV.on {S : Value → Prop} {w w' : World} {b r : Nat} {m come : List (Value × Value)} (h : RangeV S w b r m come) (hb : Below w.heap.size w w') : RangeV S w' b r m come := h.kept (hb.block b h.map.lt) (hb.block r h.lt)
theorem RangeV.grown {S : Value → Prop} {w w' : World} {b r : Nat} {m come : List (Value × Value)} (h : RangeV S w b r m come) {base size n : Nat} {T : TypeId} {v : Value} {xs : List Value} (ho : w.ownsRow base T size v n xs) (hg : w.grownBy w' v.ownBlock) : RangeV S w' b r m come := by
  have key : ∀ k, k < w.heap.size → (∀ cs, w.heap[k]? ≠ some (.cells cs T (0, 0))) → w'.heap[k]? = w.heap[k]? := fun k hk hne => by
    refine hg.block k hk fun e => ?_
    rcases ho.2 with ⟨h1, _⟩ | ⟨g, cap, cur, h1, h2, h3, _⟩
    · rw [h1] at e; cases e
    · rw [h1] at e
      have e : k = g := Option.some.inj e
      subst e
      exact hne _ h3
  have hm := h.map.lt
  have hr := h.lt
  obtain ⟨es, clock, since, seen, c0, h1, h2, h3, h4, h5, rest⟩ := h
  refine RangeV.kept ⟨es, clock, since, seen, c0, h1, h2, h3, h4, h5, rest⟩ (key b hm fun cs e => ?_) (key r hr fun cs e => ?_)
  · rw [h1] at e; cases e
  · rw [h5] at e; cases e
/-- an iterator went on: the row stays -/
theorem KOwn.iter {w0 w w' : World} {v : Value} {cs : List Kid} {r b : Nat} {m come : List (Value × Value)} {S : Value → Prop} (h : KOwn w0 w v cs) (hr : RangeV S w b r m come) (hg : w.grownBy w' (some r)) (h0 : w0.heap.size ≤ r) (hF : ∀ y ∈ cs, ¬ y.F r) : KOwn w0 w' v cs := by
  have hne : v.ownBlock = none ∨ v.ownBlock ≠ some r := by
    refine .inr fun e => ?_
    obtain ⟨es, clock, since, seen, c0, _, _, _, _, h5, _⟩ := hr
    rcases h.row.2 with ⟨h1, _⟩ | ⟨g, cap, cur, h1, h2, h3, _⟩
    · rw [h1] at e; cases e
    · rw [h1] at e
      have e : g = r := Option.some.inj e
      subst e
      rw [show w.heap[g]? = some (.cells cur _ (0, 0)) from h3] at h5
      cases h5
  exact ⟨h.row.kept hg hne, fun y hy => isCur_frame _ _ _ _ _ (h.cur y hy) hg.size fun k hk => hg.block k (h.old y hy k hk) fun e => hF y hy (by cases e; exact hk), h.apart, h.off, h.below.grown hg h.below.size fun k e => by cases e; exact h0⟩
/-- one of them or another -/
theorem orE_fit {w0 wz : World} {v : Value} {cs : List Kid} {Q : Int → Prop} (h : KOwn w0 wz v cs) (hf : cs.length ≤ 1099511627776) (hm : ∀ z, (∃ y ∈ cs, z ∈ y.E) ↔ Q z) :
    ∃ A c, v = .slice A cs.length c ∧ Calls Tryz.prog 159 #[.slice A cs.length c] wz (FCR w0 fun S => ∀ z, z ∈ S ↔ Q z) := by
  obtain ⟨A, c, rfl, hk⟩ := h.kids (by omega)
  refine ⟨A, c, rfl, (or_any A cs.length c cs wz hk).mono fun e w' hN => ?_⟩
  obtain ⟨a, S, F, r1, r2, r3⟩ := fcr_new hN h.gOf h.below
  exact ⟨a, S, F, r1, r2, fun z => (r3 z).trans (hm z)⟩
end Go.Proofs.YtbijjjhfekkfaaaGreat
