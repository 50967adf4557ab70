/- Sets of labels, plainly: what is a name, a value, which error a list has, its sorted list. No program is walked here. Labels as they lie. No condition. The lists of an index (by name and value) as they lie. No program is walked here. -/
import Derived.Test.YtalnndenncnbdaaGreatPkfd37fbbc
import Derived.Test.YtalnndenncnbdaaGreatPk785f11a4
namespace Go.Proofs.YtalnndenncnbdaaGreat
set_option maxRecDepth 100000
open Go.RowKit

def digitB (b : UInt8) : Bool := decide (48 ≤ b.toNat) && decide (b.toNat ≤ 57)
def letterB (b : UInt8) : Bool := (decide (97 ≤ b.toNat) && decide (b.toNat ≤ 122)) || (decide (65 ≤ b.toNat) && decide (b.toNat ≤ 90)) || decide (b.toNat = 95)
/-- may b stand at place i of a name? -/
def nameB (i : Nat) (b : UInt8) : Bool := letterB b || (digitB b && decide (i ≠ 0))
def namesUpto (s : List UInt8) (k : Nat) : Prop := ∀ i b, i < k → s[i]? = some b → nameB i b = true
def nameAll (s : List UInt8) : Bool := (List.range s.length).all fun i => match s[i]? with
  | some b => nameB i b
  | none => true
def fitN (s : ByteArray) : Bool := nameAll s.data.toList && (decide (1 ≤ s.size) && decide (s.size ≤ 32))
theorem nameAll_iff (s : List UInt8) : nameAll s = true ↔ namesUpto s s.length := by
  unfold nameAll namesUpto
  rw [List.all_eq_true]
  constructor
  · intro h i b hi hb
    have := h i (List.mem_range.2 hi)
    rw [hb] at this
    exact this
  · intro h i hi
    cases hb : s[i]? with
    | none => rfl
    | some b => exact h i b (List.mem_range.1 hi) hb
theorem size_list (s : ByteArray) : s.data.toList.length = s.size := rfl
def fitV (s : ByteArray) : Bool := decide (1 ≤ s.size ∧ s.size ≤ 64)
theorem namesUpto_zero (s : List UInt8) : namesUpto s 0 := fun _ _ h => absurd h (Nat.not_lt_zero _)
theorem namesUpto_succ {s : List UInt8} {k : Nat} {b : UInt8} (h : namesUpto s k) (hb : s[k]? = some b) (hn : nameB k b = true) : namesUpto s (k + 1) := fun i c hi hc => by
  by_cases e : i = k
  · subst e; have := hc.symm.trans hb; cases this; exact hn
  · exact h i c (by omega) hc
theorem fitN_no {s : ByteArray} {k : Nat} {b : UInt8} (hk : k < s.size) (hb : s.data.toList[k]? = some b) (hn : nameB k b = false) : fitN s = false := by
  have h : nameAll s.data.toList = false := by
    cases h : nameAll s.data.toList with
    | false => rfl
    | true =>
      have := (nameAll_iff _).1 h k b (by rw [size_list]; exact hk) hb
      rw [hn] at this; cases this
  rw [fitN, h, Bool.false_and]
theorem fitN_end {s : ByteArray} (h : namesUpto s.data.toList s.size) : fitN s = (decide (1 ≤ s.size) && decide (s.size ≤ 32)) := by
  rw [fitN, (nameAll_iff _).2 (by rw [size_list]; exact h), Bool.true_and]

/-- the error that the label at place i has -/
def errAt (l : List Lbl) (i : Nat) : Nat :=
  match l[i]? with
  | none => 0
  | some x => if fitN x.name = false then 40 else if fitV x.value = false then 41 else if (∃ y ∈ l.take i, y.name = x.name) then 42 else 0
def errUpto (l : List Lbl) : Nat → Nat
  | 0 => 0
  | k + 1 => if errUpto l k = 0 then errAt l k else errUpto l k
def makeErr (l : List Lbl) : Nat := if l.length = 0 then 43 else if 8 < l.length then 44 else errUpto l l.length
theorem errUpto_stop {l : List Lbl} {k : Nat} (h : errUpto l k = 0) (he : errAt l k ≠ 0) : ∀ m, k + 1 ≤ m → errUpto l m = errAt l k
  | 0, hm => absurd hm (by omega)
  | m + 1, hm => by
    by_cases e : m = k
    · subst e; rw [errUpto, if_pos h]
    · have := errUpto_stop h he m (by omega)
      rw [errUpto, if_neg (by rw [this]; exact he), this]
theorem errUpto_next {l : List Lbl} {k : Nat} (h : errUpto l k = 0) (he : errAt l k = 0) : errUpto l (k + 1) = 0 := by rw [errUpto, if_pos h, he]
theorem errUpto_le {l : List Lbl} : ∀ {m k : Nat}, errUpto l m = 0 → k ≤ m → errUpto l k = 0
  | 0, k, h, hk => by have : k = 0 := by omega
                      subst this; exact h
  | m + 1, k, h, hk => by
    rw [errUpto] at h
    split at h
    · rename_i h2
      by_cases e : k = m + 1
      · subst e; rw [errUpto, if_pos h2, h]
      · exact errUpto_le h2 (by omega)
    · rename_i h2; exact absurd h h2
theorem errAt_zero {l : List Lbl} {m k : Nat} (h : errUpto l m = 0) (hk : k < m) : errAt l k = 0 := by
  have h1 := errUpto_le h (show k + 1 ≤ m by omega)
  have h2 := errUpto_le h (show k ≤ m by omega)
  rwa [errUpto, if_pos h2] at h1
theorem errAt_of {l : List Lbl} {k : Nat} {x : Lbl} (hx : l[k]? = some x) : errAt l k = if fitN x.name = false then 40 else if fitV x.value = false then 41 else if (∃ y ∈ l.take k, y.name = x.name) then 42 else 0 := by rw [errAt, hx]
theorem errAt_ok {l : List Lbl} {k : Nat} {x : Lbl} (hx : l[k]? = some x) (h : errAt l k = 0) : fitN x.name = true ∧ fitV x.value = true ∧ ∀ y ∈ l.take k, y.name ≠ x.name := by
  rw [errAt_of hx] at h
  split at h
  · cases h
  · split at h
    · cases h
    · split at h
      · cases h
      · rename_i h1 h2 h3
        exact ⟨by simpa using h1, by simpa using h2, fun y hy e => h3 ⟨y, hy, e⟩⟩
theorem makeErr_ok {l : List Lbl} (h : makeErr l = 0) : 0 < l.length ∧ l.length ≤ 8 ∧ errUpto l l.length = 0 := by
  unfold makeErr at h
  split at h
  · cases h
  · split at h
    · cases h
    · exact ⟨by omega, by omega, h⟩
/-- no name twice -/
theorem make_apart {l : List Lbl} (h : errUpto l l.length = 0) : l.Pairwise fun x y => x.name ≠ y.name := by
  rw [List.pairwise_iff_getElem]
  intro i j hi hj hij e
  have hx : l[j]? = some l[j] := List.getElem?_eq_getElem hj
  refine (errAt_ok hx (errAt_zero h hj)).2.2 l[i] ?_ e
  refine List.mem_iff_getElem?.2 ⟨i, ?_⟩
  rw [List.getElem?_take_of_lt hij]
  exact List.getElem?_eq_getElem hi
theorem make_fits {l : List Lbl} (h : errUpto l l.length = 0) : ∀ x ∈ l, fitN x.name = true ∧ fitV x.value = true := fun x hx => by
  obtain ⟨i, hi⟩ := List.mem_iff_getElem?.1 hx
  have hl := (List.getElem?_eq_some_iff.1 hi).1
  have := errAt_ok hi (errAt_zero h hl)
  exact ⟨this.1, this.2.1⟩

/-! in the order of the names -/
def ltN (x y : Lbl) : Prop := cmpB x.name y.name < 0
def upN (l : List Lbl) : Prop := l.Pairwise ltN
theorem ltN_irr (x : Lbl) : ¬ ltN x x := fun h => by
  have h0 := (tri_B.zero x.name x.name).2 rfl
  unfold ltN at h; omega
theorem ltN_trans {x y z : Lbl} (h : ltN x y) (k : ltN y z) : ltN x z := by
  unfold ltN at *
  have a := tri_B.range x.name y.name
  have b := tri_B.range y.name z.name
  have := tri_B.trans x.name y.name z.name (by omega) (by omega)
  omega
theorem up_unique : ∀ {a b : List Lbl}, upN a → upN b → a.Perm b → a = b
  | [], b, _, _, h => (List.Perm.nil_eq h)
  | x :: a, [], _, _, h => absurd h.length_eq (by simp)
  | x :: a, y :: b, ha, hb, h => by
    obtain ⟨a1, a2⟩ := List.pairwise_cons.1 ha
    obtain ⟨b1, b2⟩ := List.pairwise_cons.1 hb
    have hxy : x = y := by
      rcases List.mem_cons.1 (h.mem_iff.1 (List.mem_cons_self ..)) with e | hx
      · exact e
      · rcases List.mem_cons.1 (h.mem_iff.2 (List.mem_cons_self ..)) with e | hy
        · exact e.symm
        · have h1 := b1 x hx
          have h2 := a1 y hy
          have h3 := tri_B.turn x.name y.name
          unfold ltN at h1 h2
          omega
    subst hxy
    rw [up_unique a2 b2 (List.Perm.cons_inv h)]
theorem leN_trans (a b c : Lbl) (h1 : cmpB a.name b.name ≤ 0) (h2 : cmpB b.name c.name ≤ 0) : cmpB a.name c.name ≤ 0 := by
  rcases tri_B.range a.name b.name with h | h | h
  · rcases tri_B.range b.name c.name with k | k | k
    · have := tri_B.trans _ _ _ h k; omega
    · rw [← (tri_B.zero _ _).1 k]; omega
    · omega
  · rw [(tri_B.zero _ _).1 h]; exact h2
  · omega
/-- the list in the order of its names -/
def sortN (l : List Lbl) : List Lbl := l.mergeSort fun x y => decide (cmpB x.name y.name ≤ 0)
theorem sortN_perm (l : List Lbl) : (sortN l).Perm l := List.mergeSort_perm l _
theorem sortN_up {l : List Lbl} (h : l.Pairwise fun x y => x.name ≠ y.name) : upN (sortN l) := by
  have h1 : (sortN l).Pairwise fun x y => decide (cmpB x.name y.name ≤ 0) = true := List.pairwise_mergeSort (fun a b c h1 h2 => by
    simp only [decide_eq_true_eq] at *
    exact leN_trans a b c h1 h2) (fun a b => by
    have := tri_B.turn a.name b.name
    simp; omega) l
  have h2 : (sortN l).Pairwise fun x y => x.name ≠ y.name := (sortN_perm l).symm.pairwise h fun h e => h e.symm
  refine (h1.and h2).imp ?_
  rintro x y ⟨a, b⟩
  simp only [decide_eq_true_eq] at a
  unfold ltN
  rcases tri_B.range x.name y.name with h | h | h
  · omega
  · exact absurd ((tri_B.zero _ _).1 h) b
  · omega
theorem sortN_uniq {l E : List Lbl} (h : l.Pairwise fun x y => x.name ≠ y.name) (hE : upN E) (hp : E.Perm l) : E = sortN l :=
  up_unique hE (sortN_up h) (hp.trans (sortN_perm l).symm)
/-- what Make answers -/
def makeL (l : List Lbl) : List Lbl := if makeErr l = 0 then sortN l else []
def validP (l : List Lbl) : Prop := makeErr l = 0 ∧ upN l
theorem makeL_len {l : List Lbl} : (makeL l).length ≤ 8 := by
  unfold makeL
  split
  · rename_i h
    rw [(sortN_perm l).length_eq]
    exact (makeErr_ok h).2.1
  · exact Nat.zero_le _
theorem up_apart {l : List Lbl} (h : upN l) : l.Pairwise fun x y => x.name ≠ y.name := h.imp fun {x y} h e => by
  have := (tri_B.zero x.name y.name).2 e
  unfold ltN at h; omega
/-- a list that is fit in every place has no error -/
theorem errUpto_fit {l : List Lbl} (hf : ∀ x ∈ l, fitN x.name = true ∧ fitV x.value = true) (ha : l.Pairwise fun x y => x.name ≠ y.name) : ∀ k, errUpto l k = 0
  | 0 => rfl
  | k + 1 => by
    refine errUpto_next (errUpto_fit hf ha k) ?_
    cases hx : l[k]? with
    | none => rw [errAt, hx]
    | some x =>
      obtain ⟨h1, h2⟩ := hf x (List.mem_of_getElem? hx)
      rw [errAt_of hx, h1, h2, if_neg (by simp), if_neg (by simp), if_neg]
      rintro ⟨y, hy, e⟩
      obtain ⟨i, hi⟩ := List.mem_iff_getElem?.1 hy
      have hil := (List.getElem?_eq_some_iff.1 hi).1
      have hik : i < k := by rw [List.length_take] at hil; omega
      rw [List.getElem?_take_of_lt hik] at hi
      obtain ⟨hi1, hi2⟩ := List.getElem?_eq_some_iff.1 hi
      obtain ⟨hx1, hx2⟩ := List.getElem?_eq_some_iff.1 hx
      exact List.pairwise_iff_getElem.1 ha i k hi1 hx1 hik (by rw [hi2, hx2]; exact e)
/-- the sorted list of a fit list is fit -/
theorem sortN_valid {l : List Lbl} (h : makeErr l = 0) : validP (sortN l) := by
  obtain ⟨h1, h2, h3⟩ := makeErr_ok h
  have hp := sortN_perm l
  have ha := make_apart h3
  refine ⟨?_, sortN_up ha⟩
  unfold makeErr
  rw [hp.length_eq, if_neg (by omega), if_neg (by omega)]
  exact errUpto_fit (fun x hx => make_fits h3 x (hp.mem_iff.1 hx)) (up_apart (sortN_up ha)) _
end Go.Proofs.YtalnndenncnbdaaGreat

namespace Go.Proofs.YtalnndenncnbdaaGreat
set_option maxRecDepth 100000
open Go.RowKit

/-- labels as they lie -/
structure LbF (w : World) (A : Option Addr) (n : Nat) (l : List Lbl) : Prop where
  row : Row w w.heap.size 2 A n (l.flatMap Lbl.cells)
  len : l.length = n
  fit : n * 32 ≤ 140737488351232
  sz : ∀ x ∈ l, x.name.size ≤ 140737488355328 ∧ x.value.size ≤ 140737488355328
theorem LbF.on {w w' : World} {A : Option Addr} {n : Nat} {l : List Lbl} (h : LbF w A n l) (hb : Below w.heap.size w w') : LbF w' A n l := ⟨(h.row.below hb).more hb.size, h.len, h.fit, h.sz⟩
theorem lb_cells {w : World} {A : Option Addr} {n : Nat} {l : List Lbl} (h : LbF w A n l) {k : Nat} (hk : k < n) : ∃ g o x, A = some ⟨g, o, none⟩ ∧ g < w.heap.size ∧ l[k]? = some x ∧ w.cell? ⟨g, o + k * 2, none⟩ = some (.string x.name) ∧ w.cell? ⟨g, o + k * 2 + 1, none⟩ = some (.string x.value) ∧ x ∈ l := by
  obtain ⟨g, o, x, hA, hg, hx, hc⟩ := row_at (enc := Lbl.cells) (k := 2) (fun _ => rfl) h.row h.len k hk
  exact ⟨g, o, x, hA, hg, hx, hc 0 (by omega), hc 1 (by omega), List.mem_of_getElem? hx⟩
theorem take_lb : ∀ (l : List Lbl) (k : Nat), (l.flatMap Lbl.cells).take (k * 2) = (l.take k).flatMap Lbl.cells
  | [], k => by simp
  | x :: l, 0 => by simp
  | x :: l, k + 1 => by
    rw [show (k + 1) * 2 = k * 2 + 2 by omega, List.flatMap_cons, List.take_succ_cons, List.flatMap_cons, ← take_lb l k]
    rfl
theorem LbF.first {w : World} {A : Option Addr} {n : Nat} {l : List Lbl} (h : LbF w A n l) {k : Nat} (hk : k ≤ n) : Row w w.heap.size 2 A k ((l.take k).flatMap Lbl.cells) := by
  have hl := h.row.len
  rw [← take_lb]
  refine ⟨by rw [List.length_take]; omega, fun hn => ?_⟩
  obtain ⟨g, o, e, hb, hc⟩ := h.row.at_ (by omega)
  exact ⟨g, o, e, hb, fun j hj => by rw [hc j (by omega), List.getElem?_take_of_lt (by omega)]⟩
theorem str_eq (a b : ByteArray) : (a.toList == b.toList) = decide (a = b) := by
  rw [Lib.toList_data, Lib.toList_data]
  by_cases h : a = b
  · subst h; simp
  · rw [decide_eq_false h]
    exact beq_eq_false_iff_ne.2 fun e => h (bytes_eq e)
end Go.Proofs.YtalnndenncnbdaaGreat

namespace Go.Proofs.YtalnndenncnbdaaGreat
set_option maxRecDepth 100000
open Go.RowKit

open Classical in
/-- the numbers that were laid at this name and value -/
noncomputable def ixs (G : List (Int × Lbl)) (x : Lbl) : List Int := (G.filter fun y => decide (y.2 = x)).map (·.1)
theorem ixs_same (G : List (Int × Lbl)) (n : Int) (x : Lbl) : ixs (G ++ [(n, x)]) x = ixs G x ++ [n] := by simp [ixs]
theorem ixs_other (G : List (Int × Lbl)) (n : Int) {x y : Lbl} (h : x ≠ y) : ixs (G ++ [(n, x)]) y = ixs G y := by simp [ixs, h]
theorem ixs_none {G : List (Int × Lbl)} {x : Lbl} (h : ∀ y ∈ G, y.2 ≠ x) : ixs G x = [] := by
  simp only [ixs, List.map_eq_nil_iff, List.filter_eq_nil_iff, decide_eq_true_eq]
  exact h
theorem ixs_len (G : List (Int × Lbl)) (x : Lbl) : (ixs G x).length ≤ G.length := by
  rw [ixs, List.length_map]; exact List.length_filter_le _ _

/-- the map of one name's values -/
structure Inner (w : World) (base : Nat) (oI : Nat → Option Lbl) (mi : List (Value × Value)) (G : List (Int × Lbl)) (nm : ByteArray) : Prop where
  miss : ∀ vl, atV mi (.string vl) = none → ∀ y ∈ G, y.2 ≠ ⟨nm, vl⟩
  hit : ∀ vl u, atV mi (.string vl) = some u → (∃ y ∈ G, y.2 = ⟨nm, vl⟩) ∧ w.ownsRow base 3 1 u (ixs G ⟨nm, vl⟩).length ((ixs G ⟨nm, vl⟩).map (Value.int .i64)) ∧ ∀ g, u.ownBlock = some g → oI g = some ⟨nm, vl⟩
/-- the map of names -/
structure ListsG (w : World) (base bl : Nat) (ml : List (Value × Value)) (oM : Nat → Option ByteArray) (oI : Nat → Option Lbl) (N : ByteArray → Prop) (G : List (Int × Lbl)) : Prop where
  map : MapV IsStr w bl ml
  old : base ≤ bl
  miss : ∀ nm, atV ml (.string nm) = none → ¬ N nm
  hit : ∀ nm v, atV ml (.string nm) = some v → N nm ∧ ∃ bi mi, v = .map (some bi) ∧ base ≤ bi ∧ bi ≠ bl ∧ oM bi = some nm ∧ MapV IsStr w bi mi ∧ Inner w base oI mi G nm
  all : ∀ y ∈ G, N y.2.name

theorem Inner.turn {w w' : World} {base b : Nat} {ts : List TypeId} {mp : Bool} {oI : Nat → Option Lbl} {mi : List (Value × Value)} {G : List (Int × Lbl)} {nm : ByteArray} (h : Inner w base oI mi G nm) (k : Turn b ts mp w w') (hn : 3 ∉ ts) : Inner w' base oI mi G nm :=
  ⟨h.miss, fun vl u hu => by
    obtain ⟨h1, h2, h3⟩ := h.hit vl u hu
    exact ⟨h1, k.own h2 (.inl hn), h3⟩⟩
theorem Inner.below {w w' : World} {base : Nat} {oI : Nat → Option Lbl} {mi : List (Value × Value)} {G : List (Int × Lbl)} {nm : ByteArray} (h : Inner w base oI mi G nm) (k : Below w.heap.size w w') : Inner w' base oI mi G nm :=
  ⟨h.miss, fun vl u hu => by
    obtain ⟨h1, h2, h3⟩ := h.hit vl u hu
    exact ⟨h1, own_below h2 k (Nat.le_refl _), h3⟩⟩
/-- a map was written: rows stay -/
theorem Inner.store {w w' : World} {base b : Nat} {m : List (Value × Value)} {oI : Nat → Option Lbl} {mi : List (Value × Value)} {G : List (Int × Lbl)} {nm : ByteArray} (h : Inner w base oI mi G nm) (hm : MapV IsStr w b m) (hg : w.grownBy w' (some b)) : Inner w' base oI mi G nm :=
  h.turn (Turn.of_map (base := 0) (ts := []) hm (Nat.zero_le _) hg) (by simp)

theorem ListsG.turn {w w' : World} {base b bl : Nat} {ts : List TypeId} {ml : List (Value × Value)} {oM : Nat → Option ByteArray} {oI : Nat → Option Lbl} {N : ByteArray → Prop} {G : List (Int × Lbl)} (h : ListsG w base bl ml oM oI N G) (k : Turn b ts false w w') (hn : 3 ∉ ts) : ListsG w' base bl ml oM oI N G :=
  ⟨k.mapV h.map (.inr rfl), h.old, h.miss, fun nm v hv => by
    obtain ⟨h1, bi, mi, h2, h3, h4, h5, h6, h7⟩ := h.hit nm v hv
    exact ⟨h1, bi, mi, h2, h3, h4, h5, k.mapV h6 (.inr rfl), h7.turn k hn⟩, h.all⟩
theorem ListsG.below {w w' : World} {base bl : Nat} {ml : List (Value × Value)} {oM : Nat → Option ByteArray} {oI : Nat → Option Lbl} {N : ByteArray → Prop} {G : List (Int × Lbl)} (h : ListsG w base bl ml oM oI N G) (k : Below w.heap.size w w') : ListsG w' base bl ml oM oI N G :=
  h.turn (Turn.of_below k w.heap.size [] false) (by simp)
/-- another map was written -/
theorem ListsG.store {w w' : World} {base b bl : Nat} {m ml : List (Value × Value)} {oM : Nat → Option ByteArray} {oI : Nat → Option Lbl} {N : ByteArray → Prop} {G : List (Int × Lbl)} (h : ListsG w base bl ml oM oI N G) (hm : MapV IsStr w b m) (hg : w.grownBy w' (some b)) (hb : b ≠ bl) (hM : oM b = none) : ListsG w' base bl ml oM oI N G :=
  ⟨h.map.kept (hg.block bl h.map.lt (by simpa using Ne.symm hb)), h.old, h.miss, fun nm v hv => by
    obtain ⟨h1, bi, mi, h2, h3, h4, h5, h6, h7⟩ := h.hit nm v hv
    exact ⟨h1, bi, mi, h2, h3, h4, h5, h6.kept (hg.block bi h6.lt fun e => by cases e; rw [hM] at h5; cases h5), h7.store hm hg⟩, h.all⟩

theorem listsG_new {w : World} {base bl : Nat} (h : MapV IsStr w bl []) (hb : base ≤ bl) : ListsG w base bl [] (fun _ => none) (fun _ => none) (fun _ => False) [] :=
  ⟨h, hb, fun _ _ => id, fun nm v hv => by simp [atV] at hv, by simp⟩

open Classical in
/-- a new name: an empty map was made and laid in -/
theorem ListsG.made {w w2 : World} {base bl : Nat} {ml : List (Value × Value)} {oM : Nat → Option ByteArray} {oI : Nat → Option Lbl} {N : ByteArray → Prop} {G : List (Int × Lbl)} {nm : ByteArray} (h : ListsG w base bl ml oM oI N G) (h0 : atV ml (.string nm) = none) (hB : base ≤ w.heap.size)
    (hst : MapV IsStr w2 bl (putV ml (.string nm) (.map (some w.heap.size)))) (hg : (w.alloc (.map #[] 0)).grownBy w2 (some bl)) :
    ListsG w2 base bl (putV ml (.string nm) (.map (some w.heap.size))) (fun g => if g = w.heap.size then some nm else oM g) oI (fun x => N x ∨ x = nm) G := by
  have hlt := h.map.lt
  have hnew : MapV IsStr w2 w.heap.size [] := (mapV_made IsStr w).kept (hg.block _ (by simp) (by simp; omega))
  have hal : Below w.heap.size w (w.alloc (.map #[] 0)) := (Below.refl _ _).alloc (Nat.le_refl _) _
  have ha := h.below hal
  refine ⟨hst, h.old, fun nm' hn => ?_, fun nm' v hv => ?_, fun y hy => .inl (h.all y hy)⟩
  · by_cases e : nm' = nm
    · subst e
      rw [atV_put_same] at hn
      cases hn
    · rw [atV_put_other _ _ _ (by simpa using e)] at hn
      rintro (h1 | h1)
      · exact h.miss nm' hn h1
      · exact e h1
  · by_cases e : nm' = nm
    · subst e
      rw [atV_put_same] at hv
      cases hv
      refine ⟨.inr rfl, w.heap.size, [], rfl, hB, by omega, by simp, hnew, fun vl _ y hy e => h.miss nm' h0 (by have := h.all y hy; rwa [e] at this), fun vl u hu => by simp [atV] at hu⟩
    · rw [atV_put_other _ _ _ (by simpa using e)] at hv
      obtain ⟨h1, bi, mi, h2, h3, h4, h5, h6, h7⟩ := ha.hit nm' v hv
      have h6' : bi < w.heap.size := by
        obtain ⟨_, bi2, mi2, k2, _, _, _, k6, _⟩ := h.hit nm' v hv
        rw [h2] at k2
        cases k2
        exact k6.lt
      refine ⟨.inl h1, bi, mi, h2, h3, h4, by rw [if_neg (by omega)]; exact h5, h6.kept (hg.block bi h6.lt (by simpa using h4)), h7.store ha.map hg⟩

open Classical in
/-- one more number at a name and a value -/
theorem ListsG.added {w w1 w2 w3 : World} {base bl bi k : Nat} {ml mi : List (Value × Value)} {oM : Nat → Option ByteArray} {oI : Nat → Option Lbl} {N : ByteArray → Prop} {G : List (Int × Lbl)} {x : Lbl} {n : Int} {u v' : Value} (h : ListsG w base bl ml oM oI N G)
    (ho : atV ml (.string x.name) = some (.map (some bi))) (hmi : MapV IsStr w bi mi) (hu : (atV mi (.string x.value)).getD (.slice none 0 0) = u)
    (hb1 : Below w.heap.size w w1) (hown : w2.ownsRow base 3 1 v' k ((ixs G x ++ [n]).map (Value.int .i64))) (hg2 : w1.grownBy w2 u.ownBlock) (hv : v'.ownBlock = u.ownBlock ∨ v'.ownBlock = some w1.heap.size)
    (hst : MapV IsStr w3 bi (putV mi (.string x.value) v')) (hg3 : w2.grownBy w3 (some bi)) :
    ListsG w3 base bl ml oM (fun g => if v'.ownBlock = some g then some x else oI g) N (G ++ [(n, x)]) := by
  obtain ⟨hNx, bi', mi', e1, hbi, hbne, hoM, hm', hI⟩ := h.hit _ _ ho
  cases e1
  -- the map's entries are told by its block
  have hat : ∀ vl, atV mi' (.string vl) = atV mi (.string vl) := fun vl => by
    obtain ⟨⟨es, clock, hb, _, q⟩, _⟩ := hmi
    obtain ⟨⟨es', clock', hb', _, q'⟩, _⟩ := hm'
    rw [hb] at hb'
    cases hb'
    rw [← q, ← q']
  have hlt := h.map.lt
  have hk : k = (ixs G x).length + 1 := by
    have := hown.1
    simp at this
    omega
  -- the row's block, if it has one, was this name's and value's
  have hug : ∀ g, u.ownBlock = some g → g < w.heap.size ∧ oI g = some x ∧ ∃ cs, Whole1 w g 3 cs := fun g hg => by
    cases ha : atV mi (.string x.value) with
    | none => rw [ha] at hu; rw [← hu] at hg; cases hg
    | some u' =>
      rw [ha] at hu
      simp only [Option.getD_some] at hu
      subst hu
      obtain ⟨_, q1, q2⟩ := hI.hit _ _ ((hat _).trans ha)
      refine ⟨(q1.lt g hg).2, q2 g hg, ?_⟩
      rcases q1.2 with ⟨h1, _⟩ | ⟨g', cap, cur, h1, h2, h3, _⟩
      · rw [h1] at hg; cases hg
      · rw [h1] at hg; cases hg; exact ⟨cur, h3⟩
  have hb2 : ∀ b m, MapV IsStr w b m → MapV IsStr w2 b m := fun b m hm => by
    have hm1 : MapV IsStr w1 b m := hm.kept (hb1.block b hm.lt)
    refine hm1.kept (hg2.block b hm1.lt fun e => ?_)
    obtain ⟨q1, _, cs, q3⟩ := hug b e.symm
    exact map_off hm q3 rfl
  have hb3 : ∀ b m, MapV IsStr w b m → b ≠ bi → MapV IsStr w3 b m := fun b m hm hne => by
    have hm2 := hb2 b m hm
    exact hm2.kept (hg3.block b hm2.lt (by simpa using hne))
  have hrow : ∀ (y : Lbl) (z : Value) (j : Nat) (xs : List Value), y ≠ x → w.ownsRow base 3 1 z j xs → (∀ g, z.ownBlock = some g → oI g = some y) → w3.ownsRow base 3 1 z j xs ∧ ∀ g, z.ownBlock = some g → v'.ownBlock ≠ some g := fun y z j xs hne q1 q2 => by
    have off : ∀ g, z.ownBlock = some g → u.ownBlock ≠ some g := fun g hg hu => by
      have q3 := (hug g hu).2.1
      rw [q2 g hg] at q3
      exact hne (Option.some.inj q3)
    have r1 : w1.ownsRow base 3 1 z j xs := own_below q1 hb1 (Nat.le_refl _)
    have r2 : w2.ownsRow base 3 1 z j xs := by
      refine r1.kept hg2 ?_
      cases hz : z.ownBlock with
      | none => exact .inl rfl
      | some g => exact .inr fun e => off g hz e.symm
    have r3 : w3.ownsRow base 3 1 z j xs := (Turn.of_map (base := 0) (ts := []) (hb2 _ _ hmi) (Nat.zero_le _) hg3).own r2 (.inl (by simp))
    refine ⟨r3, fun g hg e => ?_⟩
    rcases hv with hv | hv
    · rw [hv] at e
      exact off g hg e
    · rw [hv] at e
      cases e
      have := (q1.lt _ hg).2
      have := hb1.size
      omega
  have hown3 : w3.ownsRow base 3 1 v' k ((ixs G x ++ [n]).map (Value.int .i64)) := (Turn.of_map (base := 0) (ts := []) (hb2 _ _ hmi) (Nat.zero_le _) hg3).own hown (.inl (by simp))
  refine ⟨hb3 bl ml h.map (Ne.symm hbne), h.old, h.miss, fun nm v hv' => ?_, fun y hy => ?_⟩
  · by_cases e : nm = x.name
    · subst e
      rw [ho] at hv'
      cases hv'
      refine ⟨hNx, bi, _, rfl, hbi, hbne, hoM, hst, fun vl hn y hy => ?_, fun vl z hz => ?_⟩
      · by_cases ev : vl = x.value
        · subst ev; rw [atV_put_same] at hn; cases hn
        · rw [atV_put_other _ _ _ (by simpa using ev), ← hat] at hn
          rcases List.mem_append.1 hy with hy | hy
          · exact hI.miss vl hn y hy
          · simp at hy
            rw [hy]
            intro e
            exact ev (by rw [show x = (⟨x.name, vl⟩ : Lbl) from e])
      · by_cases ev : vl = x.value
        · subst ev
          rw [atV_put_same] at hz
          cases hz
          refine ⟨⟨(n, x), by simp, rfl⟩, ?_, fun g hg => by rw [if_pos hg]⟩
          show w3.ownsRow base 3 1 v' (ixs (G ++ [(n, x)]) x).length ((ixs (G ++ [(n, x)]) x).map (Value.int .i64))
          rw [ixs_same, List.length_append, List.length_singleton, ← hk]
          exact hown3
        · rw [atV_put_other _ _ _ (by simpa using ev), ← hat] at hz
          obtain ⟨⟨y, hy, q0⟩, q1, q2⟩ := hI.hit vl z hz
          have hne : (⟨x.name, vl⟩ : Lbl) ≠ x := fun e => ev (by rw [← e])
          obtain ⟨r1, r2⟩ := hrow ⟨x.name, vl⟩ z _ _ hne q1 q2
          refine ⟨⟨y, List.mem_append_left _ hy, q0⟩, ?_, fun g hg => by rw [if_neg (r2 g hg)]; exact q2 g hg⟩
          rw [ixs_other _ _ (Ne.symm hne)]
          exact r1
    · obtain ⟨k1, bj, mj, k2, k3, k4, k5, k6, k7⟩ := h.hit nm v hv'
      have hne : bj ≠ bi := fun e1 => by
        rw [e1, hoM] at k5
        exact e (Option.some.inj k5).symm
      refine ⟨k1, bj, mj, k2, k3, k4, k5, hb3 bj mj k6 hne, fun vl hn y hy => ?_, fun vl z hz => ?_⟩
      · rcases List.mem_append.1 hy with hy | hy
        · exact k7.miss vl hn y hy
        · simp at hy
          rw [hy]
          intro e2
          exact e (by rw [show x = (⟨nm, vl⟩ : Lbl) from e2])
      · obtain ⟨⟨y, hy, q0⟩, q1, q2⟩ := k7.hit vl z hz
        have hne : (⟨nm, vl⟩ : Lbl) ≠ x := fun e2 => e (by rw [← e2])
        obtain ⟨r1, r2⟩ := hrow ⟨nm, vl⟩ z _ _ hne q1 q2
        refine ⟨⟨y, List.mem_append_left _ hy, q0⟩, ?_, fun g hg => by rw [if_neg (r2 g hg)]; exact q2 g hg⟩
        rw [ixs_other _ _ (Ne.symm hne)]
        exact r1
  · rcases List.mem_append.1 hy with hy | hy
    · exact h.all y hy
    · simp at hy
      rw [hy]
      exact hNx
end Go.Proofs.YtalnndenncnbdaaGreat
