/- A list of the reference's series of the call's own whose samples and windows are the call's own, too; the labels lie in older memory. No condition. -/
import Derived.Test.YtohocdbneopooaaMrgP
import Derived.Test.YtohocdbneopooaaInsSmp
import Derived.Test.YtohocdbneopooaaInsWin
import Derived.Test.YtohocdbneopooaaLabC
namespace Go.Proofs.Ytohocdbneopooaa.MR
set_option maxRecDepth 100000
open Go.RowKit

def smpT : TypeId := 86
def winT : TypeId := 89
def serT : TypeId := 85
structure SerOwn (w : World) (base : Nat) (y : Ser) : Prop where
  lab : y.lab.At w w.heap.size 2 Lbl.cells
  smp : w.ownsRow base smpT 2 y.smp.val y.smp.n (y.smp.l.flatMap Smp.cells)
  win : w.ownsRow base winT 6 y.win.val y.win.n (y.win.l.flatMap Win.cells)
  lens : y.smp.l.length = y.smp.n ∧ y.win.l.length = y.win.n
  inner : ∀ q, y.smp.val.ownBlock = some q → y.win.val.ownBlock = some q → False
  self : ∀ q, y.blk q → y.lab.Off (some q)
theorem SerOwn.lt {w : World} {base : Nat} {y : Ser} (h : SerOwn w base y) {q : Nat} (hq : y.blk q) : base ≤ q ∧ q < w.heap.size := by
  rcases hq with hq | hq
  · exact h.smp.lt q hq
  · exact h.win.lt q hq
theorem SerOwn.at_ {w : World} {base : Nat} {y : Ser} (h : SerOwn w base y) : y.At w w.heap.size := by
  obtain ⟨A, c, e, hc, hr⟩ := own_shape h.smp
  obtain ⟨A2, c2, e2, hc2, hr2⟩ := own_shape h.win
  obtain ⟨⟨Al, nl, cl, ll⟩, ⟨As, ns, cs, ls⟩, ⟨Aw, nw, cw, lw⟩⟩ := y
  simp only [Sl.val, Value.slice.injEq] at e e2
  obtain ⟨rfl, _, rfl⟩ := e
  obtain ⟨rfl, _, rfl⟩ := e2
  exact ⟨h.lab, ⟨hc, h.lens.1, hr⟩, ⟨hc2, h.lens.2, hr2⟩⟩
/-- it keeps when a block turns that is none of its own -/
theorem SerOwn.grown {w w' : World} {base : Nat} {y : Ser} {X : Option Nat} (h : SerOwn w base y) (hg : w.grownBy w' X) (hX : ∀ q, X = some q → ¬ y.blk q ∧ y.lab.Off (some q)) : SerOwn w' base y := by
  have hkeep : ∀ (v : Value), (∀ q, v.ownBlock = some q → y.blk q) → (v.ownBlock = none ∨ v.ownBlock ≠ X) := fun v hv => by
    cases hb : v.ownBlock with
    | none => exact .inl rfl
    | some q => exact .inr fun e => (hX q e.symm).1 (hv q hb)
  refine ⟨?_, h.smp.kept hg (hkeep _ fun q hq => .inl hq), h.win.kept hg (hkeep _ fun q hq => .inr hq), h.lens, h.inner, h.self⟩
  refine (h.lab.grown hg ?_ (Nat.le_refl _)).more hg.size
  cases X with
  | none => exact Sl.off_none _
  | some q => exact (hX q rfl).2
/-- a list of series of the call's own, their rows as well -/
structure MOut (w : World) (base : Nat) (v : Value) (L : List Ser) : Prop where
  row : w.ownsRow base serT 3 v L.length (serCells L)
  own : ∀ y ∈ L, SerOwn w base y
  out : ∀ y ∈ L, ∀ q, v.ownBlock = some q → ¬ y.blk q ∧ y.lab.Off (some q)
  sep : ∀ (i j : Nat) (y z : Ser), L[i]? = some y → L[j]? = some z → i ≠ j → ∀ q, y.blk q → ¬ z.blk q ∧ z.lab.Off (some q)
theorem MOut.nil (w : World) (base : Nat) : MOut w base (.slice none 0 0) [] := ⟨World.ownsRow_nil _ _ _ _, by simp, by simp, by simp⟩
theorem MOut.below {w w' : World} {base : Nat} {v : Value} {L : List Ser} (h : MOut w base v L) (hb : Below w.heap.size w w') : MOut w' base v L :=
  ⟨own_below h.row hb (Nat.le_refl _), fun y hy => (h.own y hy).grown (gb_below hb none) (fun q hq => by cases hq), h.out, h.sep⟩

/-- one of them turned: its rows, then its head -/
theorem MOut.upd {w w' w'' : World} {base i : Nat} {v : Value} {L : List Ser} {y y' : Ser} {X : Option Nat} (h : MOut w base v L) (hi : L[i]? = some y) (hg : w.grownBy w' X) (hX : ∀ q, X = some q → y.blk q) (hy : SerOwn w' base y')
    (hlab : y'.lab = y.lab) (hblk : ∀ q, y'.blk q → y.blk q ∨ w.heap.size ≤ q) (hrow : w''.ownsRow base serT 3 v L.length (serCells (L.set i y'))) (hg2 : w'.grownBy w'' v.ownBlock) : MOut w'' base v (L.set i y') := by
  have hil := (List.getElem?_eq_some_iff.1 hi).1
  have hym := List.mem_of_getElem? hi
  have hv : ∀ q, v.ownBlock = some q → q < w.heap.size := fun q hq => (h.row.lt q hq).2
  -- what each of the new list is
  have hcase : ∀ (j : Nat) (z : Ser), (L.set i y')[j]? = some z → (j = i ∧ z = y') ∨ (j ≠ i ∧ L[j]? = some z) := by
    intro j z hz
    by_cases hj : i = j
    · subst hj
      rw [List.getElem?_set_self hil] at hz
      injection hz with hz
      exact .inl ⟨rfl, hz.symm⟩
    · rw [List.getElem?_set_ne hj] at hz
      exact .inr ⟨fun e => hj e.symm, hz⟩
  have hy'out : ∀ q, v.ownBlock = some q → ¬ y'.blk q ∧ y'.lab.Off (some q) := by
    intro q hq
    refine ⟨fun hb => ?_, by rw [hlab]; exact (h.out y hym q hq).2⟩
    rcases hblk q hb with hb | hb
    · exact (h.out y hym q hq).1 hb
    · have := hv q hq; omega
  refine ⟨by rw [List.length_set]; exact hrow, fun z hz => ?_, fun z hz q hq => ?_, fun j k a b ha hb hjk q hq => ?_⟩
  · obtain ⟨j, hj⟩ := List.getElem?_of_mem hz
    rcases hcase j z hj with ⟨_, rfl⟩ | ⟨hji, hz'⟩
    · exact hy.grown hg2 hy'out
    · refine ((h.own z (List.mem_of_getElem? hz')).grown hg (fun q hq => ?_)).grown hg2 (h.out z (List.mem_of_getElem? hz'))
      exact h.sep i j y z hi hz' (fun e => hji e.symm) q (hX q hq)
  · obtain ⟨j, hj⟩ := List.getElem?_of_mem hz
    rcases hcase j z hj with ⟨_, rfl⟩ | ⟨hji, hz'⟩
    · exact hy'out q hq
    · exact h.out z (List.mem_of_getElem? hz') q hq
  · rcases hcase j a ha with ⟨hji, rfl⟩ | ⟨hji, ha'⟩
    · rcases hcase k b hb with ⟨hki, rfl⟩ | ⟨hki, hb'⟩
      · omega
      · rcases hblk q hq with hq | hq
        · exact h.sep i k y b hi hb' (by omega) q hq
        · have hbo := h.own b (List.mem_of_getElem? hb')
          exact ⟨fun hq2 => by have := (hbo.lt hq2).2; omega, hbo.lab.off hq⟩
    · rcases hcase k b hb with ⟨hki, rfl⟩ | ⟨hki, hb'⟩
      · have := h.sep j i a y ha' hi (by omega) q hq
        refine ⟨fun hq2 => ?_, by rw [hlab]; exact this.2⟩
        rcases hblk q hq2 with hq2 | hq2
        · exact this.1 hq2
        · have := ((h.own a (List.mem_of_getElem? ha')).lt hq).2
          omega
      · exact h.sep j k a b ha' hb' hjk q hq

/-- a new one, with nothing in it yet, appended -/
theorem MOut.snoc {w w' : World} {base : Nat} {v v' : Value} {L : List Ser} {y : Ser} (h : MOut w base v L) (hy : y.lab.At w w.heap.size 2 Lbl.cells) (hys : y.smp = Sl.nil) (hyw : y.win = Sl.nil) (hoff : ∀ z ∈ L, ∀ q, z.blk q → y.lab.Off (some q)) (hov : ∀ q, v.ownBlock = some q → y.lab.Off (some q))
    (hg : w.grownBy w' v.ownBlock) (hat : v'.ownBlock = v.ownBlock ∨ ∃ q, v'.ownBlock = some q ∧ w.heap.size ≤ q) (hrow : w'.ownsRow base serT 3 v' (L.length + 1) (serCells L ++ [y.lab.val, y.smp.val, y.win.val])) : MOut w' base v' (L ++ [y]) := by
  have hyb : ∀ q, ¬ y.blk q := fun q hq => by
    unfold Ser.blk at hq
    rw [hys, hyw] at hq
    rcases hq with hq | hq <;> cases hq
  have hyo : SerOwn w' base y := by
    refine ⟨(hy.grown hg ?_ (Nat.le_refl _)).more hg.size, ?_, ?_, ?_, fun q hq _ => hyb q (.inl hq), fun q hq => absurd hq (hyb q)⟩
    · cases hv : v.ownBlock with
      | none => exact Sl.off_none _
      | some q => exact hov q hv
    · rw [hys]; exact World.ownsRow_nil _ _ _ _
    · rw [hyw]; exact World.ownsRow_nil _ _ _ _
    · rw [hys, hyw]; exact ⟨rfl, rfl⟩
  have hall : ∀ z ∈ L, SerOwn w' base z := fun z hz => (h.own z hz).grown hg (h.out z hz)
  refine ⟨by rw [List.length_append, serCells_snoc]; exact hrow, fun z hz => ?_, fun z hz q hq => ?_, fun i j a b ha hb hij q hq => ?_⟩
  · rcases List.mem_append.1 hz with hz | hz
    · exact hall z hz
    · rw [List.mem_singleton.1 hz]; exact hyo
  · rcases hat with e | ⟨q2, e, hq2⟩
    · rw [e] at hq
      rcases List.mem_append.1 hz with hz | hz
      · exact h.out z hz q hq
      · rw [List.mem_singleton.1 hz]; exact ⟨hyb q, hov q hq⟩
    · rw [e] at hq
      injection hq with hq
      subst hq
      rcases List.mem_append.1 hz with hz | hz
      · have ho := h.own z hz
        exact ⟨fun hb => by have := (ho.lt hb).2; omega, ho.lab.off hq2⟩
      · rw [List.mem_singleton.1 hz]; exact ⟨hyb _, hy.off hq2⟩
  · have hbd : ∀ (k : Nat) (z : Ser), (L ++ [y])[k]? = some z → L[k]? = some z ∨ z = y := by
      intro k z hz
      rcases Nat.lt_or_ge k L.length with hk | hk
      · rw [List.getElem?_append_left hk] at hz
        exact .inl hz
      · rw [List.getElem?_append_right hk] at hz
        exact .inr (List.mem_singleton.1 (List.mem_of_getElem? hz))
    rcases hbd i a ha with ha' | rfl
    · rcases hbd j b hb with hb' | rfl
      · exact h.sep i j a b ha' hb' hij q hq
      · exact ⟨hyb q, hoff a (List.mem_of_getElem? ha') q hq⟩
    · exact absurd hq (hyb q)

/-- its samples put in another row -/
theorem SerOwn.app_smp {w w9 : World} {base n9 c9 : Nat} {A9 : Option Addr} {l9 : List Smp} {y : Ser} (h : SerOwn w base y) (hg : w.grownBy w9 y.smp.val.ownBlock) (hat : ∀ q, (Value.slice A9 n9 c9).ownBlock = some q → y.smp.val.ownBlock = some q ∨ w.heap.size ≤ q)
    (hown : w9.ownsRow base smpT 2 (.slice A9 n9 c9) n9 (l9.flatMap Smp.cells)) (hl : l9.length = n9) : SerOwn w9 base ⟨y.lab, ⟨A9, n9, c9, l9⟩, y.win⟩ ∧ ∀ q, (⟨y.lab, ⟨A9, n9, c9, l9⟩, y.win⟩ : Ser).blk q → y.blk q ∨ w.heap.size ≤ q := by
  have hb : ∀ q, (⟨y.lab, ⟨A9, n9, c9, l9⟩, y.win⟩ : Ser).blk q → y.blk q ∨ w.heap.size ≤ q := by
    rintro q (hq | hq)
    · exact (hat q hq).imp (fun e => .inl e) id
    · exact .inl (.inr hq)
  refine ⟨⟨?_, hown, ?_, ⟨hl, h.lens.2⟩, ?_, ?_⟩, hb⟩
  · refine (h.lab.grown hg ?_ (Nat.le_refl _)).more hg.size
    cases hv : y.smp.val.ownBlock with
    | none => exact Sl.off_none _
    | some q => exact h.self q (.inl hv)
  · refine h.win.kept hg ?_
    cases hv : y.win.val.ownBlock with
    | none => exact .inl rfl
    | some q => exact .inr fun e => h.inner q e.symm hv
  · intro q hq hq2
    rcases hat q hq with e | e
    · exact h.inner q e hq2
    · have := (h.win.lt q hq2).2
      omega
  · intro q hq
    rcases hb q hq with hq | hq
    · exact h.self q hq
    · exact h.lab.off hq
/-- its windows put in another row -/
theorem SerOwn.app_win {w w9 : World} {base n9 c9 : Nat} {A9 : Option Addr} {l9 : List Win} {y : Ser} (h : SerOwn w base y) (hg : w.grownBy w9 y.win.val.ownBlock) (hat : ∀ q, (Value.slice A9 n9 c9).ownBlock = some q → y.win.val.ownBlock = some q ∨ w.heap.size ≤ q)
    (hown : w9.ownsRow base winT 6 (.slice A9 n9 c9) n9 (l9.flatMap Win.cells)) (hl : l9.length = n9) : SerOwn w9 base ⟨y.lab, y.smp, ⟨A9, n9, c9, l9⟩⟩ ∧ ∀ q, (⟨y.lab, y.smp, ⟨A9, n9, c9, l9⟩⟩ : Ser).blk q → y.blk q ∨ w.heap.size ≤ q := by
  have hb : ∀ q, (⟨y.lab, y.smp, ⟨A9, n9, c9, l9⟩⟩ : Ser).blk q → y.blk q ∨ w.heap.size ≤ q := by
    rintro q (hq | hq)
    · exact .inl (.inl hq)
    · exact (hat q hq).imp (fun e => .inr e) id
  refine ⟨⟨?_, ?_, hown, ⟨h.lens.1, hl⟩, ?_, ?_⟩, hb⟩
  · refine (h.lab.grown hg ?_ (Nat.le_refl _)).more hg.size
    cases hv : y.win.val.ownBlock with
    | none => exact Sl.off_none _
    | some q => exact h.self q (.inr hv)
  · refine h.smp.kept hg ?_
    cases hv : y.smp.val.ownBlock with
    | none => exact .inl rfl
    | some q => exact .inr fun e => h.inner q hv e.symm
  · intro q hq hq2
    rcases hat q hq2 with e | e
    · exact h.inner q hq e
    · have := (h.smp.lt q hq).2
      omega
  · intro q hq
    rcases hb q hq with hq | hq
    · exact h.self q hq
    · exact h.lab.off hq

/-- an element of the list turned: its own rows first, then the cell that holds it -/
theorem MOut.put {w w' : World} {base i q g n2 cap : Nat} {L : List Ser} {rest : List Value} {y y' : Ser} {X : Option Nat} {u : Value} (h : MOut w base (.slice (some ⟨g, 0, none⟩) n2 cap) L) (hn : L.length = n2) (hi : L[i]? = some y) (hW : Whole1 w g serT (serCells L ++ rest).toArray)
    (hb : base ≤ g) (hnc : n2 ≤ cap) (hc : cap ≤ maxLen) (hs : (serCells L ++ rest).length = cap * 3) (hg : w.grownBy w' X) (hX : ∀ q, X = some q → y.blk q) (hy : SerOwn w' base y') (hlab : y'.lab = y.lab) (hblk : ∀ q, y'.blk q → y.blk q ∨ w.heap.size ≤ q) (hq : q < 3) (hcc : (Ser.cells y).set q u = Ser.cells y') :
    MOut (w'.setCell ⟨g, i * 3 + q, none⟩ u) base (.slice (some ⟨g, 0, none⟩) n2 cap) (L.set i y') := by
  have hgX : some g ≠ X := fun e => (h.out y (List.mem_of_getElem? hi) g rfl).1 (hX g e.symm)
  refine h.upd hi hg hX hy hlab hblk ?_ (gb_put (gb_refl w' _) _ _)
  have h1 := whole_put (hW.grown hg hgX) hi hq hcc
  have hl : (L.set i y').length = n2 := by rw [List.length_set]; exact hn
  have h2 : (serCells (L.set i y') ++ rest).length = cap * 3 := by
    rw [← hs, List.length_append, List.length_append]
    unfold serCells
    rw [fm_len (enc := Ser.cells) SrtSer.hk, fm_len (enc := Ser.cells) SrtSer.hk, List.length_set]
  rw [hn]
  exact own_of_whole_g (enc := Ser.cells) SrtSer.hk hb h1 hnc hc hl h2

theorem mout_lt {w : World} {base : Nat} {v : Value} {L : List Ser} (h : MOut w base v L) (q : Nat) (hq : v.ownBlock = some q ∨ ∃ y ∈ L, y.blk q) : q < w.heap.size := by
  rcases hq with hq | ⟨y, hy, hq⟩
  · exact (h.row.lt q hq).2
  · exact ((h.own y hy).lt hq).2


/-- the order of the list makes no difference -/
theorem sep_perm {R : Ser → Ser → Prop} {L M : List Ser} (h : ∀ (i j : Nat) (y z : Ser), L[i]? = some y → L[j]? = some z → i ≠ j → R y z) (p : M.Perm L) : ∀ (i j : Nat) (y z : Ser), M[i]? = some y → M[j]? = some z → i ≠ j → R y z := by
  have h1 : L.Pairwise fun y z => R y z ∧ R z y := by
    rw [List.pairwise_iff_getElem]
    intro i j hi hj hij
    exact ⟨h i j _ _ (List.getElem?_eq_getElem hi) (List.getElem?_eq_getElem hj) (by omega), h j i _ _ (List.getElem?_eq_getElem hj) (List.getElem?_eq_getElem hi) (by omega)⟩
  have h2 := h1.perm p.symm fun h => ⟨h.2, h.1⟩
  rw [List.pairwise_iff_getElem] at h2
  intro i j y z hy hz hij
  obtain ⟨hi, rfl⟩ := List.getElem?_eq_some_iff.1 hy
  obtain ⟨hj, rfl⟩ := List.getElem?_eq_some_iff.1 hz
  rcases Nat.lt_or_ge i j with hl | hl
  · exact (h2 i j hi hj hl).1
  · exact (h2 j i hj hi (by omega)).2
theorem MOut.perm {w w' : World} {base n2 cap g : Nat} {L M : List Ser} {rest : List Value} (h : MOut w base (.slice (some ⟨g, 0, none⟩) n2 cap) L) (p : M.Perm L) (hn : M.length = n2) (hgb : base ≤ g) (hW : Whole1 w' g serT (serCells M ++ rest).toArray) (hnc : n2 ≤ cap) (hc : cap ≤ maxLen) (hs : (serCells M ++ rest).length = cap * 3) (hg : w.grownBy w' (some g)) :
    MOut w' base (.slice (some ⟨g, 0, none⟩) n2 cap) M := by
  refine ⟨?_, fun y hy => (h.own y (p.mem_iff.1 hy)).grown hg (h.out y (p.mem_iff.1 hy)), fun y hy q hq => h.out y (p.mem_iff.1 hy) q hq, sep_perm h.sep p⟩
  rw [hn]
  exact own_of_whole_g (enc := Ser.cells) SrtSer.hk hgb hW hnc hc hn hs
end Go.Proofs.Ytohocdbneopooaa.MR
