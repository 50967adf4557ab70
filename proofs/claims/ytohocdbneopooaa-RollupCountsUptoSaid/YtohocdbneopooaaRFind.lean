/- A list of the reference's series of the call's own whose samples and windows are the call's own, too; the labels lie in older memory. No condition. almanacref21.find, almanacref18.Insert: what they return. Condition: the lists are within the reach. -/
import Derived.Test.YtohocdbneopooaaMrgP
import Derived.Test.YtohocdbneopooaaInsSmp
import Derived.Test.YtohocdbneopooaaInsWin
import Derived.Test.YtohocdbneopooaaLabC
import Derived.Deep.CutBlock
namespace Go.Proofs.Ytohocdbneopooaa.MR
set_option maxRecDepth 100000
open Go.RowKit

def smpT : TypeId := 86
def winT : TypeId := 89
def serT : TypeId := 85
structure SerOwn (w : World) (base : Nat) (y : Ser) : Prop where
  lab : y.lab.At w w.heap.size 2 Lbl.cells
  smp : w.ownsRow base smpT 2 y.smp.val y.smp.n (y.smp.l.flatMap Smp.cells)
  win : w.ownsRow base winT 6 y.win.val y.win.n (y.win.l.flatMap Win.cells)
  lens : y.smp.l.length = y.smp.n ∧ y.win.l.length = y.win.n
  inner : ∀ q, y.smp.val.ownBlock = some q → y.win.val.ownBlock = some q → False
  self : ∀ q, y.blk q → y.lab.Off (some q)
theorem SerOwn.lt {w : World} {base : Nat} {y : Ser} (h : SerOwn w base y) {q : Nat} (hq : y.blk q) : base ≤ q ∧ q < w.heap.size := by
  rcases hq with hq | hq
  · exact h.smp.lt q hq
  · exact h.win.lt q hq
theorem SerOwn.at_ {w : World} {base : Nat} {y : Ser} (h : SerOwn w base y) : y.At w w.heap.size := by
  obtain ⟨A, c, e, hc, hr⟩ := own_shape h.smp
  obtain ⟨A2, c2, e2, hc2, hr2⟩ := own_shape h.win
  obtain ⟨⟨Al, nl, cl, ll⟩, ⟨As, ns, cs, ls⟩, ⟨Aw, nw, cw, lw⟩⟩ := y
  simp only [Sl.val, Value.slice.injEq] at e e2
  obtain ⟨rfl, _, rfl⟩ := e
  obtain ⟨rfl, _, rfl⟩ := e2
  exact ⟨h.lab, ⟨hc, h.lens.1, hr⟩, ⟨hc2, h.lens.2, hr2⟩⟩
/-- it keeps when a block turns that is none of its own -/
theorem SerOwn.grown {w w' : World} {base : Nat} {y : Ser} {X : Option Nat} (h : SerOwn w base y) (hg : w.grownBy w' X) (hX : ∀ q, X = some q → ¬ y.blk q ∧ y.lab.Off (some q)) : SerOwn w' base y := by
  have hkeep : ∀ (v : Value), (∀ q, v.ownBlock = some q → y.blk q) → (v.ownBlock = none ∨ v.ownBlock ≠ X) := fun v hv => by
    cases hb : v.ownBlock with
    | none => exact .inl rfl
    | some q => exact .inr fun e => (hX q e.symm).1 (hv q hb)
  refine ⟨?_, h.smp.kept hg (hkeep _ fun q hq => .inl hq), h.win.kept hg (hkeep _ fun q hq => .inr hq), h.lens, h.inner, h.self⟩
  refine (h.lab.grown hg ?_ (Nat.le_refl _)).more hg.size
  cases X with
  | none => exact Sl.off_none _
  | some q => exact (hX q rfl).2
/-- a list of series of the call's own, their rows as well -/
structure MOut (w : World) (base : Nat) (v : Value) (L : List Ser) : Prop where
  row : w.ownsRow base serT 3 v L.length (serCells L)
  own : ∀ y ∈ L, SerOwn w base y
  out : ∀ y ∈ L, ∀ q, v.ownBlock = some q → ¬ y.blk q ∧ y.lab.Off (some q)
  sep : ∀ (i j : Nat) (y z : Ser), L[i]? = some y → L[j]? = some z → i ≠ j → ∀ q, y.blk q → ¬ z.blk q ∧ z.lab.Off (some q)
theorem MOut.nil (w : World) (base : Nat) : MOut w base (.slice none 0 0) [] := ⟨World.ownsRow_nil _ _ _ _, by simp, by simp, by simp⟩
theorem MOut.below {w w' : World} {base : Nat} {v : Value} {L : List Ser} (h : MOut w base v L) (hb : Below w.heap.size w w') : MOut w' base v L :=
  ⟨own_below h.row hb (Nat.le_refl _), fun y hy => (h.own y hy).grown (gb_below hb none) (fun q hq => by cases hq), h.out, h.sep⟩

/-- one of them turned: its rows, then its head -/
theorem MOut.upd {w w' w'' : World} {base i : Nat} {v : Value} {L : List Ser} {y y' : Ser} {X : Option Nat} (h : MOut w base v L) (hi : L[i]? = some y) (hg : w.grownBy w' X) (hX : ∀ q, X = some q → y.blk q) (hy : SerOwn w' base y')
    (hlab : y'.lab = y.lab) (hblk : ∀ q, y'.blk q → y.blk q ∨ w.heap.size ≤ q) (hrow : w''.ownsRow base serT 3 v L.length (serCells (L.set i y'))) (hg2 : w'.grownBy w'' v.ownBlock) : MOut w'' base v (L.set i y') := by
  have hil := (List.getElem?_eq_some_iff.1 hi).1
  have hym := List.mem_of_getElem? hi
  have hv : ∀ q, v.ownBlock = some q → q < w.heap.size := fun q hq => (h.row.lt q hq).2
  -- what each of the new list is
  have hcase : ∀ (j : Nat) (z : Ser), (L.set i y')[j]? = some z → (j = i ∧ z = y') ∨ (j ≠ i ∧ L[j]? = some z) := by
    intro j z hz
    by_cases hj : i = j
    · subst hj
      rw [List.getElem?_set_self hil] at hz
      injection hz with hz
      exact .inl ⟨rfl, hz.symm⟩
    · rw [List.getElem?_set_ne hj] at hz
      exact .inr ⟨fun e => hj e.symm, hz⟩
  have hy'out : ∀ q, v.ownBlock = some q → ¬ y'.blk q ∧ y'.lab.Off (some q) := by
    intro q hq
    refine ⟨fun hb => ?_, by rw [hlab]; exact (h.out y hym q hq).2⟩
    rcases hblk q hb with hb | hb
    · exact (h.out y hym q hq).1 hb
    · have := hv q hq; omega
  refine ⟨by rw [List.length_set]; exact hrow, fun z hz => ?_, fun z hz q hq => ?_, fun j k a b ha hb hjk q hq => ?_⟩
  · obtain ⟨j, hj⟩ := List.getElem?_of_mem hz
    rcases hcase j z hj with ⟨_, rfl⟩ | ⟨hji, hz'⟩
    · exact hy.grown hg2 hy'out
    · refine ((h.own z (List.mem_of_getElem? hz')).grown hg (fun q hq => ?_)).grown hg2 (h.out z (List.mem_of_getElem? hz'))
      exact h.sep i j y z hi hz' (fun e => hji e.symm) q (hX q hq)
  · obtain ⟨j, hj⟩ := List.getElem?_of_mem hz
    rcases hcase j z hj with ⟨_, rfl⟩ | ⟨hji, hz'⟩
    · exact hy'out q hq
    · exact h.out z (List.mem_of_getElem? hz') q hq
  · rcases hcase j a ha with ⟨hji, rfl⟩ | ⟨hji, ha'⟩
    · rcases hcase k b hb with ⟨hki, rfl⟩ | ⟨hki, hb'⟩
      · omega
      · rcases hblk q hq with hq | hq
        · exact h.sep i k y b hi hb' (by omega) q hq
        · have hbo := h.own b (List.mem_of_getElem? hb')
          exact ⟨fun hq2 => by have := (hbo.lt hq2).2; omega, hbo.lab.off hq⟩
    · rcases hcase k b hb with ⟨hki, rfl⟩ | ⟨hki, hb'⟩
      · have := h.sep j i a y ha' hi (by omega) q hq
        refine ⟨fun hq2 => ?_, by rw [hlab]; exact this.2⟩
        rcases hblk q hq2 with hq2 | hq2
        · exact this.1 hq2
        · have := ((h.own a (List.mem_of_getElem? ha')).lt hq).2
          omega
      · exact h.sep j k a b ha' hb' hjk q hq

/-- a new one, with nothing in it yet, appended -/
theorem MOut.snoc {w w' : World} {base : Nat} {v v' : Value} {L : List Ser} {y : Ser} (h : MOut w base v L) (hy : y.lab.At w w.heap.size 2 Lbl.cells) (hys : y.smp = Sl.nil) (hyw : y.win = Sl.nil) (hoff : ∀ z ∈ L, ∀ q, z.blk q → y.lab.Off (some q)) (hov : ∀ q, v.ownBlock = some q → y.lab.Off (some q))
    (hg : w.grownBy w' v.ownBlock) (hat : v'.ownBlock = v.ownBlock ∨ ∃ q, v'.ownBlock = some q ∧ w.heap.size ≤ q) (hrow : w'.ownsRow base serT 3 v' (L.length + 1) (serCells L ++ [y.lab.val, y.smp.val, y.win.val])) : MOut w' base v' (L ++ [y]) := by
  have hyb : ∀ q, ¬ y.blk q := fun q hq => by
    unfold Ser.blk at hq
    rw [hys, hyw] at hq
    rcases hq with hq | hq <;> cases hq
  have hyo : SerOwn w' base y := by
    refine ⟨(hy.grown hg ?_ (Nat.le_refl _)).more hg.size, ?_, ?_, ?_, fun q hq _ => hyb q (.inl hq), fun q hq => absurd hq (hyb q)⟩
    · cases hv : v.ownBlock with
      | none => exact Sl.off_none _
      | some q => exact hov q hv
    · rw [hys]; exact World.ownsRow_nil _ _ _ _
    · rw [hyw]; exact World.ownsRow_nil _ _ _ _
    · rw [hys, hyw]; exact ⟨rfl, rfl⟩
  have hall : ∀ z ∈ L, SerOwn w' base z := fun z hz => (h.own z hz).grown hg (h.out z hz)
  refine ⟨by rw [List.length_append, serCells_snoc]; exact hrow, fun z hz => ?_, fun z hz q hq => ?_, fun i j a b ha hb hij q hq => ?_⟩
  · rcases List.mem_append.1 hz with hz | hz
    · exact hall z hz
    · rw [List.mem_singleton.1 hz]; exact hyo
  · rcases hat with e | ⟨q2, e, hq2⟩
    · rw [e] at hq
      rcases List.mem_append.1 hz with hz | hz
      · exact h.out z hz q hq
      · rw [List.mem_singleton.1 hz]; exact ⟨hyb q, hov q hq⟩
    · rw [e] at hq
      injection hq with hq
      subst hq
      rcases List.mem_append.1 hz with hz | hz
      · have ho := h.own z hz
        exact ⟨fun hb => by have := (ho.lt hb).2; omega, ho.lab.off hq2⟩
      · rw [List.mem_singleton.1 hz]; exact ⟨hyb _, hy.off hq2⟩
  · have hbd : ∀ (k : Nat) (z : Ser), (L ++ [y])[k]? = some z → L[k]? = some z ∨ z = y := by
      intro k z hz
      rcases Nat.lt_or_ge k L.length with hk | hk
      · rw [List.getElem?_append_left hk] at hz
        exact .inl hz
      · rw [List.getElem?_append_right hk] at hz
        exact .inr (List.mem_singleton.1 (List.mem_of_getElem? hz))
    rcases hbd i a ha with ha' | rfl
    · rcases hbd j b hb with hb' | rfl
      · exact h.sep i j a b ha' hb' hij q hq
      · exact ⟨hyb q, hoff a (List.mem_of_getElem? ha') q hq⟩
    · exact absurd hq (hyb q)

/-- its samples put in another row -/
theorem SerOwn.app_smp {w w9 : World} {base n9 c9 : Nat} {A9 : Option Addr} {l9 : List Smp} {y : Ser} (h : SerOwn w base y) (hg : w.grownBy w9 y.smp.val.ownBlock) (hat : ∀ q, (Value.slice A9 n9 c9).ownBlock = some q → y.smp.val.ownBlock = some q ∨ w.heap.size ≤ q)
    (hown : w9.ownsRow base smpT 2 (.slice A9 n9 c9) n9 (l9.flatMap Smp.cells)) (hl : l9.length = n9) : SerOwn w9 base ⟨y.lab, ⟨A9, n9, c9, l9⟩, y.win⟩ ∧ ∀ q, (⟨y.lab, ⟨A9, n9, c9, l9⟩, y.win⟩ : Ser).blk q → y.blk q ∨ w.heap.size ≤ q := by
  have hb : ∀ q, (⟨y.lab, ⟨A9, n9, c9, l9⟩, y.win⟩ : Ser).blk q → y.blk q ∨ w.heap.size ≤ q := by
    rintro q (hq | hq)
    · exact (hat q hq).imp (fun e => .inl e) id
    · exact .inl (.inr hq)
  refine ⟨⟨?_, hown, ?_, ⟨hl, h.lens.2⟩, ?_, ?_⟩, hb⟩
  · refine (h.lab.grown hg ?_ (Nat.le_refl _)).more hg.size
    cases hv : y.smp.val.ownBlock with
    | none => exact Sl.off_none _
    | some q => exact h.self q (.inl hv)
  · refine h.win.kept hg ?_
    cases hv : y.win.val.ownBlock with
    | none => exact .inl rfl
    | some q => exact .inr fun e => h.inner q e.symm hv
  · intro q hq hq2
    rcases hat q hq with e | e
    · exact h.inner q e hq2
    · have := (h.win.lt q hq2).2
      omega
  · intro q hq
    rcases hb q hq with hq | hq
    · exact h.self q hq
    · exact h.lab.off hq
/-- its windows put in another row -/
theorem SerOwn.app_win {w w9 : World} {base n9 c9 : Nat} {A9 : Option Addr} {l9 : List Win} {y : Ser} (h : SerOwn w base y) (hg : w.grownBy w9 y.win.val.ownBlock) (hat : ∀ q, (Value.slice A9 n9 c9).ownBlock = some q → y.win.val.ownBlock = some q ∨ w.heap.size ≤ q)
    (hown : w9.ownsRow base winT 6 (.slice A9 n9 c9) n9 (l9.flatMap Win.cells)) (hl : l9.length = n9) : SerOwn w9 base ⟨y.lab, y.smp, ⟨A9, n9, c9, l9⟩⟩ ∧ ∀ q, (⟨y.lab, y.smp, ⟨A9, n9, c9, l9⟩⟩ : Ser).blk q → y.blk q ∨ w.heap.size ≤ q := by
  have hb : ∀ q, (⟨y.lab, y.smp, ⟨A9, n9, c9, l9⟩⟩ : Ser).blk q → y.blk q ∨ w.heap.size ≤ q := by
    rintro q (hq | hq)
    · exact .inl (.inl hq)
    · exact (hat q hq).imp (fun e => .inr e) id
  refine ⟨⟨?_, ?_, hown, ⟨h.lens.1, hl⟩, ?_, ?_⟩, hb⟩
  · refine (h.lab.grown hg ?_ (Nat.le_refl _)).more hg.size
    cases hv : y.win.val.ownBlock with
    | none => exact Sl.off_none _
    | some q => exact h.self q (.inr hv)
  · refine h.smp.kept hg ?_
    cases hv : y.smp.val.ownBlock with
    | none => exact .inl rfl
    | some q => exact .inr fun e => h.inner q hv e.symm
  · intro q hq hq2
    rcases hat q hq2 with e | e
    · exact h.inner q hq e
    · have := (h.smp.lt q hq).2
      omega
  · intro q hq
    rcases hb q hq with hq | hq
    · exact h.self q hq
    · exact h.lab.off hq

/-- an element of the list turned: its own rows first, then the cell that holds it -/
theorem MOut.put {w w' : World} {base i q g n2 cap : Nat} {L : List Ser} {rest : List Value} {y y' : Ser} {X : Option Nat} {u : Value} (h : MOut w base (.slice (some ⟨g, 0, none⟩) n2 cap) L) (hn : L.length = n2) (hi : L[i]? = some y) (hW : Whole1 w g serT (serCells L ++ rest).toArray)
    (hb : base ≤ g) (hnc : n2 ≤ cap) (hc : cap ≤ maxLen) (hs : (serCells L ++ rest).length = cap * 3) (hg : w.grownBy w' X) (hX : ∀ q, X = some q → y.blk q) (hy : SerOwn w' base y') (hlab : y'.lab = y.lab) (hblk : ∀ q, y'.blk q → y.blk q ∨ w.heap.size ≤ q) (hq : q < 3) (hcc : (Ser.cells y).set q u = Ser.cells y') :
    MOut (w'.setCell ⟨g, i * 3 + q, none⟩ u) base (.slice (some ⟨g, 0, none⟩) n2 cap) (L.set i y') := by
  have hgX : some g ≠ X := fun e => (h.out y (List.mem_of_getElem? hi) g rfl).1 (hX g e.symm)
  refine h.upd hi hg hX hy hlab hblk ?_ (gb_put (gb_refl w' _) _ _)
  have h1 := whole_put (hW.grown hg hgX) hi hq hcc
  have hl : (L.set i y').length = n2 := by rw [List.length_set]; exact hn
  have h2 : (serCells (L.set i y') ++ rest).length = cap * 3 := by
    rw [← hs, List.length_append, List.length_append]
    unfold serCells
    rw [fm_len (enc := Ser.cells) SrtSer.hk, fm_len (enc := Ser.cells) SrtSer.hk, List.length_set]
  rw [hn]
  exact own_of_whole_g (enc := Ser.cells) SrtSer.hk hb h1 hnc hc hl h2

theorem mout_lt {w : World} {base : Nat} {v : Value} {L : List Ser} (h : MOut w base v L) (q : Nat) (hq : v.ownBlock = some q ∨ ∃ y ∈ L, y.blk q) : q < w.heap.size := by
  rcases hq with hq | ⟨y, hy, hq⟩
  · exact (h.row.lt q hq).2
  · exact ((h.own y hy).lt hq).2


/-- the order of the list makes no difference -/
theorem sep_perm {R : Ser → Ser → Prop} {L M : List Ser} (h : ∀ (i j : Nat) (y z : Ser), L[i]? = some y → L[j]? = some z → i ≠ j → R y z) (p : M.Perm L) : ∀ (i j : Nat) (y z : Ser), M[i]? = some y → M[j]? = some z → i ≠ j → R y z := by
  have h1 : L.Pairwise fun y z => R y z ∧ R z y := by
    rw [List.pairwise_iff_getElem]
    intro i j hi hj hij
    exact ⟨h i j _ _ (List.getElem?_eq_getElem hi) (List.getElem?_eq_getElem hj) (by omega), h j i _ _ (List.getElem?_eq_getElem hj) (List.getElem?_eq_getElem hi) (by omega)⟩
  have h2 := h1.perm p.symm fun h => ⟨h.2, h.1⟩
  rw [List.pairwise_iff_getElem] at h2
  intro i j y z hy hz hij
  obtain ⟨hi, rfl⟩ := List.getElem?_eq_some_iff.1 hy
  obtain ⟨hj, rfl⟩ := List.getElem?_eq_some_iff.1 hz
  rcases Nat.lt_or_ge i j with hl | hl
  · exact (h2 i j hi hj hl).1
  · exact (h2 j i hj hi (by omega)).2
theorem MOut.perm {w w' : World} {base n2 cap g : Nat} {L M : List Ser} {rest : List Value} (h : MOut w base (.slice (some ⟨g, 0, none⟩) n2 cap) L) (p : M.Perm L) (hn : M.length = n2) (hgb : base ≤ g) (hW : Whole1 w' g serT (serCells M ++ rest).toArray) (hnc : n2 ≤ cap) (hc : cap ≤ maxLen) (hs : (serCells M ++ rest).length = cap * 3) (hg : w.grownBy w' (some g)) :
    MOut w' base (.slice (some ⟨g, 0, none⟩) n2 cap) M := by
  refine ⟨?_, fun y hy => (h.own y (p.mem_iff.1 hy)).grown hg (h.out y (p.mem_iff.1 hy)), fun y hy q hq => h.out y (p.mem_iff.1 hy) q hq, sep_perm h.sep p⟩
  rw [hn]
  exact own_of_whole_g (enc := Ser.cells) SrtSer.hk hgb hW hnc hc hn hs
end Go.Proofs.Ytohocdbneopooaa.MR

namespace Go.Proofs.Ytohocdbneopooaa.MR
set_option maxRecDepth 100000
open Go.RowKit Go.Shelf

/-- where the series with these labels stands -/
def Found (L : List Ser) (k : List Lbl) (r : Int) : Prop := (∃ (i : Nat) (y : Ser), r = i ∧ L[i]? = some y ∧ y.lab.l = k) ∨ (r = -1 ∧ ∀ y ∈ L, y.lab.l ≠ k)
def FindRes (L : List Ser) (k : List Lbl) (w : World) (e : Ending) (w' : World) : Prop :=
  ∃ (q : Nat) (r : Int), w' = w.drewN q ∧ e = .returned (.int .i64 r) ∧ Found L k r
theorem findRes_yes {L : List Ser} {k : List Lbl} {w : World} {i : Nat} {y : Ser} (q : Nat) (h : L[i]? = some y) (hk : y.lab.l = k) : FindRes L k w (.returned (.int .i64 i)) (w.drewN q) := ⟨q, i, rfl, rfl, .inl ⟨i, y, rfl, h, hk⟩⟩
theorem findRes_no {L : List Ser} {k : List Lbl} {w : World} (q : Nat) (h : ∀ y ∈ L, y.lab.l ≠ k) : FindRes L k w (.returned (.int .i64 (-1))) (w.drewN q) := ⟨q, -1, rfl, rfl, .inr ⟨rfl, h⟩⟩

set_option maxHeartbeats 3200000 in
theorem find_any (A : Option Addr) (n c : Nat) (L : List Ser) (s : Sl Lbl) (w : World) (b : Nat) (hr : Row w b 3 A n (serCells L)) (hl : L.length = n) (hlab : ∀ z ∈ L, z.lab.At w b 2 Lbl.cells) (hs : s.At w b 2 Lbl.cells) (hn : n ≤ 4611686018427387904) (hln : ∀ z ∈ L, z.lab.n ≤ 4611686018427387904) :
    Calls Try.prog 70 #[.slice A n c, .slice s.A s.n s.c] w (FindRes L s.l w) := by
  have HR := hidden hr
  have HL := hidden hl
  have HLAB := hidden hlab
  have HSA := hidden hs
  have HLN := hidden hln
  clear hr hl hlab hs hln
  go_enter Try.func70, Try.ntmps70
  go_wp2_with fail
  go_loopw [5] (fun vi wr => ∃ k : Nat, vi = .int .i64 k ∧ k ≤ n ∧ Hid (∀ y ∈ L.take k, y.lab.l ≠ s.l) ∧ ∃ q, wr = w.drewN q) (fun vi _ => n - (intOf vi).toNat)
  case atStart => exact ⟨0, rfl, Nat.zero_le _, hidden (by simp), 0, rfl⟩
  case round =>
    obtain ⟨k, rfl, hk, hno, q, rfl⟩ := hrel
    by_cases hlt : k < n
    · obtain ⟨g, o, x, hA, hg, hx, hc⟩ := row_at (enc := Ser.cells) SrtSer.hk HR.out HL.out k hlt
      subst hA
      have d0 : w.cell? ⟨g, o + k * 3, none⟩ = some (.slice x.lab.A x.lab.n x.lab.c) := hc 0 (by omega)
      have hk0 : (0 : Int) ≤ (k : Int) := by omega
      have hkz : (k : Int) < (n : Int) := by omega
      have HX := hidden hx
      have HS1 := hidden fun q => rcompare_any x.lab.A s.A x.lab.n s.n x.lab.c s.c x.lab.l s.l (w.drewN q) b b ((HLAB.out x (List.mem_of_getElem? hx)).2.2.drewN q) (HSA.out.2.2.drewN q) (HLAB.out x (List.mem_of_getElem? hx)).2.1 HSA.out.2.1 (HLN.out x (List.mem_of_getElem? hx))
      clear hx hc
      go_wp2_with fail
      refine (HS1.out _).mono ?_
      rintro e w' ⟨rfl, q2, rfl⟩
      by_cases hz : cmpLs x.lab.l s.l = 0
      · have hxs := hidden ((cmpLs_zero _ _).1 hz)
        rw [hz]
        clear hz
        go_wp2_with fail
        go_ret
        exact findRes_yes _ HX.out hxs.out
      · have hxs : Hid (∀ y ∈ L.take (k + 1), y.lab.l ≠ s.l) := hidden (by
          intro y hy
          rw [take_snoc? HX.out] at hy
          rcases List.mem_append.1 hy with hy | hy
          · exact hno.out y hy
          · rw [List.mem_singleton.1 hy]
            exact fun e => hz ((cmpLs_zero _ _).2 e))
        have hb : (cmpLs x.lab.l s.l == 0) = false := by simpa using hz
        clear hz
        go_wp2_with fail
        go_roundw
        case rel => exact ⟨k + 1, by go_num, by omega, hxs, _, rfl⟩
        case measure => simp [intOf]; omega
    · go_wp2_with fail
      go_ret
      refine findRes_no _ ?_
      have := hno.out
      rwa [List.take_of_length_le (by have := HL.out; omega)] at this

theorem put_perm {α : Type} (L : List α) (k : Nat) (x : α) : (L.take k ++ x :: L.drop k).Perm (L ++ [x]) := by
  refine List.perm_middle.trans ?_
  rw [List.take_append_drop]
  exact (List.perm_append_singleton x L).symm
/-- one series more, in its place -/
def InsR (base : Nat) (v : Value) (L : List Ser) (x : Ser) (w : World) (e : Ending) (w' : World) : Prop :=
  ∃ (v' : Value) (k : Nat), e = .returned v' ∧ k ≤ L.length ∧ ((L.take k ++ x :: L.drop k).Pairwise fun a b => cmpLs a.lab.l b.lab.l < 0) ∧ MOut w' base v' (L.take k ++ x :: L.drop k) ∧ w.grownBy w' v.ownBlock ∧ ∀ q, v'.ownBlock = some q → v.ownBlock = some q ∨ w.heap.size ≤ q
theorem insR_mk {base k : Nat} {v v' : Value} {L : List Ser} {x : Ser} {w w' : World} (h1 : k ≤ L.length) (h2 : (L.take k ++ x :: L.drop k).Pairwise fun a b => cmpLs a.lab.l b.lab.l < 0) (h3 : MOut w' base v' (L.take k ++ x :: L.drop k)) (h4 : w.grownBy w' v.ownBlock) (h5 : ∀ q, v'.ownBlock = some q → v.ownBlock = some q ∨ w.heap.size ≤ q) : InsR base v L x w (.returned v') w' := ⟨v', k, rfl, h1, h2, h3, h4, h5⟩
theorem put_sorted {L : List Ser} (hs : L.Pairwise fun a b => cmpLs a.lab.l b.lab.l < 0) {x : Ser} {k : Nat} (hlo : ∀ y ∈ L.take k, cmpLs y.lab.l x.lab.l < 0) (hhi : ∀ y ∈ L.drop k, cmpLs x.lab.l y.lab.l < 0) : (L.take k ++ x :: L.drop k).Pairwise fun a b => cmpLs a.lab.l b.lab.l < 0 := by
  rw [← List.take_append_drop k L, List.pairwise_append] at hs
  rw [List.pairwise_append, List.pairwise_cons]
  refine ⟨hs.1, ⟨hhi, hs.2.1⟩, fun a ha b hb => ?_⟩
  rcases List.mem_cons.1 hb with rfl | hb
  · exact hlo a ha
  · exact hs.2.2 a ha b hb
theorem lab_below {L : List Ser} (hs : L.Pairwise fun a b => cmpLs a.lab.l b.lab.l < 0) {k : Nat} {x y : Ser} (hy : L[k]? = some y) (h : cmpLs y.lab.l x.lab.l < 0) : ∀ z ∈ L.take (k + 1), cmpLs z.lab.l x.lab.l < 0 := by
  intro z hz
  rw [take_snoc? hy] at hz
  rcases List.mem_append.1 hz with hz | hz
  · rw [← List.take_append_drop k L, List.pairwise_append, InsSmp.dropAt hy] at hs
    exact lt_tr (hs.2.2 z hz y (List.mem_cons_self ..)) h
  · rw [List.mem_singleton.1 hz]; exact h
theorem shift_swap (L : List Ser) {j : Nat} {z : Ser} (hz : L[j]? = some z) (x : Ser) : ((L.take (j + 1) ++ x :: L.drop (j + 1)).set (j + 1) z).set j x = L.take j ++ x :: L.drop j := by
  obtain ⟨h1, h2⟩ := List.getElem?_eq_some_iff.1 hz
  rw [List.set_append_right _ _ (by rw [List.length_take]; omega), List.length_take, Nat.min_eq_left (by omega), Nat.sub_self, List.set_cons_zero, List.take_succ_eq_append_getElem h1, h2, List.append_assoc, List.set_append_right _ _ (by rw [List.length_take]; omega), List.length_take, Nat.min_eq_left (by omega), Nat.sub_self, InsSmp.dropAt hz]
  rfl

set_option maxHeartbeats 12800000 in
theorem insert_any (base b : Nat) (v : Value) (L : List Ser) (s : Sl Lbl) (w : World) (hM : MOut w base v L) (hs : L.Pairwise fun a b => cmpLs a.lab.l b.lab.l < 0) (hne : ∀ z ∈ L, z.lab.l ≠ s.l) (hsA : s.At w b 2 Lbl.cells) (hlab : ∀ z ∈ L, z.lab.At w b 2 Lbl.cells) (hb : b ≤ base) (hbase : base ≤ w.heap.size) (hn : L.length ≤ 1099511627776) (hln : ∀ z ∈ L, z.lab.n ≤ 4611686018427387904) (hsn : s.n ≤ 4611686018427387904) :
    Calls Try.prog 71 #[v, .agg #[.slice s.A s.n s.c, .slice none 0 0, .slice none 0 0]] w (InsR base v L ⟨s, Sl.nil, Sl.nil⟩ w) := by
  obtain ⟨i0, hi, hz0, hz1, hz2⟩ := info_parts info_rser
  obtain ⟨A, c, rfl, hnc, hr⟩ := own_shape hM.row
  obtain ⟨n, hnL⟩ : ∃ n, L.length = n := ⟨_, rfl⟩
  rw [hnL] at hnc hr hn ⊢
  have HM : Hid (MOut w base (.slice A n c) L) := hidden (by rw [← hnL]; exact hM)
  have HL := hidden hnL
  have HS := hidden hs
  have HNE := hidden hne
  have HSA := hidden hsA
  have HLAB := hidden hlab
  have HLN := hidden hln
  have HROW : Hid (w.ownsRow base serT 3 (.slice A n c) n (serCells L)) := hidden (by have := HM.out.row; rw [hnL] at this; exact this)
  clear hM hs hne hsA hlab hr hln hnL
  go_enter Try.func71, Try.ntmps71
  go_upto_region 1 with (fail)
  have hX := Whole1.new w 85 #[.slice s.A s.n s.c, .slice none 0 0, .slice none 0 0]
  have hbX : Below w.heap.size w (w.alloc (.cells #[.slice s.A s.n s.c, .slice none 0 0, .slice none 0 0] 85)) := (Below.refl _ _).alloc (Nat.le_refl _) _
  generalize w.alloc (.cells #[.slice s.A s.n s.c, .slice none 0 0, .slice none 0 0] 85) = wX at hX hbX ⊢
  obtain ⟨X, hXe⟩ : ∃ X, w.heap.size = X := ⟨_, rfl⟩
  rw [hXe] at hX ⊢
  have hXl := hX.lt
  have d0 := hX.cell 0
  have d1 := hX.cell 1
  have d2 := hX.cell 2
  have HMX := hidden (HM.out.below hbX)
  have HROX := hidden (own_below HROW.out hbX (Nat.le_refl _))
  have HBX := hidden hbX
  have HXX := hidden hX
  have HXE := hidden hXe
  have hsX := hbX.size
  have hfr := Row.fresh wX 85 3 1 [.slice s.A s.n s.c, .slice none 0 0, .slice none 0 0] rfl
  clear hX hbX hXe
  go_upto_block 0 with (at_builtin; refine wpList_app _ rfl _ _ 25 rfl base 85 i0 _ 3 72 Try.underlying25 hi hz0 hz1 hz2 rfl (by decide) _ _ _ rfl (HROX.out.alloc _) _ _ _ _ _ rfl hfr (by simp [Value.oneCell']) (by unfold maxLen; omega) (by omega) (by simp; omega) ?_; intro v9 w9 hown9 hg9 hat9; obtain ⟨A9, c9, rfl, hc9, hr9⟩ := own_shape hown9)
  have hsn : serCells L ++ [.slice s.A s.n s.c, .slice none 0 0, .slice none 0 0] = serCells (L ++ [⟨s, Sl.nil, Sl.nil⟩]) := (serCells_snoc L ⟨s, Sl.nil, Sl.nil⟩).symm
  rw [hsn] at hown9
  obtain ⟨g9, cap9, rest9, hv9, hgb9, hW9, hnc9, hcap9, hm9, hm92⟩ := own_whole_g SrtSer.hk hown9 (by omega)
  injection hv9 with hv91 hv92 hv93
  subst hv91
  subst hv93
  clear hv92
  have HG9 : Hid (w.grownBy w9 (Value.slice A n c).ownBlock) := hidden (gb_trans (gb_alloc (gb_below HBX.out _) _) hg9)
  have HQ9 : Hid (∀ q, (Value.slice (some (⟨g9, 0, none⟩ : Addr)) (n + 1) c9).ownBlock = some q → (Value.slice A n c).ownBlock = some q ∨ w.heap.size ≤ q) := hidden (fun q hq => by
    rcases hat9 with h | h
    · exact .inl (h.symm.trans hq)
    · have h := h.symm.trans hq
      injection h with h
      refine .inr ?_
      have := HXE.out
      simp only [World.size_alloc] at h
      omega)
  have hbA : Below wX.heap.size wX (wX.alloc (.cells #[.slice s.A s.n s.c, .slice none 0 0, .slice none 0 0] 85)) := (Below.refl _ _).alloc (Nat.le_refl _) _
  have HM9 : Hid (MOut w9 base (.slice (some (⟨g9, 0, none⟩ : Addr)) (n + 1) c9) (L ++ [⟨s, Sl.nil, Sl.nil⟩])) := hidden (by
    have hX1 := HMX.out.below hbA
    have hsAX : s.At (wX.alloc (.cells #[.slice s.A s.n s.c, .slice none 0 0, .slice none 0 0] 85)) b 2 Lbl.cells := ((HSA.out.below (HBX.out.mono (by omega))).below (hbA.mono (by omega)))
    refine hX1.snoc (y := ⟨s, Sl.nil, Sl.nil⟩) (hsAX.more (by have := hbA.size; omega)) rfl rfl (fun z hz q hq => hsAX.off (by have := ((hX1.own z hz).lt hq).1; omega)) (fun q hq => hsAX.off (by have := (hX1.row.lt q hq).1; omega)) hg9 (hat9.imp id fun h => ⟨_, h, Nat.le_refl _⟩) ?_
    rw [HL.out, ← serCells_snoc]
    exact hown9)
  have HB9 : Hid (Below base w w9) := hidden (((Below.refl w.heap.size w).mono hbase).grown HG9.out hbase (fun q hq => (HROW.out.lt q hq).1))
  have HW9 := hidden hW9
  have HC9 := hidden hm92
  have hs9 : wX.heap.size ≤ w9.heap.size := by have := hg9.size; simp only [World.size_alloc] at this; omega
  clear hown9 hg9 hat9 hW9 hfr hr9 hm9 hm92 hbA hsn d0 d1 d2
  go_cut [5] (fun vi wx => ∃ j : Nat, j ≤ n ∧ Hid ((L.take j ++ ⟨s, Sl.nil, Sl.nil⟩ :: L.drop j).Pairwise fun a b => cmpLs a.lab.l b.lab.l < 0) ∧ Hid (Whole1 wx g9 85 (serCells (L.take j ++ ⟨s, Sl.nil, Sl.nil⟩ :: L.drop j) ++ rest9).toArray) ∧ Hid (w9.grownBy wx (some g9)))
  case first =>
    go_wp2_with fail
    go_loopw [5] (fun vi wr => ∃ j : Nat, vi = .int .i64 j ∧ j ≤ n ∧ Hid (∀ z ∈ L.drop j, cmpLs s.l z.lab.l < 0) ∧ Hid (Whole1 wr g9 85 (serCells (L.take j ++ ⟨s, Sl.nil, Sl.nil⟩ :: L.drop j) ++ rest9).toArray) ∧ Hid (w9.grownBy wr (some g9))) (fun vi _ => (intOf vi).toNat)
    case atStart => exact ⟨n, rfl, Nat.le_refl _, hidden (by rw [List.drop_of_length_le (by have := HL.out; omega)]; simp), hidden (by rw [List.take_of_length_le (by have := HL.out; omega), List.drop_of_length_le (by have := HL.out; omega)]; exact HW9.out), hidden (gb_refl _ _)⟩
    case round =>
      obtain ⟨j, rfl, hjn, hhi, hWj, hgj⟩ := hrel
      by_cases hlt : 0 < j
      · obtain ⟨j', rfl⟩ : ∃ j', j = j' + 1 := ⟨j - 1, by omega⟩
        obtain ⟨z, hz⟩ : ∃ z, L[j']? = some z := ⟨_, List.getElem?_eq_getElem (by have := HL.out; omega)⟩
        have hzj : (L.take (j' + 1) ++ (⟨s, Sl.nil, Sl.nil⟩ : Ser) :: L.drop (j' + 1))[j']? = some z := by
          rw [List.getElem?_append_left (by rw [List.length_take, HL.out]; omega), List.getElem?_take, if_pos (by omega)]; exact hz
        have hxj : (L.take (j' + 1) ++ (⟨s, Sl.nil, Sl.nil⟩ : Ser) :: L.drop (j' + 1))[j' + 1]? = some ⟨s, Sl.nil, Sl.nil⟩ := by
          rw [List.getElem?_append_right (by rw [List.length_take]; omega), List.length_take, HL.out, Nat.min_eq_left (by omega), Nat.sub_self]; rfl
        obtain ⟨e0, e1, e2⟩ := ser_whole hWj.out hzj
        obtain ⟨d0, d1, d2⟩ := ser_whole hWj.out hxj
        simp only [Sl.val, Sl.nil] at e0 e1 e2 d0 d1 d2
        have b1 : IntKind.i64.wrap (((j' + 1 : Nat) : Int) - 1) = (j' : Int) := by rw [IntKind.wrap_i64]; omega
        have b2 : (j' : Int) < ((n + 1 : Nat) : Int) := by omega
        have b3 : (0 : Int) ≤ (j' : Int) := by omega
        have b4 : ((j' + 1 : Nat) : Int) < ((n + 1 : Nat) : Int) := by omega
        have b5 : j' < n + 1 := by omega
        have b6 : j' + 1 < n + 1 := by omega
        have b7 : (0 : Int) < ((j' + 1 : Nat) : Int) := by omega
        have hzm := List.mem_of_getElem? hz
        have hbr : Below base w wr := HB9.out.grown hgj.out (by omega) (fun q hq => by injection hq with hq; omega)
        have S1 : Hid (∀ q, Calls Try.prog 46 #[.slice s.A s.n s.c, .slice z.lab.A z.lab.n z.lab.c] (wr.drewN q) fun e w' => e = .returned (.int .i64 (cmpLs s.l z.lab.l)) ∧ ∃ q', w' = (wr.drewN q).drewN q') := hidden fun q =>
          rcompare_any s.A z.lab.A s.n z.lab.n s.c z.lab.c s.l z.lab.l (wr.drewN q) b b ((HSA.out.below (hbr.mono hb)).2.2.drewN q) (((HLAB.out z hzm).below (hbr.mono hb)).2.2.drewN q) HSA.out.2.1 (HLAB.out z hzm).2.1 hsn
        have HBR := hidden hbr
        have HZJ := hidden hzj
        have HXJ := hidden hxj
        clear hbr
        have HZ := hidden hz
        clear hz hzj hxj
        go_wp2_with fail
        go_quiet ((go_at_call 46; refine Calls.quiet_of (S1.out _)))
        rename_i nq
        have hWq := hWj.out.drewN nq
        have hgq := gb_drewN hgj.out nq
        generalize wr.drewN nq = wq at hWq hgq ⊢
        clear e0 e1 e2 d0 d1 d2 hWj hgj S1 HBR
        by_cases hc : cmpLs s.l z.lab.l < 0
        · have hcn : ¬ (0 : Int) ≤ cmpLs s.l z.lab.l := by omega
          have HC := hidden hc
          clear hc
          generalize cmpLs s.l z.lab.l = cc at hcn ⊢
          obtain ⟨e0, e1, e2⟩ := ser_whole hWq HZJ.out
          obtain ⟨d0, d1, d2⟩ := ser_whole hWq HXJ.out
          simp only [Sl.val, Sl.nil] at e0 e1 e2 d0 d1 d2
          have HWQ := hidden hWq
          have HGQ := hidden hgq
          clear hWq hgq
          go_upto_region 8 with (fail)
          have hY := Whole1.new wq 85 #[.slice s.A s.n s.c, .slice none 0 0, .slice none 0 0]
          have hWY := HWQ.out.alloc (.cells #[.slice s.A s.n s.c, .slice none 0 0, .slice none 0 0] 85)
          have hgY := gb_alloc HGQ.out (.cells #[.slice s.A s.n s.c, .slice none 0 0, .slice none 0 0] 85)
          have hgY9 : g9 < wq.heap.size := HWQ.out.lt
          generalize wq.alloc (.cells #[.slice s.A s.n s.c, .slice none 0 0, .slice none 0 0] 85) = wY at hY hWY hgY ⊢
          obtain ⟨Y, hYe⟩ : ∃ Y, wq.heap.size = Y := ⟨_, rfl⟩
          rw [hYe] at hY hgY9 ⊢
          clear hYe e0 e1 e2 d0 d1 d2 HWQ HGQ
          obtain ⟨e0, e1, e2⟩ := ser_whole hWY HZJ.out
          obtain ⟨d0, d1, d2⟩ := ser_whole hWY HXJ.out
          simp only [Sl.val, Sl.nil] at e0 e1 e2 d0 d1 d2
          have f0 := hWY.free ((j' + 1) * 3)
          have f1 := hWY.free ((j' + 1) * 3 + 1)
          have f2 := hWY.free ((j' + 1) * 3 + 2)
          have HWY := hidden hWY
          have HY := hidden hY
          have HGY := hidden hgY
          clear hWY hY hgY
          go_upto_region 9 with (fail)
          have hlz : (L.take (j' + 1) ++ (⟨s, Sl.nil, Sl.nil⟩ : Ser) :: L.drop (j' + 1)).length = n + 1 := by rw [List.length_append, List.length_cons, List.length_take, List.length_drop, HL.out]; omega
          have hWZ := puts_elem SrtSer.hk HWY.out (i := j' + 1) (by omega) z
          have hgZ := gb_trans HGY.out (puts_gb (g := g9) z.cells ((j' + 1) * 3) wY)
          have hYZ : Whole1 (wY.setCells g9 ((j' + 1) * 3) z.cells) Y 85 #[.slice s.A s.n s.c, .slice none 0 0, .slice none 0 0] := HY.out.grown (puts_gb (g := g9) z.cells ((j' + 1) * 3) wY) (fun e => by injection e with e; omega)
          simp only [Ser.cells, World.setCells, Sl.val] at hWZ hgZ hYZ
          rw [show (j' + 1) * 3 + 1 + 1 = (j' + 1) * 3 + 2 from rfl] at hWZ hgZ hYZ
          generalize ((wY.setCell ⟨g9, (j' + 1) * 3, none⟩ (.slice z.lab.A z.lab.n z.lab.c)).setCell ⟨g9, (j' + 1) * 3 + 1, none⟩ (.slice z.smp.A z.smp.n z.smp.c)).setCell ⟨g9, (j' + 1) * 3 + 2, none⟩ (.slice z.win.A z.win.n z.win.c) = wZ at hWZ hgZ hYZ ⊢
          have hlz2 : j' < ((L.take (j' + 1) ++ (⟨s, Sl.nil, Sl.nil⟩ : Ser) :: L.drop (j' + 1)).set (j' + 1) z).length := by rw [List.length_set]; omega
          have hWF0 := puts_elem SrtSer.hk hWZ hlz2 ⟨s, Sl.nil, Sl.nil⟩
          rw [shift_swap L HZ.out] at hWF0
          have HWF := hidden hWF0
          obtain ⟨zz, hzz⟩ : ∃ zz, ((L.take (j' + 1) ++ (⟨s, Sl.nil, Sl.nil⟩ : Ser) :: L.drop (j' + 1)).set (j' + 1) z)[j']? = some zz := ⟨_, List.getElem?_eq_getElem hlz2⟩
          obtain ⟨a0, a1, a2⟩ := ser_whole hWZ hzz
          have y0 := hYZ.cell 0
          have y1 := hYZ.cell 1
          have y2 := hYZ.cell 2
          have f0 := hWZ.free (j' * 3)
          have f1 := hWZ.free (j' * 3 + 1)
          have f2 := hWZ.free (j' * 3 + 2)
          have HGF := hidden (gb_trans hgZ (puts_gb (g := g9) (Ser.cells ⟨s, Sl.nil, Sl.nil⟩) (j' * 3) wZ))
          have HHI : Hid (∀ y ∈ L.drop j', cmpLs s.l y.lab.l < 0) := hidden (by
            intro y hy
            rw [InsSmp.dropAt HZ.out] at hy
            rcases List.mem_cons.1 hy with rfl | hy
            · exact HC.out
            · exact hhi.out y hy)
          clear hWZ hgZ hYZ hlz hlz2 hhi hzz hWF0
          go_wp2_with fail
          go_roundw
          case rel =>
            refine ⟨j', by go_num, by omega, HHI, ?_, HGF⟩
            exact HWF
          case measure => simp [intOf]
        · have hcn : (0 : Int) ≤ cmpLs s.l z.lab.l := by omega
          have HPS := hidden (put_sorted (x := ⟨s, Sl.nil, Sl.nil⟩) HS.out (lab_below (x := ⟨s, Sl.nil, Sl.nil⟩) HS.out HZ.out (by
            rcases lt_tri s.l z.lab.l with h | h | h
            · exact absurd h hc
            · exact absurd h.symm (HNE.out z (List.mem_of_getElem? HZ.out))
            · exact h)) hhi.out)
          have HWQ := hidden hWq
          have HGQ := hidden hgq
          clear hc hWq hgq
          generalize cmpLs s.l z.lab.l = cc at hcn ⊢
          go_wp2_with fail
          go_meet
          exact ⟨j' + 1, hjn, HPS, HWQ, HGQ⟩
      · have b1 : ¬ (0 : Int) < (j : Int) := by omega
        go_wp2_with fail
        go_meet
        have hj0 : j = 0 := by omega
        exact ⟨j, hjn, hidden (put_sorted HS.out (by rw [hj0]; simp) hhi.out), hWj, hgj⟩
  case rest =>
    obtain ⟨j, hjn, hsj, hWj, hgj⟩ := hcut
    go_wp2_with fail
    go_ret
    have hlen : (L.take j ++ (⟨s, Sl.nil, Sl.nil⟩ : Ser) :: L.drop j).length = n + 1 := by rw [List.length_append, List.length_cons, List.length_take, List.length_drop, HL.out]; omega
    have hMF := HM9.out.perm (M := L.take j ++ ⟨s, Sl.nil, Sl.nil⟩ :: L.drop j) (put_perm L j _) hlen hgb9 hWj.out hnc9 hcap9 (by
      have := HC9.out
      unfold serCells at this ⊢
      rw [List.length_append, fm_len SrtSer.hk, List.length_append, List.length_singleton, HL.out] at this
      rw [List.length_append, fm_len SrtSer.hk, hlen]
      exact this) hgj.out
    exact insR_mk (by have := HL.out; omega) hsj.out hMF (InsSmp.gb_join HG9.out hgj.out (HQ9.out g9 rfl)) HQ9.out
end Go.Proofs.Ytohocdbneopooaa.MR
