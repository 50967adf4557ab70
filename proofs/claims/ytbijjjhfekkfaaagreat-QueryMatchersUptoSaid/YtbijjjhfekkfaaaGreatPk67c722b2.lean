/- What once leaves is no longer than what came in. No condition. merge.Merge: series put together by their labels, plainly; a list of series of the call's own of which one turns. No condition. -/
import Derived.Test.YtbijjjhfekkfaaaGreatPk7288b49c
import Derived.Test.YtbijjjhfekkfaaaGreatPkcc2c5a67
import Derived.Test.YtbijjjhfekkfaaaGreatPkbccc1c44
import Derived.Test.YtbijjjhfekkfaaaGreatPkeb949a40
import Derived.Test.YtbijjjhfekkfaaaGreatPkeab15ca0
namespace Go.Proofs.YtbijjjhfekkfaaaGreat

theorem keys_len {α : Type} (t : α → Int) : ∀ (R l : List α), (R.Pairwise fun x y => t x < t y) → (∀ y ∈ R, ∃ z ∈ l, t z = t y) → R.length ≤ l.length
  | [], _, _, _ => Nat.zero_le _
  | x :: R, l, hp, hk => by
    rw [List.pairwise_cons] at hp
    obtain ⟨z, hz, hzx⟩ := hk x (List.mem_cons_self ..)
    have h1 : (l.filter fun u => decide (t u ≠ t x)).length < l.length := List.length_filter_lt_length_iff_exists.2 ⟨z, hz, by simp [hzx]⟩
    have h2 := keys_len t R (l.filter fun u => decide (t u ≠ t x)) hp.2 (fun y hy => by
      obtain ⟨u, hu, huy⟩ := hk y (List.mem_cons_of_mem _ hy)
      have := hp.1 y hy
      exact ⟨u, List.mem_filter.2 ⟨hu, by simp; omega⟩, huy⟩)
    rw [List.length_cons]
    omega
theorem find_key {α : Type} (t : α → Int) {R l : List α} (h : ∀ k : Int, R.find? (fun x => t x == k) = l.find? (fun x => t x == k)) : ∀ y ∈ R, ∃ z ∈ l, t z = t y := by
  intro y hy
  cases hf : R.find? (fun x => t x == t y) with
  | none => exact absurd (List.find?_eq_none.1 hf y hy) (by simp)
  | some z =>
    have hf2 := hf
    rw [h] at hf2
    exact ⟨z, List.mem_of_find?_eq_some hf2, by have := List.find?_some hf; simpa using this⟩
theorem onceS_len {l R : List Smp} (h : OncSmp.Once l R) : R.length ≤ l.length := keys_len Smp.t R l h.1 (find_key Smp.t h.2)
theorem onceW_len {l R : List Win} (h : OncWin.Once l R) : R.length ≤ l.length := keys_len Win.start R l h.1 (find_key Win.start h.2)
end Go.Proofs.YtbijjjhfekkfaaaGreat

namespace Go.Proofs.YtbijjjhfekkfaaaGreat
set_option maxRecDepth 100000
open Go.RowKit Go.Shelf

/-- what a series shows -/
abbrev SK := List Lbl × List Smp × List Win
def Ser.sk (x : Ser) : SK := (x.lab.l, x.smp.l, x.win.l)
/-- put to the one before it, if that has its labels -/
def addK (K : List SK) (s : SK) : List SK :=
  match K.getLast? with
  | none => [s]
  | some z => if cmpLs z.1 s.1 = 0 then K.dropLast ++ [(z.1, z.2.1 ++ s.2.1, z.2.2 ++ s.2.2)] else K ++ [s]
def groupK (l : List Ser) : List SK := l.foldl (fun K x => addK K x.sk) []
theorem groupK_snoc (l : List Ser) (x : Ser) : groupK (l ++ [x]) = addK (groupK l) x.sk := by simp [groupK]
/-- how many samples and windows -/
def wsum (l : List Ser) : Nat := (l.map fun x => x.smp.n + x.win.n).sum
theorem wsum_snoc (l : List Ser) (x : Ser) : wsum (l ++ [x]) = wsum l + (x.smp.n + x.win.n) := by simp [wsum]
theorem wsum_take (l : List Ser) (k : Nat) : wsum (l.take k) ≤ wsum l := by
  unfold wsum
  have h : (l.map fun x => x.smp.n + x.win.n).sum = ((l.take k).map fun x => x.smp.n + x.win.n).sum + ((l.drop k).map fun x => x.smp.n + x.win.n).sum := by rw [← List.sum_append, ← List.map_append, List.take_append_drop]
  omega

section
variable {P : Program} (w : World)
theorem step_app {ops : Array Oper} {o : Oper} {a : Act} {K : Act → World → Prop} {Q : Exit → Act → World → Prop} {E : Prop} (hgd : o.guard = none) (s x : Operand) (t : TypeId)
    (ho : o.op = .call { callee := .builtin .append, args := #[s, x], argTypes := #[t, t] })
    (base : Nat) (e : TypeId) (i : TypeInfo) (z : Value) (size bytes : Nat) (ht : P.underlying t = some (.slice e)) (hi : P.info? e = some i) (hz : i.zero = some z)
    (hsize : i.size = size) (hby : i.bytes = bytes) (hzs : z.cells.size = size) (hsz : 0 < size)
    (v : Value) (n : Nat) (xs : List Value) (hs : a.eval s = v) (hown : w.ownsRow base e size v n xs)
    (B : Nat) (A : Option Addr) (m c : Nat) (news : List Value) (hx : a.eval x = .slice A m c) (hr : Row w B size A m news) (h1 : ∀ u ∈ news, u.oneCell' = true)
    (h63 : n + m ≤ maxLen) (hbytes : (n + m) * bytes ≤ 140737488355328) (hbase : base ≤ w.heap.size)
    (h : ∀ v' w', w'.ownsRow base e size v' (n + m) (xs ++ news) → w.grownBy w' v.ownBlock → (v'.ownBlock = v.ownBlock ∨ v'.ownBlock = some w.heap.size) → K (a.put o.dst v') w') :
    if Region.wanted o (yielded ops a.tmps) = true then Oper.wp P o a w K Q else E := by
  have hw : Region.wanted o (yielded ops a.tmps) = true := by simp [Region.wanted, hgd]
  rw [if_pos hw]
  exact wp_app w s x t ho base e i z size bytes ht hi hz hsize hby hzs hsz v n xs hs hown B A m c news hx hr h1 h63 hbytes hbase h
end

/-- a block that begins with series: an element's cells, one by one -/
theorem ser_whole {w : World} {g : Nat} {T : TypeId} {L : List Ser} {rest : List Value} {i : Nat} {x : Ser} (h : Whole1 w g T (serCells L ++ rest).toArray) (hx : L[i]? = some x) :
    w.cell? ⟨g, i * 3, none⟩ = some x.lab.val ∧ w.cell? ⟨g, i * 3 + 1, none⟩ = some x.smp.val ∧ w.cell? ⟨g, i * 3 + 2, none⟩ = some x.win.val :=
  ⟨whole_at (enc := Ser.cells) SrtSer.hk h hx 0 (by omega), whole_at (enc := Ser.cells) SrtSer.hk h hx 1 (by omega), whole_at (enc := Ser.cells) SrtSer.hk h hx 2 (by omega)⟩

/-- one cell of one element stored -/
theorem fm_put {α : Type} {enc : α → List Value} {k : Nat} (hk : ∀ x, (enc x).length = k) (rest : List Value) {q : Nat} {u : Value} {x x' : α} (hq : q < k) (hc : (enc x).set q u = enc x') : ∀ (l : List α) (i : Nat), l[i]? = some x → (l.flatMap enc ++ rest).set (i * k + q) u = (l.set i x').flatMap enc ++ rest
  | [], i, h => by simp at h
  | a :: l, 0, h => by
    simp only [List.getElem?_cons_zero, Option.some.injEq] at h
    subst h
    rw [Nat.zero_mul, Nat.zero_add, List.set_cons_zero, List.flatMap_cons, List.flatMap_cons, List.append_assoc, List.append_assoc, List.set_append_left _ _ (by rw [hk]; exact hq), hc]
  | a :: l, i + 1, h => by
    simp only [List.getElem?_cons_succ] at h
    have ih := fm_put hk rest hq hc l i h
    rw [List.set_cons_succ, List.flatMap_cons, List.flatMap_cons, List.append_assoc, List.append_assoc, List.set_append_right _ _ (by rw [hk, Nat.succ_mul]; omega), hk, show (i + 1) * k + q - k = i * k + q from by rw [Nat.succ_mul]; omega, ih]
theorem whole_put {w : World} {g : Nat} {T : TypeId} {L : List Ser} {rest : List Value} {i q : Nat} {y y' : Ser} {u : Value} (h : Whole1 w g T (serCells L ++ rest).toArray) (hy : L[i]? = some y) (hq : q < 3) (hc : (Ser.cells y).set q u = Ser.cells y') : Whole1 (w.setCell ⟨g, i * 3 + q, none⟩ u) g T (serCells (L.set i y') ++ rest).toArray := by
  have h1 := h.put (i * 3 + q) u
  rw [List.setIfInBounds_toArray] at h1
  have e := fm_put (enc := Ser.cells) SrtSer.hk rest hq hc L i hy
  unfold serCells at h1 ⊢
  rw [e] at h1
  exact h1

/-- its samples appended to -/
theorem SerOwn.app_smp {w w9 : World} {base n9 c9 : Nat} {A9 : Option Addr} {l9 : List Smp} {y : Ser} (h : SerOwn w base y) (hg : w.grownBy w9 y.smp.val.ownBlock) (hat : (Value.slice A9 n9 c9).ownBlock = y.smp.val.ownBlock ∨ (Value.slice A9 n9 c9).ownBlock = some w.heap.size)
    (hown : w9.ownsRow base smpT 2 (.slice A9 n9 c9) n9 (l9.flatMap Smp.cells)) (hl : l9.length = n9) : SerOwn w9 base ⟨y.lab, ⟨A9, n9, c9, l9⟩, y.win⟩ ∧ ∀ q, (⟨y.lab, ⟨A9, n9, c9, l9⟩, y.win⟩ : Ser).blk q → y.blk q ∨ w.heap.size ≤ q := by
  have hb : ∀ q, (⟨y.lab, ⟨A9, n9, c9, l9⟩, y.win⟩ : Ser).blk q → y.blk q ∨ w.heap.size ≤ q := by
    rintro q (hq | hq)
    · rcases hat with e | e
      · exact .inl (.inl (e.symm.trans hq))
      · have := e.symm.trans hq
        injection this with this
        exact .inr (by omega)
    · exact .inl (.inr hq)
  refine ⟨⟨?_, hown, ?_, ⟨hl, h.lens.2⟩, ?_, ?_, fun hn => (h.labown hn).kept hg (Sl.off_block ?_ hn)⟩, hb⟩
  · refine (h.lab.grown hg ?_ (Nat.le_refl _)).more hg.size
    cases hv : y.smp.val.ownBlock with
    | none => exact Sl.off_none _
    | some q => exact h.self q (.inl hv)
  · refine h.win.kept hg ?_
    cases hv : y.win.val.ownBlock with
    | none => exact .inl rfl
    | some q => exact .inr fun e => h.inner q e.symm hv
  · intro q hq hq2
    rcases hat with e | e
    · exact h.inner q (e.symm.trans hq) hq2
    · have := e.symm.trans hq
      injection this with this
      have := (h.win.lt q hq2).2
      omega
  · intro q hq
    rcases hb q hq with hq | hq
    · exact h.self q hq
    · exact h.lab.off hq
  · cases hv : y.smp.val.ownBlock with
    | none => exact Sl.off_none _
    | some q => exact h.self q (.inl hv)
/-- its windows appended to -/
theorem SerOwn.app_win {w w9 : World} {base n9 c9 : Nat} {A9 : Option Addr} {l9 : List Win} {y : Ser} (h : SerOwn w base y) (hg : w.grownBy w9 y.win.val.ownBlock) (hat : (Value.slice A9 n9 c9).ownBlock = y.win.val.ownBlock ∨ (Value.slice A9 n9 c9).ownBlock = some w.heap.size)
    (hown : w9.ownsRow base winT 6 (.slice A9 n9 c9) n9 (l9.flatMap Win.cells)) (hl : l9.length = n9) : SerOwn w9 base ⟨y.lab, y.smp, ⟨A9, n9, c9, l9⟩⟩ ∧ ∀ q, (⟨y.lab, y.smp, ⟨A9, n9, c9, l9⟩⟩ : Ser).blk q → y.blk q ∨ w.heap.size ≤ q := by
  have hb : ∀ q, (⟨y.lab, y.smp, ⟨A9, n9, c9, l9⟩⟩ : Ser).blk q → y.blk q ∨ w.heap.size ≤ q := by
    rintro q (hq | hq)
    · exact .inl (.inl hq)
    · rcases hat with e | e
      · exact .inl (.inr (e.symm.trans hq))
      · have := e.symm.trans hq
        injection this with this
        exact .inr (by omega)
  refine ⟨⟨?_, ?_, hown, ⟨h.lens.1, hl⟩, ?_, ?_, fun hn => (h.labown hn).kept hg (Sl.off_block ?_ hn)⟩, hb⟩
  · refine (h.lab.grown hg ?_ (Nat.le_refl _)).more hg.size
    cases hv : y.win.val.ownBlock with
    | none => exact Sl.off_none _
    | some q => exact h.self q (.inr hv)
  · refine h.smp.kept hg ?_
    cases hv : y.smp.val.ownBlock with
    | none => exact .inl rfl
    | some q => exact .inr fun e => h.inner q hv e.symm
  · intro q hq hq2
    rcases hat with e | e
    · exact h.inner q hq (e.symm.trans hq2)
    · have := e.symm.trans hq2
      injection this with this
      have := (h.smp.lt q hq).2
      omega
  · intro q hq
    rcases hb q hq with hq | hq
    · exact h.self q hq
    · exact h.lab.off hq
  · cases hv : y.win.val.ownBlock with
    | none => exact Sl.off_none _
    | some q => exact h.self q (.inr hv)

/-- an element of the list turned: its own rows first, then the cell that holds it -/
theorem MOut.put {w w' : World} {base i q g n2 cap : Nat} {L : List Ser} {rest : List Value} {y y' : Ser} {X : Option Nat} {u : Value} (h : MOut w base (.slice (some ⟨g, 0, none⟩) n2 cap) L) (hn : L.length = n2) (hi : L[i]? = some y) (hW : Whole1 w g serT (serCells L ++ rest).toArray)
    (hb : base ≤ g) (hnc : n2 ≤ cap) (hc : cap ≤ maxLen) (hs : (serCells L ++ rest).length = cap * 3) (hg : w.grownBy w' X) (hX : ∀ q, X = some q → y.blk q) (hy : SerOwn w' base y') (hlab : y'.lab = y.lab) (hblk : ∀ q, y'.blk q → y.blk q ∨ w.heap.size ≤ q) (hq : q < 3) (hcc : (Ser.cells y).set q u = Ser.cells y') :
    MOut (w'.setCell ⟨g, i * 3 + q, none⟩ u) base (.slice (some ⟨g, 0, none⟩) n2 cap) (L.set i y') := by
  have hgX : some g ≠ X := fun e => (h.out y (List.mem_of_getElem? hi) g rfl).1 (hX g e.symm)
  refine h.upd hi hg hX hy hlab hblk ?_ (gb_put (gb_refl w' _) _ _)
  have h1 := whole_put (hW.grown hg hgX) hi hq hcc
  have hl : (L.set i y').length = n2 := by rw [List.length_set]; exact hn
  have h2 : (serCells (L.set i y') ++ rest).length = cap * 3 := by
    rw [← hs, List.length_append, List.length_append]
    unfold serCells
    rw [fm_len (enc := Ser.cells) SrtSer.hk, fm_len (enc := Ser.cells) SrtSer.hk, List.length_set]
  rw [hn]
  exact own_of_whole_g (enc := Ser.cells) SrtSer.hk hb h1 hnc hc hl h2

/-- one of them turned, its rows in more than one step, then its head -/
theorem MOut.updK {w w' w'' : World} {base i : Nat} {v : Value} {L : List Ser} {y y' : Ser} (h : MOut w base v L) (hi : L[i]? = some y) (hkeep : ∀ z, (∀ q, y.blk q → ¬ z.blk q ∧ z.lab.Off (some q)) → SerOwn w base z → SerOwn w' base z) (hy : SerOwn w' base y')
    (hlab : y'.lab = y.lab) (hblk : ∀ q, y'.blk q → y.blk q ∨ w.heap.size ≤ q) (hrow : w''.ownsRow base serT 3 v L.length (serCells (L.set i y'))) (hg2 : w'.grownBy w'' v.ownBlock) : MOut w'' base v (L.set i y') := by
  have hil := (List.getElem?_eq_some_iff.1 hi).1
  have hym := List.mem_of_getElem? hi
  have hv : ∀ q, v.ownBlock = some q → q < w.heap.size := fun q hq => (h.row.lt q hq).2
  -- what each of the new list is
  have hcase : ∀ (j : Nat) (z : Ser), (L.set i y')[j]? = some z → (j = i ∧ z = y') ∨ (j ≠ i ∧ L[j]? = some z) := by
    intro j z hz
    by_cases hj : i = j
    · subst hj
      rw [List.getElem?_set_self hil] at hz
      injection hz with hz
      exact .inl ⟨rfl, hz.symm⟩
    · rw [List.getElem?_set_ne hj] at hz
      exact .inr ⟨fun e => hj e.symm, hz⟩
  have hy'out : ∀ q, v.ownBlock = some q → ¬ y'.blk q ∧ y'.lab.Off (some q) := by
    intro q hq
    refine ⟨fun hb => ?_, by rw [hlab]; exact (h.out y hym q hq).2⟩
    rcases hblk q hb with hb | hb
    · exact (h.out y hym q hq).1 hb
    · have := hv q hq; omega
  refine ⟨by rw [List.length_set]; exact hrow, fun z hz => ?_, fun z hz q hq => ?_, fun j k a b ha hb hjk q hq => ?_⟩
  · obtain ⟨j, hj⟩ := List.getElem?_of_mem hz
    rcases hcase j z hj with ⟨_, rfl⟩ | ⟨hji, hz'⟩
    · exact hy.grown hg2 hy'out
    · exact (hkeep z (fun q hq => h.sep i j y z hi hz' (fun e => hji e.symm) q hq) (h.own z (List.mem_of_getElem? hz'))).grown hg2 (h.out z (List.mem_of_getElem? hz'))
  · obtain ⟨j, hj⟩ := List.getElem?_of_mem hz
    rcases hcase j z hj with ⟨_, rfl⟩ | ⟨hji, hz'⟩
    · exact hy'out q hq
    · exact h.out z (List.mem_of_getElem? hz') q hq
  · rcases hcase j a ha with ⟨hji, rfl⟩ | ⟨hji, ha'⟩
    · rcases hcase k b hb with ⟨hki, rfl⟩ | ⟨hki, hb'⟩
      · omega
      · rcases hblk q hq with hq | hq
        · exact h.sep i k y b hi hb' (by omega) q hq
        · have hbo := h.own b (List.mem_of_getElem? hb')
          exact ⟨fun hq2 => by have := (hbo.lt hq2).2; omega, hbo.lab.off hq⟩
    · rcases hcase k b hb with ⟨hki, rfl⟩ | ⟨hki, hb'⟩
      · have := h.sep j i a y ha' hi (by omega) q hq
        refine ⟨fun hq2 => ?_, by rw [hlab]; exact this.2⟩
        rcases hblk q hq2 with hq2 | hq2
        · exact this.1 hq2
        · have := ((h.own a (List.mem_of_getElem? ha')).lt hq).2
          omega
      · exact h.sep j k a b ha' hb' hjk q hq

/-- its samples put in their place -/
theorem SerOwn.in_smp {w w9 : World} {base n9 c9 : Nat} {A9 : Option Addr} {l9 : List Smp} {y : Ser} (h : SerOwn w base y) (hg : w.grownBy w9 y.smp.val.ownBlock) (hat : (Value.slice A9 n9 c9).ownBlock = y.smp.val.ownBlock)
    (hown : w9.ownsRow base smpT 2 (.slice A9 n9 c9) n9 (l9.flatMap Smp.cells)) (hl : l9.length = n9) : SerOwn w9 base ⟨y.lab, ⟨A9, n9, c9, l9⟩, y.win⟩ ∧ ∀ q, (⟨y.lab, ⟨A9, n9, c9, l9⟩, y.win⟩ : Ser).blk q → y.blk q :=
  ⟨(h.app_smp hg (.inl hat) hown hl).1, fun q hq => by
    rcases hq with hq | hq
    · exact .inl (hat.symm.trans hq)
    · exact .inr hq⟩
theorem SerOwn.in_win {w w9 : World} {base n9 c9 : Nat} {A9 : Option Addr} {l9 : List Win} {y : Ser} (h : SerOwn w base y) (hg : w.grownBy w9 y.win.val.ownBlock) (hat : (Value.slice A9 n9 c9).ownBlock = y.win.val.ownBlock)
    (hown : w9.ownsRow base winT 6 (.slice A9 n9 c9) n9 (l9.flatMap Win.cells)) (hl : l9.length = n9) : SerOwn w9 base ⟨y.lab, y.smp, ⟨A9, n9, c9, l9⟩⟩ ∧ ∀ q, (⟨y.lab, y.smp, ⟨A9, n9, c9, l9⟩⟩ : Ser).blk q → y.blk q :=
  ⟨(h.app_win hg (.inl hat) hown hl).1, fun q hq => by
    rcases hq with hq | hq
    · exact .inl hq
    · exact .inr (hat.symm.trans hq)⟩
/-- both rows of an element turned, then the two cells that hold them -/
theorem MOut.put2 {w w8 w9 : World} {base i g n2 cap n8 c8 n9 c9 : Nat} {A8 A9 : Option Addr} {l8 : List Smp} {l9 : List Win} {L : List Ser} {rest : List Value} {y : Ser} (h : MOut w base (.slice (some ⟨g, 0, none⟩) n2 cap) L) (hn : L.length = n2) (hi : L[i]? = some y) (hW : Whole1 w g serT (serCells L ++ rest).toArray)
    (hb : base ≤ g) (hnc : n2 ≤ cap) (hc : cap ≤ maxLen) (hs : (serCells L ++ rest).length = cap * 3) (hg8 : w.grownBy w8 y.smp.val.ownBlock) (hg9 : w8.grownBy w9 y.win.val.ownBlock) (h8 : (Value.slice A8 n8 c8).ownBlock = y.smp.val.ownBlock) (h9 : (Value.slice A9 n9 c9).ownBlock = y.win.val.ownBlock)
    (ho8 : w8.ownsRow base smpT 2 (.slice A8 n8 c8) n8 (l8.flatMap Smp.cells)) (ho9 : w9.ownsRow base winT 6 (.slice A9 n9 c9) n9 (l9.flatMap Win.cells)) (hl8 : l8.length = n8) (hl9 : l9.length = n9) :
    MOut ((w9.setCell ⟨g, i * 3 + 1, none⟩ (.slice A8 n8 c8)).setCell ⟨g, i * 3 + 2, none⟩ (.slice A9 n9 c9)) base (.slice (some ⟨g, 0, none⟩) n2 cap) (L.set i ⟨y.lab, ⟨A8, n8, c8, l8⟩, ⟨A9, n9, c9, l9⟩⟩) := by
  have hym := List.mem_of_getElem? hi
  have hyo := h.own y hym
  obtain ⟨hy8, hb8⟩ := hyo.in_smp hg8 h8 ho8 hl8
  obtain ⟨hy9, hb9⟩ := hy8.in_win hg9 h9 ho9 hl9
  have hbb := fun q hq => hb8 q (hb9 q hq)
  have hgS : some g ≠ y.smp.val.ownBlock := fun e => (h.out y hym g rfl).1 (.inl e.symm)
  have hgW : some g ≠ y.win.val.ownBlock := fun e => (h.out y hym g rfl).1 (.inr e.symm)
  refine h.updK hi (fun z hz ho => (ho.grown hg8 fun q hq => hz q (.inl hq)).grown hg9 fun q hq => hz q (.inr hq)) hy9 rfl (fun q hq => .inl (hbb q hq)) ?_ (gb_put (gb_put (gb_refl w9 _) _ _) _ _)
  have h1 := whole_put (i := i) (q := 1) (y' := ⟨y.lab, ⟨A8, n8, c8, l8⟩, y.win⟩) ((hW.grown hg8 hgS).grown hg9 hgW) hi (by decide) rfl
  have hil := (List.getElem?_eq_some_iff.1 hi).1
  have h2 := whole_put (i := i) (q := 2) (y' := ⟨y.lab, ⟨A8, n8, c8, l8⟩, ⟨A9, n9, c9, l9⟩⟩) h1 (List.getElem?_set_self hil) (by decide) rfl
  rw [List.set_set] at h2
  have hl : (L.set i ⟨y.lab, ⟨A8, n8, c8, l8⟩, ⟨A9, n9, c9, l9⟩⟩).length = n2 := by rw [List.length_set]; exact hn
  have h3 : (serCells (L.set i ⟨y.lab, ⟨A8, n8, c8, l8⟩, ⟨A9, n9, c9, l9⟩⟩) ++ rest).length = cap * 3 := by
    rw [← hs, List.length_append, List.length_append]
    unfold serCells
    rw [fm_len (enc := Ser.cells) SrtSer.hk, fm_len (enc := Ser.cells) SrtSer.hk, List.length_set]
  rw [hn]
  exact own_of_whole_g (enc := Ser.cells) SrtSer.hk hb h2 hnc hc hl h3

/-- is it the first of its labels? -/
def isNew (L : List Ser) (x : Ser) : Bool := match L.getLast? with | none => true | some z => cmpLs z.lab.l x.lab.l != 0
theorem addK_new {L : List Ser} {x y : Ser} (h : isNew L x = true) (hy : y = ⟨⟨y.lab.A, x.lab.n, y.lab.c, x.lab.l⟩, Sl.nil, Sl.nil⟩) : addK (L.map Ser.sk) x.sk = L.map Ser.sk ++ [(y.lab.l, y.smp.l ++ x.smp.l, y.win.l ++ x.win.l)] := by
  rw [hy]
  rcases List.eq_nil_or_concat L with rfl | ⟨M, z, rfl⟩
  · rfl
  · rw [List.concat_eq_append] at h ⊢
    unfold isNew at h
    rw [List.getLast?_concat] at h
    have h' : cmpLs z.lab.l x.lab.l ≠ 0 := by simpa using h
    unfold addK
    rw [List.map_append, List.map_singleton, List.getLast?_concat]
    exact if_neg h'
theorem addK_old {L : List Ser} {x : Ser} (h : isNew L x = false) : ∃ (M : List Ser) (z : Ser), L = M ++ [z] ∧ addK (L.map Ser.sk) x.sk = M.map Ser.sk ++ [(z.lab.l, z.smp.l ++ x.smp.l, z.win.l ++ x.win.l)] := by
  rcases List.eq_nil_or_concat L with rfl | ⟨M, z, rfl⟩
  · cases h
  · refine ⟨M, z, by rw [List.concat_eq_append], ?_⟩
    rw [List.concat_eq_append] at h ⊢
    unfold isNew at h
    rw [List.getLast?_concat] at h
    have h' : cmpLs z.lab.l x.lab.l = 0 := by simpa using h
    unfold addK
    rw [List.map_append, List.map_singleton, List.getLast?_concat]
    refine (if_pos h').trans ?_
    rw [List.dropLast_concat]
    rfl
theorem mout_lt {w : World} {base : Nat} {v : Value} {L : List Ser} (h : MOut w base v L) (q : Nat) (hq : v.ownBlock = some q ∨ ∃ y ∈ L, y.blk q) : q < w.heap.size := by
  rcases hq with hq | ⟨y, hy, hq⟩
  · exact (h.row.lt q hq).2
  · exact ((h.own y hy).lt hq).2

/-- each one's samples and windows once -/
def Onced (K : List SK) (R : List Ser) : Prop := K.length = R.length ∧ ∀ (i : Nat) (k : SK), K[i]? = some k → ∃ y, R[i]? = some y ∧ y.lab.l = k.1 ∧ OncSmp.Once k.2.1 y.smp.l ∧ OncWin.Once k.2.2 y.win.l

/-- what merge.Merge answers -/
def MergeS (all : List Ser) (w : World) (e : Ending) (w' : World) : Prop :=
  ∃ (v : Value) (S R : List Ser) (H : Nat), e = .returned v ∧ SrtSer.SrtRes (fun x y => decide (cmpLs x.lab.l y.lab.l < 0)) all S ∧ Onced (groupK S) R ∧ w.heap.size ≤ H ∧ MOut w' H v (R.filter full) ∧ (∀ y ∈ R, y.lab.n ≤ 1048576 ∧ y.smp.n + y.win.n ≤ 1099511627776) ∧ (∀ y ∈ R, y.smp.l.length = y.smp.n ∧ y.win.l.length = y.win.n) ∧ Below w.heap.size w w'
theorem mergeS_mk {all S R : List Ser} {w w' : World} {H : Nat} {v : Value} (h1 : SrtSer.SrtRes (fun x y => decide (cmpLs x.lab.l y.lab.l < 0)) all S) (h2 : Onced (groupK S) R) (h3 : w.heap.size ≤ H) (h4 : MOut w' H v (R.filter full)) (h5 : ∀ y ∈ R, y.lab.n ≤ 1048576 ∧ y.smp.n + y.win.n ≤ 1099511627776) (h7 : ∀ y ∈ R, y.smp.l.length = y.smp.n ∧ y.win.l.length = y.win.n) (h6 : Below w.heap.size w w') : MergeS all w (.returned v) w' :=
  ⟨v, S, R, H, rfl, h1, h2, h3, h4, h5, h7, h6⟩
/-- sizes, behind once -/
theorem once_sizes {w : World} {H2 ll : Nat} {v : Value} {L R : List Ser} (hM : MOut w H2 v R) (hL : L.length = ll) (hR : R.length = ll) (hlen : ∀ y ∈ L, y.smp.l.length = y.smp.n ∧ y.win.l.length = y.win.n) (hs : ∀ y ∈ L, y.lab.n ≤ 1048576 ∧ y.smp.n + y.win.n ≤ 1099511627776)
    (hf : ∀ (i : Nat) (y : Ser), L[i]? = some y → ∃ y' : Ser, R[i]? = some y' ∧ y'.lab = y.lab ∧ OncSmp.Once y.smp.l y'.smp.l ∧ OncWin.Once y.win.l y'.win.l) : ∀ y' ∈ R, y'.lab.n ≤ 1048576 ∧ y'.smp.n + y'.win.n ≤ 1099511627776 := by
  intro y' hy'
  obtain ⟨i, hi'⟩ := List.getElem?_of_mem hy'
  have hil : i < L.length := by have := (List.getElem?_eq_some_iff.1 hi').1; omega
  obtain ⟨y2, h1, h2, h3, h4⟩ := hf i _ (List.getElem?_eq_getElem hil)
  obtain rfl : y2 = y' := Option.some.inj (h1.symm.trans hi')
  have h5 := hs _ (List.getElem_mem hil)
  have h6 := onceS_len h3
  have h7 := onceW_len h4
  have h8 := (hM.own y2 hy').lens
  have h9 := hlen _ (List.getElem_mem hil)
  rw [h2]
  generalize L[i] = z at *
  omega
theorem onced_of {L R : List Ser} {K : List SK} {ll : Nat} (hk : L.map Ser.sk = K) (hL : L.length = ll) (hR : R.length = ll)
    (hf : ∀ (i : Nat) (y : Ser), L[i]? = some y → ∃ y' : Ser, R[i]? = some y' ∧ y'.lab = y.lab ∧ OncSmp.Once y.smp.l y'.smp.l ∧ OncWin.Once y.win.l y'.win.l) : Onced K R := by
  subst hk
  refine ⟨by rw [List.length_map, hL, hR], fun i k hk => ?_⟩
  rw [List.getElem?_map] at hk
  obtain ⟨y, hy, rfl⟩ := Option.map_eq_some_iff.1 hk
  obtain ⟨y', h1, h2, h3, h4⟩ := hf i y hy
  exact ⟨y', h1, by rw [h2]; rfl, h3, h4⟩
theorem filter_idx {α : Type} (p : α → Bool) : ∀ (R : List α) {i : Nat} {y : α}, (R.filter p)[i]? = some y → ∃ i', R[i']? = some y ∧ i = ((R.take i').filter p).length
  | [], i, y, h => by simp at h
  | a :: R, i, y, h => by
    rw [List.filter_cons] at h
    by_cases hp : p a = true
    · rw [if_pos hp] at h
      cases i with
      | zero => exact ⟨0, by simpa using h, by simp⟩
      | succ i =>
        simp only [List.getElem?_cons_succ] at h
        obtain ⟨i', h1, h2⟩ := filter_idx p R h
        exact ⟨i' + 1, by simpa using h1, by simp [hp, h2]⟩
    · rw [if_neg hp] at h
      obtain ⟨i', h1, h2⟩ := filter_idx p R h
      exact ⟨i' + 1, by simpa using h1, by simp [hp, h2]⟩
/-- behind DeleteFunc: the series that are left -/
theorem MOut.filter {w w9 : World} {H2 n2 cap g : Nat} {R : List Ser} {rest : List Value} (p : Ser → Bool) (h : MOut w H2 (.slice (some ⟨g, 0, none⟩) n2 cap) R) (hgb : H2 ≤ g) (hW : Whole1 w9 g serT (serCells (R.filter p) ++ rest).toArray) (hnc : (R.filter p).length ≤ cap) (hc : cap ≤ maxLen) (hs : (serCells (R.filter p) ++ rest).length = cap * 3) (hg : w.grownBy w9 (some g)) :
    MOut w9 H2 (.slice (some ⟨g, 0, none⟩) (R.filter p).length cap) (R.filter p) := by
  have hmem : ∀ y ∈ R.filter p, y ∈ R := fun y hy => (List.mem_filter.1 hy).1
  refine ⟨own_of_whole_g (enc := Ser.cells) SrtSer.hk hgb hW hnc hc rfl hs, fun y hy => (h.own y (hmem y hy)).grown hg (h.out y (hmem y hy)), fun y hy q hq => h.out y (hmem y hy) q hq, fun i j y z hi hj hij q hq => ?_⟩
  obtain ⟨i', hi', hii⟩ := filter_idx p R hi
  obtain ⟨j', hj', hjj⟩ := filter_idx p R hj
  refine h.sep i' j' y z hi' hj' (fun e => hij ?_) q hq
  subst e
  exact hii.trans hjj.symm
end Go.Proofs.YtbijjjhfekkfaaaGreat
