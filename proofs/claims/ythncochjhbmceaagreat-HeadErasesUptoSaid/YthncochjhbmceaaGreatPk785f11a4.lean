/- Which blocks may have turned, told by their kinds. No program is walked here. What the bound of an '..UptoSaid' gives: lengths. No condition. What came in, opened: values whose cells lead on to other rows. No condition. -/
import Derived.Test.YthncochjhbmceaaGreatMapV
import Derived.Test.YthncochjhbmceaaGreatBase
import Derived.Test.YthncochjhbmceaaGreatRows
namespace Go.Proofs.YthncochjhbmceaaGreat
set_option maxRecDepth 100000
open Go.RowKit

/-- a block of cells of one of these types; or a map -/
def kindIn (ts : List TypeId) (mp : Bool) : Option Obj → Prop
  | some (.cells _ t _) => t ∈ ts
  | some (.map _ _) => mp = true
  | _ => False
/-- from w to w' only blocks of these kinds, at base and above, and what is new, may have turned -/
structure Turn (base : Nat) (ts : List TypeId) (mp : Bool) (w w' : World) : Prop where
  os : w'.os = w.os
  tape : w'.tape = w.tape
  output : w'.output = w.output
  size : w.heap.size ≤ w'.heap.size
  block : ∀ g, g < w.heap.size → (g < base ∨ ¬ kindIn ts mp w.heap[g]?) → w'.heap[g]? = w.heap[g]?
section
variable {base base' : Nat} {ts us : List TypeId} {mp mq : Bool} {a b c w w' : World}
theorem Turn.refl (base : Nat) (ts : List TypeId) (mp : Bool) (w : World) : Turn base ts mp w w := ⟨rfl, rfl, rfl, Nat.le_refl _, fun _ _ _ => rfl⟩
theorem Turn.trans (h : Turn base ts mp a b) (k : Turn base ts mp b c) : Turn base ts mp a c :=
  ⟨k.os.trans h.os, k.tape.trans h.tape, k.output.trans h.output, Nat.le_trans h.size k.size, fun g hg hn => by
    have e := h.block g hg hn
    rw [k.block g (Nat.lt_of_lt_of_le hg h.size) (by rw [e]; exact hn), e]⟩
theorem Turn.wider (h : Turn base ts mp a b) (hb : base' ≤ base) (ht : ∀ t ∈ ts, t ∈ us) (hm : mp = true → mq = true) : Turn base' us mq a b :=
  ⟨h.os, h.tape, h.output, h.size, fun g hg hn => h.block g hg (by
    rcases hn with hn | hn
    · exact .inl (by omega)
    · refine .inr fun hk => hn ?_
      unfold kindIn at hk ⊢
      split at hk
      · exact ht _ hk
      · exact hm hk
      · exact hk.elim)⟩
theorem Turn.of_below (h : Below a.heap.size a b) (base : Nat) (ts : List TypeId) (mp : Bool) : Turn base ts mp a b := ⟨h.os, h.tape, h.output, h.size, fun g hg _ => h.block g hg⟩
theorem Turn.drew (h : Turn base ts mp a b) : Turn base ts mp a b.drew := ⟨h.os, h.tape, h.output, h.size, h.block⟩
theorem Turn.drewN (h : Turn base ts mp a b) (n : Nat) : Turn base ts mp a (b.drewN n) := ⟨h.os, h.tape, h.output, h.size, h.block⟩
theorem Turn.alloc (h : Turn base ts mp a b) (o : Obj) : Turn base ts mp a (b.alloc o) :=
  ⟨h.os, h.tape, h.output, by have := h.size; simp; omega, fun g hg hn => (Below.heap_alloc b o g (Nat.lt_of_lt_of_le hg h.size)).trans (h.block g hg hn)⟩
theorem Turn.of_grown {row : Option Nat} (h : a.grownBy b row) (hr : ∀ g, row = some g → base ≤ g ∧ (g < a.heap.size → kindIn ts mp a.heap[g]?)) : Turn base ts mp a b :=
  ⟨h.os, h.tape, h.output, h.size, fun g hg hn => h.block g hg fun e => by
    obtain ⟨h1, h2⟩ := hr g e.symm
    rcases hn with hn | hn
    · omega
    · exact hn (h2 hg)⟩
theorem Turn.put {g : Nat} {t : TypeId} {cs : Array Value} (hw : Whole1 a g t cs) (hb : base ≤ g) (ht : t ∈ ts) (i : Nat) (u : Value) : Turn base ts mp a (a.setCell ⟨g, i, none⟩ u) :=
  Turn.of_grown (gb_put (gb_refl a _) i u) fun k e => by
    cases e
    exact ⟨hb, fun _ => by rw [show a.heap[g]? = some (.cells cs t (0, 0)) from hw]; exact ht⟩
theorem Turn.below (h : Turn base ts mp a b) {B : Nat} (hB : B ≤ base) (hs : B ≤ a.heap.size) : Below B a b := ⟨h.os, h.tape, h.output, h.size, fun g hg => h.block g (by omega) (.inl (by omega))⟩
/-! what stays -/
theorem Turn.whole (h : Turn base ts mp w w') {g : Nat} {t : TypeId} {cs : Array Value} (hw : Whole1 w g t cs) (hn : g < base ∨ t ∉ ts) : Whole1 w' g t cs :=
  (h.block g hw.lt (by
    rcases hn with hn | hn
    · exact .inl hn
    · refine .inr ?_
      rw [show w.heap[g]? = some (.cells cs t (0, 0)) from hw]
      exact hn)).trans hw
theorem Turn.mapV {S : Value → Prop} {m : List (Value × Value)} {g : Nat} (h : Turn base ts mp w w') (hm : MapV S w g m) (hn : g < base ∨ mp = false) : MapV S w' g m :=
  hm.kept (h.block g hm.lt (by
    rcases hn with hn | hn
    · exact .inl hn
    · refine .inr ?_
      obtain ⟨⟨es, clock, hb, _⟩, _⟩ := hm
      rw [hb]
      show ¬ mp = true
      rw [hn]
      simp))
theorem Turn.own (h : Turn base ts mp w w') {B n size : Nat} {T : TypeId} {v : Value} {xs : List Value} (ho : w.ownsRow B T size v n xs) (hn : T ∉ ts ∨ ∀ g, v.ownBlock = some g → g < base) : w'.ownsRow B T size v n xs := by
  refine ⟨ho.1, ho.2.imp id ?_⟩
  rintro ⟨g, cap, cur, h1, h2, h3, h4⟩
  have hw : Whole1 w g T cur := h3
  exact ⟨g, cap, cur, h1, h2, h.whole hw (hn.symm.imp (fun hk => hk g (by rw [h1]; rfl)) id), h4⟩
theorem Turn.row (h : Turn base ts mp w w') {B size n : Nat} {A : Option Addr} {xs : List Value} (hr : Row w B size A n xs) (hB : B ≤ base) (hs : B ≤ w.heap.size) : Row w' B size A n xs :=
  hr.below (h.below hB hs)
/-- a map's block is no block of cells -/
theorem map_off {S : Value → Prop} {m : List (Value × Value)} {g k : Nat} {t : TypeId} {cs : Array Value} (hm : MapV S w g m) (hw : Whole1 w k t cs) : g ≠ k := by
  rintro rfl
  obtain ⟨⟨es, clock, hb, _⟩, _⟩ := hm
  rw [show w.heap[g]? = some (.cells cs t (0, 0)) from hw] at hb
  cases hb
theorem Turn.of_map {S : Value → Prop} {m : List (Value × Value)} {g : Nat} (hm : MapV S w g m) (hb : base ≤ g) (hg : w.grownBy w' (some g)) : Turn base ts true w w' :=
  Turn.of_grown hg fun k e => by
    cases e
    refine ⟨hb, fun _ => ?_⟩
    obtain ⟨⟨es, clock, hb, _⟩, _⟩ := hm
    rw [hb]
    exact rfl
theorem Turn.of_own {B n size : Nat} {T : TypeId} {v : Value} {xs : List Value} (ho : w.ownsRow B T size v n xs) (hb : base ≤ B) (ht : T ∈ ts) (hg : w.grownBy w' v.ownBlock) : Turn base ts mp w w' :=
  Turn.of_grown hg fun k e => by
    rcases ho.2 with ⟨h1, _⟩ | ⟨g, cap, cur, h1, h2, h3, _⟩
    · rw [h1] at e; cases e
    · rw [h1] at e
      cases e
      exact ⟨Nat.le_trans hb h2, fun _ => by rw [show w.heap[g]? = some (.cells cur T (0, 0)) from h3]; exact ht⟩
end
end Go.Proofs.YthncochjhbmceaaGreat

namespace Go.Proofs.YthncochjhbmceaaGreat
set_option maxRecDepth 100000

section
variable {H : Type}
theorem bulk_pos (d : DataW H) : 1 ≤ Rows.uptoBulk d := by
  cases d with
  | lit l => cases l <;> simp [Rows.uptoBulk]
  | _ => simp [Rows.uptoBulk]

theorem bulk_len (l : List (DataW H)) : l.length ≤ Rows.uptoBulkAll l := by
  induction l with
  | nil => simp
  | cons x l ih => have := bulk_pos x; simp only [Rows.uptoBulkAll, List.length_cons]; omega

theorem bulk_mem {d : DataW H} {l : List (DataW H)} (h : d ∈ l) : Rows.uptoBulk d ≤ Rows.uptoBulkAll l := by
  induction l with
  | nil => cases h
  | cons x l ih =>
    simp only [Rows.uptoBulkAll]
    rcases List.mem_cons.1 h with rfl | h
    · omega
    · have := ih h; omega

end
end Go.Proofs.YthncochjhbmceaaGreat

namespace Go.Proofs.YthncochjhbmceaaGreat
set_option maxRecDepth 100000
open Go.RowKit

/-- A slice, and what it shows. -/
structure Sl (α : Type) where
  A : Option Addr
  n : Nat
  c : Nat
  l : List α
def Sl.val {α : Type} (s : Sl α) : Value := .slice s.A s.n s.c
def Sl.nil {α : Type} : Sl α := ⟨none, 0, 0, []⟩
/-- It shows these elements, out of blocks below B. -/
def Sl.At {α : Type} (w : World) (B size : Nat) (f : α → List Value) (s : Sl α) : Prop := s.n ≤ s.c ∧ s.l.length = s.n ∧ Row w B size s.A s.n (s.l.flatMap f)

section
variable {α : Type} {w w' : World} {B B' size : Nat} {f : α → List Value} {s : Sl α}
theorem Sl.At.below (h : s.At w B size f) (hb : Below B w w') : s.At w' B size f := ⟨h.1, h.2.1, h.2.2.below hb⟩
theorem Sl.At.more (h : s.At w B size f) (hB : B ≤ B') : s.At w B' size f := ⟨h.1, h.2.1, h.2.2.more hB⟩
end

section
variable {H : Type} {enc : TypeId × Value → H} {P : Program} {W : World} {b : Nat}

/-- What is asked of a datum: its blocks are old ones, its weights within the reach, its bulk within the bound. -/
structure Fits (P : Program) (W : World) (b : Nat) (t : TypeId) (x : DataW H × List MemPlace) : Prop where
  old : ∀ p ∈ x.2, p.block < W.heap.size
  light : ∀ k ∈ x.1.weights P t, k ≤ reachBytes
  small : Rows.uptoBulk x.1 ≤ b

/-- A value of type t reads as one of f's values. -/
def Opens (enc : TypeId × Value → H) (P : Program) (W : World) (b : Nat) (t : TypeId) {α : Type} (f : α → List Value) (G : α → Prop) : Prop :=
  ∀ (fuel : Nat) (cs : List Value) (x : DataW H × List MemPlace), DataW.trod enc P W 0 (fun _ => true) true fuel t cs = some x → Fits P W b t x → ∃ a, cs = f a ∧ G a

theorem opens_int {t : TypeId} {k : IntKind} (ht : P.underlying t = some (.int k)) : Opens enc P W b t (fun n : Int => [Value.int k n]) (fun n => (Lit.int k n).wf = true) := by
  intro fuel cs x h _
  obtain ⟨n, hc, _, hw⟩ := DataW.trod_int ht h
  exact ⟨n, hc, hw⟩
theorem opens_string {t : TypeId} (ht : P.underlying t = some .string) : Opens enc P W b t (fun s : ByteArray => [Value.string s]) (fun s => s.size ≤ reachBytes ∧ s.size ≤ maxLen) := by
  intro fuel cs x h hf
  obtain ⟨s, hc, hx, hw⟩ := DataW.trod_string ht h
  have := hf.light s.data.toList.length (by rw [hx]; simp [DataW.weights])
  exact ⟨s, hc, by simpa using this, hw⟩

theorem weights_all {e : TypeId} {l : List (DataW H)} {d : DataW H} (h : d ∈ l) {k : Nat} (hk : k ∈ d.weights P e) : k ∈ DataW.weightsAll P e l := by
  induction l with
  | nil => cases h
  | cons y l ih =>
    simp only [DataW.weightsAll, List.mem_append]
    rcases List.mem_cons.1 h with rfl | h
    · exact .inl hk
    · exact .inr (ih h)
theorem weights_each {ts : List TypeId} {l : List (DataW H)} {i : Nat} {t : TypeId} {d : DataW H} (ht : ts[i]? = some t) (h : l[i]? = some d) {k : Nat} (hk : k ∈ d.weights P t) : k ∈ DataW.weightsEach P ts l := by
  induction ts generalizing l i with
  | nil => simp at ht
  | cons u ts ih =>
    cases l with
    | nil => simp at h
    | cons y l =>
      simp only [DataW.weightsEach, List.mem_append]
      cases i with
      | zero =>
        simp only [List.getElem?_cons_zero, Option.some.injEq] at ht h
        subst ht h
        exact .inl hk
      | succ i =>
        simp only [List.getElem?_cons_succ] at ht h
        exact .inr (ih ht h)

/-- the fields of a struct -/
theorem open_parts {e : TypeId} {fs : Array Field} (he : P.underlying e = some (.struct fs)) {fuel : Nat} {cs : List Value} {x : DataW H × List MemPlace} (h : DataW.trod enc P W 0 (fun _ => true) true fuel e cs = some x) (hf : Fits P W b e x) :
    ∃ n, cs.length = P.cellsOf e ∧ ∀ (i : Nat) (f : Field), fs[i]? = some f → ∃ y, DataW.trod enc P W 0 (fun _ => true) true n f.type ((cs.drop f.offset).take (P.cellsOf f.type)) = some y ∧ Fits P W b f.type y := by
  obtain ⟨xs, n, _, rfl, hl, hlen, hfl⟩ := DataW.trod_struct he h
  refine ⟨n, hl, fun i f hi => ?_⟩
  have hil : i < xs.length := by
    rw [hlen]; exact (Array.getElem?_eq_some_iff.1 hi).1
  have hxi : xs[i]? = some xs[i] := List.getElem?_eq_getElem hil
  have hm := List.mem_of_getElem? hxi
  refine ⟨xs[i], by rw [hfl i f hi, hxi], ⟨fun p hp => hf.old p (List.mem_flatMap.2 ⟨_, hm, hp⟩), fun k hk => hf.light k ?_, ?_⟩⟩
  · simp only [DataW.weights, he]
    refine weights_each (i := i) (t := f.type) (d := xs[i].1) ?_ (by rw [List.getElem?_map, hxi]; rfl) hk
    rw [List.getElem?_map, Array.getElem?_toList, hi]; rfl
  · have h1 : Rows.uptoBulkAll (xs.map Prod.fst) + 1 ≤ b := hf.small
    have h2 := bulk_mem (List.mem_map_of_mem (f := Prod.fst) hm)
    omega

/-- the fields of a struct whose fields are of one cell each -/
theorem open_ones {e : TypeId} {fs : Array Field} (he : P.underlying e = some (.struct fs)) (hone : Deep.oneCellFields P fs = true) (hC : P.cellsOf e = fs.size) {fuel : Nat} {cs : List Value} {x : DataW H × List MemPlace} (h : DataW.trod enc P W 0 (fun _ => true) true fuel e cs = some x) (hf : Fits P W b e x) :
    ∃ n, cs.length = fs.size ∧ ∀ (i : Nat) (f : Field), fs[i]? = some f → ∃ u y, cs[i]? = some u ∧ DataW.trod enc P W 0 (fun _ => true) true n f.type [u] = some y ∧ Fits P W b f.type y := by
  obtain ⟨n, hl, hp⟩ := open_parts he h hf
  rw [hC] at hl
  refine ⟨n, hl, fun i f hi => ?_⟩
  have hil := (Array.getElem?_eq_some_iff.1 hi).1
  obtain ⟨y, hy, hF⟩ := hp i f hi
  obtain ⟨ho, hk1⟩ := Deep.hone_of hone i _ hi
  rw [ho, hk1, List.drop_eq_getElem_cons (by omega)] at hy
  exact ⟨cs[i]'(by omega), y, List.getElem?_eq_getElem (by omega), hy, hF⟩

/-- a slice of what opens -/
theorem opens_slice {t e : TypeId} {α : Type} [Inhabited α] {f : α → List Value} {G : α → Prop} {k : Nat} (ht : P.underlying t = some (.slice e)) (hC : P.cellsOf e = k) (hk : 0 < k) (hlen : ∀ a, (f a).length = k) (he : Opens enc P W b e f G) :
    Opens enc P W b t (fun s : Sl α => [s.val]) (fun s => s.At W W.heap.size k f ∧ (∀ a ∈ s.l, G a) ∧ s.n * P.bytesOf e ≤ reachBytes ∧ s.n ≤ b) := by
  intro fuel cs x h hf
  rcases Deep.open_slice ht h with ⟨hcs, hx⟩ | ⟨a, len, cap, m, n', D, Pl, hcs, _, hl, hm, hmm, hx, hi⟩
  · exact ⟨Sl.nil, hcs, ⟨Nat.le_refl _, rfl, Row.nil⟩, by simp [Sl.nil], by simp [Sl.nil], Nat.zero_le _⟩
  · simp only [if_true] at hmm
    subst hmm
    have hw0 := hf.light
    have hb0 := hf.small
    have ho0 := hf.old
    rw [hx] at hw0 hb0 ho0
    simp only [DataW.weights, ht, Rows.uptoBulk] at hw0 hb0
    have hel : ∀ i, i < len → ∃ y : α, G y ∧ ∀ j, j < k → W.cell? (a.add (i * k + j)) = (f y)[j]? := by
      intro i hin
      obtain ⟨cs', hc, ht'⟩ := hi i (by omega)
      rw [hC] at hc
      have hDm : D i ∈ (List.range len).map D := List.mem_map.2 ⟨i, List.mem_range.2 hin, rfl⟩
      obtain ⟨y, hy, hG⟩ := he _ _ _ ht' ⟨fun p hp => ho0 p (List.mem_append_right _ (List.mem_flatMap.2 ⟨i, List.mem_range.2 (by omega), hp⟩)),
        fun q hq => hw0 q (List.mem_cons_of_mem _ (List.mem_append_left _ (weights_all hDm hq))), by have := bulk_mem hDm; simp only; omega⟩
      obtain ⟨_, hcl, hat⟩ := World.cells?_some hc
      refine ⟨y, hG, fun j hj => ?_⟩
      rw [← hy, ← Deep.add_add]
      exact hat j (by omega)
    obtain ⟨R, hR⟩ := Deep.choose_lt (α := α) hel
    have hflat : ∀ (m : Nat), m ≤ len → (((List.range m).map R).flatMap f).length = m * k ∧ ∀ j, j < m * k → W.cell? (a.add j) = (((List.range m).map R).flatMap f)[j]? := by
      intro m
      induction m with
      | zero => intro _; exact ⟨by simp, fun j hj => by simp at hj⟩
      | succ m ih =>
        intro hm'
        obtain ⟨i1, i2⟩ := ih (by omega)
        obtain ⟨_, hr2⟩ := hR m (by omega)
        rw [List.range_succ, List.map_append, List.flatMap_append, List.map_cons, List.map_nil, List.flatMap_cons, List.flatMap_nil, List.append_nil]
        refine ⟨by rw [List.length_append, i1, hlen, Nat.succ_mul], fun j hj => ?_⟩
        rw [Nat.succ_mul] at hj
        rcases Nat.lt_or_ge j (m * k) with h1 | h1
        · rw [List.getElem?_append_left (by omega)]; exact i2 j h1
        · rw [List.getElem?_append_right (by omega), i1, ← hr2 _ (by omega), show m * k + (j - m * k) = j from by omega]
    obtain ⟨h1, h2⟩ := hflat len (Nat.le_refl _)
    refine ⟨⟨some a, len, m, (List.range len).map R⟩, hcs, ⟨by simpa using hl, by simp, h1, fun hn => ?_⟩, ?_, ?_, ?_⟩
    · obtain ⟨bk, off, spot⟩ := a
      have hpk : 0 < len * k := Nat.mul_pos hn hk
      have hc0 := h2 0 hpk
      have hsp : spot = none := by
        rw [List.getElem?_eq_getElem (by rw [h1]; exact hpk)] at hc0
        simpa [Addr.add] using World.cell?_spot hc0
      subst hsp
      refine ⟨bk, off, rfl, ?_, fun j hj => by rw [← h2 j hj, Addr.add_lit]⟩
      refine ho0 (.cell bk off) ?_
      refine List.mem_append_left _ (MemPlace.mem_row.2 ⟨0, ?_, by simp⟩)
      rw [hC]
      exact Nat.mul_pos (by simp only at hn; omega) hk
    · intro r hr
      simp only [List.mem_map, List.mem_range] at hr
      obtain ⟨i, hi', rfl⟩ := hr
      exact (hR i hi').1
    · have := hw0 _ (List.mem_cons_self ..)
      simp only [List.length_map, List.length_range] at this
      exact Nat.le_trans (Nat.mul_le_mul_right _ (Nat.le_add_right _ _)) this
    · have := bulk_len ((List.range len).map D)
      simp only [List.length_map, List.length_range] at this
      simp only; omega
end
end Go.Proofs.YthncochjhbmceaaGreat
