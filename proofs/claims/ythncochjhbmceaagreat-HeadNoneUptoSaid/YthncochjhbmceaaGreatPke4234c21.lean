/- Which blocks may have turned, told by their kinds. No program is walked here. What the bound of an '..UptoSaid' gives: lengths. No condition. What came in, opened: values whose cells lead on to other rows. No condition. Leaf functions of package fold and of its reference: what each returns. The folder's method add: what it makes of the folder's six fields. Condition: the fields' bits fit 64 bits, the count is far from int's end. The folder's method window, and Fold over samples: what they return. Condition: bits fit 64 bits, the count is far from int's end. Fold over samples: what it returns. Condition: the samples' values fit 64 bits, the list is no longer than 2^62. Cells of rows of samples and of windows. No condition. -/
import Derived.Test.YthncochjhbmceaaGreatPkb5fb2d9c
import Derived.Test.YthncochjhbmceaaGreatRows
import Derived.Deep.DeepCutAuto
namespace Go.Proofs.YthncochjhbmceaaGreat
set_option maxRecDepth 100000
open Go.RowKit

/-- a block of cells of one of these types; or a map -/
def kindIn (ts : List TypeId) (mp : Bool) : Option Obj → Prop
  | some (.cells _ t _) => t ∈ ts
  | some (.map _ _) => mp = true
  | _ => False
/-- from w to w' only blocks of these kinds, at base and above, and what is new, may have turned -/
structure Turn (base : Nat) (ts : List TypeId) (mp : Bool) (w w' : World) : Prop where
  os : w'.os = w.os
  tape : w'.tape = w.tape
  output : w'.output = w.output
  size : w.heap.size ≤ w'.heap.size
  block : ∀ g, g < w.heap.size → (g < base ∨ ¬ kindIn ts mp w.heap[g]?) → w'.heap[g]? = w.heap[g]?
section
variable {base base' : Nat} {ts us : List TypeId} {mp mq : Bool} {a b c w w' : World}
theorem Turn.refl (base : Nat) (ts : List TypeId) (mp : Bool) (w : World) : Turn base ts mp w w := ⟨rfl, rfl, rfl, Nat.le_refl _, fun _ _ _ => rfl⟩
theorem Turn.trans (h : Turn base ts mp a b) (k : Turn base ts mp b c) : Turn base ts mp a c :=
  ⟨k.os.trans h.os, k.tape.trans h.tape, k.output.trans h.output, Nat.le_trans h.size k.size, fun g hg hn => by
    have e := h.block g hg hn
    rw [k.block g (Nat.lt_of_lt_of_le hg h.size) (by rw [e]; exact hn), e]⟩
theorem Turn.wider (h : Turn base ts mp a b) (hb : base' ≤ base) (ht : ∀ t ∈ ts, t ∈ us) (hm : mp = true → mq = true) : Turn base' us mq a b :=
  ⟨h.os, h.tape, h.output, h.size, fun g hg hn => h.block g hg (by
    rcases hn with hn | hn
    · exact .inl (by omega)
    · refine .inr fun hk => hn ?_
      unfold kindIn at hk ⊢
      split at hk
      · exact ht _ hk
      · exact hm hk
      · exact hk.elim)⟩
theorem Turn.of_below (h : Below a.heap.size a b) (base : Nat) (ts : List TypeId) (mp : Bool) : Turn base ts mp a b := ⟨h.os, h.tape, h.output, h.size, fun g hg _ => h.block g hg⟩
theorem Turn.drew (h : Turn base ts mp a b) : Turn base ts mp a b.drew := ⟨h.os, h.tape, h.output, h.size, h.block⟩
theorem Turn.drewN (h : Turn base ts mp a b) (n : Nat) : Turn base ts mp a (b.drewN n) := ⟨h.os, h.tape, h.output, h.size, h.block⟩
theorem Turn.alloc (h : Turn base ts mp a b) (o : Obj) : Turn base ts mp a (b.alloc o) :=
  ⟨h.os, h.tape, h.output, by have := h.size; simp; omega, fun g hg hn => (Below.heap_alloc b o g (Nat.lt_of_lt_of_le hg h.size)).trans (h.block g hg hn)⟩
theorem Turn.of_grown {row : Option Nat} (h : a.grownBy b row) (hr : ∀ g, row = some g → base ≤ g ∧ (g < a.heap.size → kindIn ts mp a.heap[g]?)) : Turn base ts mp a b :=
  ⟨h.os, h.tape, h.output, h.size, fun g hg hn => h.block g hg fun e => by
    obtain ⟨h1, h2⟩ := hr g e.symm
    rcases hn with hn | hn
    · omega
    · exact hn (h2 hg)⟩
theorem Turn.put {g : Nat} {t : TypeId} {cs : Array Value} (hw : Whole1 a g t cs) (hb : base ≤ g) (ht : t ∈ ts) (i : Nat) (u : Value) : Turn base ts mp a (a.setCell ⟨g, i, none⟩ u) :=
  Turn.of_grown (gb_put (gb_refl a _) i u) fun k e => by
    cases e
    exact ⟨hb, fun _ => by rw [show a.heap[g]? = some (.cells cs t (0, 0)) from hw]; exact ht⟩
theorem Turn.below (h : Turn base ts mp a b) {B : Nat} (hB : B ≤ base) (hs : B ≤ a.heap.size) : Below B a b := ⟨h.os, h.tape, h.output, h.size, fun g hg => h.block g (by omega) (.inl (by omega))⟩
/-! what stays -/
theorem Turn.whole (h : Turn base ts mp w w') {g : Nat} {t : TypeId} {cs : Array Value} (hw : Whole1 w g t cs) (hn : g < base ∨ t ∉ ts) : Whole1 w' g t cs :=
  (h.block g hw.lt (by
    rcases hn with hn | hn
    · exact .inl hn
    · refine .inr ?_
      rw [show w.heap[g]? = some (.cells cs t (0, 0)) from hw]
      exact hn)).trans hw
theorem Turn.mapV {S : Value → Prop} {m : List (Value × Value)} {g : Nat} (h : Turn base ts mp w w') (hm : MapV S w g m) (hn : g < base ∨ mp = false) : MapV S w' g m :=
  hm.kept (h.block g hm.lt (by
    rcases hn with hn | hn
    · exact .inl hn
    · refine .inr ?_
      obtain ⟨⟨es, clock, hb, _⟩, _⟩ := hm
      rw [hb]
      show ¬ mp = true
      rw [hn]
      simp))
theorem Turn.own (h : Turn base ts mp w w') {B n size : Nat} {T : TypeId} {v : Value} {xs : List Value} (ho : w.ownsRow B T size v n xs) (hn : T ∉ ts ∨ ∀ g, v.ownBlock = some g → g < base) : w'.ownsRow B T size v n xs := by
  refine ⟨ho.1, ho.2.imp id ?_⟩
  rintro ⟨g, cap, cur, h1, h2, h3, h4⟩
  have hw : Whole1 w g T cur := h3
  exact ⟨g, cap, cur, h1, h2, h.whole hw (hn.symm.imp (fun hk => hk g (by rw [h1]; rfl)) id), h4⟩
theorem Turn.row (h : Turn base ts mp w w') {B size n : Nat} {A : Option Addr} {xs : List Value} (hr : Row w B size A n xs) (hB : B ≤ base) (hs : B ≤ w.heap.size) : Row w' B size A n xs :=
  hr.below (h.below hB hs)
/-- a map's block is no block of cells -/
theorem map_off {S : Value → Prop} {m : List (Value × Value)} {g k : Nat} {t : TypeId} {cs : Array Value} (hm : MapV S w g m) (hw : Whole1 w k t cs) : g ≠ k := by
  rintro rfl
  obtain ⟨⟨es, clock, hb, _⟩, _⟩ := hm
  rw [show w.heap[g]? = some (.cells cs t (0, 0)) from hw] at hb
  cases hb
theorem Turn.of_map {S : Value → Prop} {m : List (Value × Value)} {g : Nat} (hm : MapV S w g m) (hb : base ≤ g) (hg : w.grownBy w' (some g)) : Turn base ts true w w' :=
  Turn.of_grown hg fun k e => by
    cases e
    refine ⟨hb, fun _ => ?_⟩
    obtain ⟨⟨es, clock, hb, _⟩, _⟩ := hm
    rw [hb]
    exact rfl
theorem Turn.of_own {B n size : Nat} {T : TypeId} {v : Value} {xs : List Value} (ho : w.ownsRow B T size v n xs) (hb : base ≤ B) (ht : T ∈ ts) (hg : w.grownBy w' v.ownBlock) : Turn base ts mp w w' :=
  Turn.of_grown hg fun k e => by
    rcases ho.2 with ⟨h1, _⟩ | ⟨g, cap, cur, h1, h2, h3, _⟩
    · rw [h1] at e; cases e
    · rw [h1] at e
      cases e
      exact ⟨Nat.le_trans hb h2, fun _ => by rw [show w.heap[g]? = some (.cells cur T (0, 0)) from h3]; exact ht⟩
end
end Go.Proofs.YthncochjhbmceaaGreat

namespace Go.Proofs.YthncochjhbmceaaGreat
set_option maxRecDepth 100000

section
variable {H : Type}
theorem bulk_pos (d : DataW H) : 1 ≤ Rows.uptoBulk d := by
  cases d with
  | lit l => cases l <;> simp [Rows.uptoBulk]
  | _ => simp [Rows.uptoBulk]

theorem bulk_len (l : List (DataW H)) : l.length ≤ Rows.uptoBulkAll l := by
  induction l with
  | nil => simp
  | cons x l ih => have := bulk_pos x; simp only [Rows.uptoBulkAll, List.length_cons]; omega

theorem bulk_mem {d : DataW H} {l : List (DataW H)} (h : d ∈ l) : Rows.uptoBulk d ≤ Rows.uptoBulkAll l := by
  induction l with
  | nil => cases h
  | cons x l ih =>
    simp only [Rows.uptoBulkAll]
    rcases List.mem_cons.1 h with rfl | h
    · omega
    · have := ih h; omega

theorem bulk_slice (es sp : List (DataW H)) : es.length ≤ Rows.uptoBulk (.slice es sp) := by
  have := bulk_len es
  simp only [Rows.uptoBulk]
  omega

/-- the length of a list among the arguments -/
theorem bulk_of {ds : List (DataW H)} (h : Rows.uptoBulkAll ds ≤ 1048576) {d : DataW H} (hd : d ∈ ds) {n : Nat} (hn : (n = 0 ∧ d = .nil) ∨ ∃ es sp : List (DataW H), d = .slice es sp ∧ es.length = n) : n ≤ 1048576 := by
  rcases hn with ⟨rfl, _⟩ | ⟨es, sp, rfl, rfl⟩
  · omega
  · have h1 := bulk_mem hd
    have h2 := bulk_slice es sp
    omega
end
end Go.Proofs.YthncochjhbmceaaGreat

namespace Go.Proofs.YthncochjhbmceaaGreat
set_option maxRecDepth 100000
open Go.RowKit

/-- A slice, and what it shows. -/
structure Sl (α : Type) where
  A : Option Addr
  n : Nat
  c : Nat
  l : List α
def Sl.val {α : Type} (s : Sl α) : Value := .slice s.A s.n s.c
def Sl.nil {α : Type} : Sl α := ⟨none, 0, 0, []⟩
/-- It shows these elements, out of blocks below B. -/
def Sl.At {α : Type} (w : World) (B size : Nat) (f : α → List Value) (s : Sl α) : Prop := s.n ≤ s.c ∧ s.l.length = s.n ∧ Row w B size s.A s.n (s.l.flatMap f)

section
variable {α : Type} {w w' : World} {B B' size : Nat} {f : α → List Value} {s : Sl α}
theorem Sl.At.below (h : s.At w B size f) (hb : Below B w w') : s.At w' B size f := ⟨h.1, h.2.1, h.2.2.below hb⟩
theorem Sl.At.more (h : s.At w B size f) (hB : B ≤ B') : s.At w B' size f := ⟨h.1, h.2.1, h.2.2.more hB⟩
end

section
variable {H : Type} {enc : TypeId × Value → H} {P : Program} {W : World} {b : Nat}

/-- What is asked of a datum: its blocks are old ones, its weights within the reach, its bulk within the bound. -/
structure Fits (P : Program) (W : World) (b : Nat) (t : TypeId) (x : DataW H × List MemPlace) : Prop where
  old : ∀ p ∈ x.2, p.block < W.heap.size
  light : ∀ k ∈ x.1.weights P t, k ≤ reachBytes
  small : Rows.uptoBulk x.1 ≤ b

/-- A value of type t reads as one of f's values. -/
def Opens (enc : TypeId × Value → H) (P : Program) (W : World) (b : Nat) (t : TypeId) {α : Type} (f : α → List Value) (G : α → Prop) : Prop :=
  ∀ (fuel : Nat) (cs : List Value) (x : DataW H × List MemPlace), DataW.trod enc P W 0 (fun _ => true) true fuel t cs = some x → Fits P W b t x → ∃ a, cs = f a ∧ G a

theorem opens_int {t : TypeId} {k : IntKind} (ht : P.underlying t = some (.int k)) : Opens enc P W b t (fun n : Int => [Value.int k n]) (fun n => (Lit.int k n).wf = true) := by
  intro fuel cs x h _
  obtain ⟨n, hc, _, hw⟩ := DataW.trod_int ht h
  exact ⟨n, hc, hw⟩
theorem opens_string {t : TypeId} (ht : P.underlying t = some .string) : Opens enc P W b t (fun s : ByteArray => [Value.string s]) (fun s => s.size ≤ reachBytes ∧ s.size ≤ maxLen) := by
  intro fuel cs x h hf
  obtain ⟨s, hc, hx, hw⟩ := DataW.trod_string ht h
  have := hf.light s.data.toList.length (by rw [hx]; simp [DataW.weights])
  exact ⟨s, hc, by simpa using this, hw⟩

theorem weights_all {e : TypeId} {l : List (DataW H)} {d : DataW H} (h : d ∈ l) {k : Nat} (hk : k ∈ d.weights P e) : k ∈ DataW.weightsAll P e l := by
  induction l with
  | nil => cases h
  | cons y l ih =>
    simp only [DataW.weightsAll, List.mem_append]
    rcases List.mem_cons.1 h with rfl | h
    · exact .inl hk
    · exact .inr (ih h)
theorem weights_each {ts : List TypeId} {l : List (DataW H)} {i : Nat} {t : TypeId} {d : DataW H} (ht : ts[i]? = some t) (h : l[i]? = some d) {k : Nat} (hk : k ∈ d.weights P t) : k ∈ DataW.weightsEach P ts l := by
  induction ts generalizing l i with
  | nil => simp at ht
  | cons u ts ih =>
    cases l with
    | nil => simp at h
    | cons y l =>
      simp only [DataW.weightsEach, List.mem_append]
      cases i with
      | zero =>
        simp only [List.getElem?_cons_zero, Option.some.injEq] at ht h
        subst ht h
        exact .inl hk
      | succ i =>
        simp only [List.getElem?_cons_succ] at ht h
        exact .inr (ih ht h)

/-- the fields of a struct -/
theorem open_parts {e : TypeId} {fs : Array Field} (he : P.underlying e = some (.struct fs)) {fuel : Nat} {cs : List Value} {x : DataW H × List MemPlace} (h : DataW.trod enc P W 0 (fun _ => true) true fuel e cs = some x) (hf : Fits P W b e x) :
    ∃ n, cs.length = P.cellsOf e ∧ ∀ (i : Nat) (f : Field), fs[i]? = some f → ∃ y, DataW.trod enc P W 0 (fun _ => true) true n f.type ((cs.drop f.offset).take (P.cellsOf f.type)) = some y ∧ Fits P W b f.type y := by
  obtain ⟨xs, n, _, rfl, hl, hlen, hfl⟩ := DataW.trod_struct he h
  refine ⟨n, hl, fun i f hi => ?_⟩
  have hil : i < xs.length := by
    rw [hlen]; exact (Array.getElem?_eq_some_iff.1 hi).1
  have hxi : xs[i]? = some xs[i] := List.getElem?_eq_getElem hil
  have hm := List.mem_of_getElem? hxi
  refine ⟨xs[i], by rw [hfl i f hi, hxi], ⟨fun p hp => hf.old p (List.mem_flatMap.2 ⟨_, hm, hp⟩), fun k hk => hf.light k ?_, ?_⟩⟩
  · simp only [DataW.weights, he]
    refine weights_each (i := i) (t := f.type) (d := xs[i].1) ?_ (by rw [List.getElem?_map, hxi]; rfl) hk
    rw [List.getElem?_map, Array.getElem?_toList, hi]; rfl
  · have h1 : Rows.uptoBulkAll (xs.map Prod.fst) + 1 ≤ b := hf.small
    have h2 := bulk_mem (List.mem_map_of_mem (f := Prod.fst) hm)
    omega

/-- the fields of a struct whose fields are of one cell each -/
theorem open_ones {e : TypeId} {fs : Array Field} (he : P.underlying e = some (.struct fs)) (hone : Deep.oneCellFields P fs = true) (hC : P.cellsOf e = fs.size) {fuel : Nat} {cs : List Value} {x : DataW H × List MemPlace} (h : DataW.trod enc P W 0 (fun _ => true) true fuel e cs = some x) (hf : Fits P W b e x) :
    ∃ n, cs.length = fs.size ∧ ∀ (i : Nat) (f : Field), fs[i]? = some f → ∃ u y, cs[i]? = some u ∧ DataW.trod enc P W 0 (fun _ => true) true n f.type [u] = some y ∧ Fits P W b f.type y := by
  obtain ⟨n, hl, hp⟩ := open_parts he h hf
  rw [hC] at hl
  refine ⟨n, hl, fun i f hi => ?_⟩
  have hil := (Array.getElem?_eq_some_iff.1 hi).1
  obtain ⟨y, hy, hF⟩ := hp i f hi
  obtain ⟨ho, hk1⟩ := Deep.hone_of hone i _ hi
  rw [ho, hk1, List.drop_eq_getElem_cons (by omega)] at hy
  exact ⟨cs[i]'(by omega), y, List.getElem?_eq_getElem (by omega), hy, hF⟩

/-- a slice of what opens -/
theorem opens_slice {t e : TypeId} {α : Type} [Inhabited α] {f : α → List Value} {G : α → Prop} {k : Nat} (ht : P.underlying t = some (.slice e)) (hC : P.cellsOf e = k) (hk : 0 < k) (hlen : ∀ a, (f a).length = k) (he : Opens enc P W b e f G) :
    Opens enc P W b t (fun s : Sl α => [s.val]) (fun s => s.At W W.heap.size k f ∧ (∀ a ∈ s.l, G a) ∧ s.n * P.bytesOf e ≤ reachBytes ∧ s.n ≤ b) := by
  intro fuel cs x h hf
  rcases Deep.open_slice ht h with ⟨hcs, hx⟩ | ⟨a, len, cap, m, n', D, Pl, hcs, _, hl, hm, hmm, hx, hi⟩
  · exact ⟨Sl.nil, hcs, ⟨Nat.le_refl _, rfl, Row.nil⟩, by simp [Sl.nil], by simp [Sl.nil], Nat.zero_le _⟩
  · simp only [if_true] at hmm
    subst hmm
    have hw0 := hf.light
    have hb0 := hf.small
    have ho0 := hf.old
    rw [hx] at hw0 hb0 ho0
    simp only [DataW.weights, ht, Rows.uptoBulk] at hw0 hb0
    have hel : ∀ i, i < len → ∃ y : α, G y ∧ ∀ j, j < k → W.cell? (a.add (i * k + j)) = (f y)[j]? := by
      intro i hin
      obtain ⟨cs', hc, ht'⟩ := hi i (by omega)
      rw [hC] at hc
      have hDm : D i ∈ (List.range len).map D := List.mem_map.2 ⟨i, List.mem_range.2 hin, rfl⟩
      obtain ⟨y, hy, hG⟩ := he _ _ _ ht' ⟨fun p hp => ho0 p (List.mem_append_right _ (List.mem_flatMap.2 ⟨i, List.mem_range.2 (by omega), hp⟩)),
        fun q hq => hw0 q (List.mem_cons_of_mem _ (List.mem_append_left _ (weights_all hDm hq))), by have := bulk_mem hDm; simp only; omega⟩
      obtain ⟨_, hcl, hat⟩ := World.cells?_some hc
      refine ⟨y, hG, fun j hj => ?_⟩
      rw [← hy, ← Deep.add_add]
      exact hat j (by omega)
    obtain ⟨R, hR⟩ := Deep.choose_lt (α := α) hel
    have hflat : ∀ (m : Nat), m ≤ len → (((List.range m).map R).flatMap f).length = m * k ∧ ∀ j, j < m * k → W.cell? (a.add j) = (((List.range m).map R).flatMap f)[j]? := by
      intro m
      induction m with
      | zero => intro _; exact ⟨by simp, fun j hj => by simp at hj⟩
      | succ m ih =>
        intro hm'
        obtain ⟨i1, i2⟩ := ih (by omega)
        obtain ⟨_, hr2⟩ := hR m (by omega)
        rw [List.range_succ, List.map_append, List.flatMap_append, List.map_cons, List.map_nil, List.flatMap_cons, List.flatMap_nil, List.append_nil]
        refine ⟨by rw [List.length_append, i1, hlen, Nat.succ_mul], fun j hj => ?_⟩
        rw [Nat.succ_mul] at hj
        rcases Nat.lt_or_ge j (m * k) with h1 | h1
        · rw [List.getElem?_append_left (by omega)]; exact i2 j h1
        · rw [List.getElem?_append_right (by omega), i1, ← hr2 _ (by omega), show m * k + (j - m * k) = j from by omega]
    obtain ⟨h1, h2⟩ := hflat len (Nat.le_refl _)
    refine ⟨⟨some a, len, m, (List.range len).map R⟩, hcs, ⟨by simpa using hl, by simp, h1, fun hn => ?_⟩, ?_, ?_, ?_⟩
    · obtain ⟨bk, off, spot⟩ := a
      have hpk : 0 < len * k := Nat.mul_pos hn hk
      have hc0 := h2 0 hpk
      have hsp : spot = none := by
        rw [List.getElem?_eq_getElem (by rw [h1]; exact hpk)] at hc0
        simpa [Addr.add] using World.cell?_spot hc0
      subst hsp
      refine ⟨bk, off, rfl, ?_, fun j hj => by rw [← h2 j hj, Addr.add_lit]⟩
      refine ho0 (.cell bk off) ?_
      refine List.mem_append_left _ (MemPlace.mem_row.2 ⟨0, ?_, by simp⟩)
      rw [hC]
      exact Nat.mul_pos (by simp only at hn; omega) hk
    · intro r hr
      simp only [List.mem_map, List.mem_range] at hr
      obtain ⟨i, hi', rfl⟩ := hr
      exact (hR i hi').1
    · have := hw0 _ (List.mem_cons_self ..)
      simp only [List.length_map, List.length_range] at this
      exact Nat.le_trans (Nat.mul_le_mul_right _ (Nat.le_add_right _ _)) this
    · have := bulk_len ((List.range len).map D)
      simp only [List.length_map, List.length_range] at this
      simp only; omega
end
end Go.Proofs.YthncochjhbmceaaGreat

namespace Go.Proofs.YthncochjhbmceaaGreat
set_option maxRecDepth 100000
open Go.RowKit

/-- Where a window begins, and the error's number. -/
def beginOf (t d : Int) : Int × Int :=
  if d < 1 ∨ 1099511627776 < d then (0, 100) else if t < 0 ∨ 1125899906842624 < t then (0, 91) else (t / d * d, 0)

theorem beginOf_width (t d : Int) (h : d < 1 ∨ 1099511627776 < d) : beginOf t d = (0, 100) := by simp [beginOf, h]
theorem beginOf_time (t d : Int) (h : ¬(d < 1 ∨ 1099511627776 < d)) (h2 : t < 0 ∨ 1125899906842624 < t) : beginOf t d = (0, 91) := by simp [beginOf, h, h2]
theorem beginOf_ok (t d : Int) (h : ¬(d < 1 ∨ 1099511627776 < d)) (h2 : ¬(t < 0 ∨ 1125899906842624 < t)) : beginOf t d = (t / d * d, 0) := by simp [beginOf, h, h2]

set_option maxHeartbeats 400000 in
theorem start_any (t d : Int) (w : World) :
    Calls Tryz.prog 45 #[.int .i64 t, .int .i64 d] w fun e w' => e = .returned (.tuple #[.int .i64 (beginOf t d).1, .int .i64 (beginOf t d).2]) ∧ w = w' := by
  by_cases hd : d < 1 ∨ 1099511627776 < d
  · rw [beginOf_width t d hd]
    rcases hd with h | h
    · go_enter Tryz.func45, Tryz.ntmps45
      go_wp2
      go_ret2
      exact ⟨rfl, rfl⟩
    · have h' : ¬ d < 1 := by omega
      go_enter Tryz.func45, Tryz.ntmps45
      go_wp2
      go_ret2
      exact ⟨rfl, rfl⟩
  · have d1 : 1 ≤ d := by omega
    have d2 : d ≤ 1099511627776 := by omega
    by_cases ht : t < 0 ∨ 1125899906842624 < t
    · rw [beginOf_time t d hd ht]
      clear hd
      rcases ht with h | h
      · go_enter Tryz.func45, Tryz.ntmps45
        go_wp2
        go_ret2
        exact ⟨rfl, rfl⟩
      · have h' : ¬ t < 0 := by omega
        go_enter Tryz.func45, Tryz.ntmps45
        go_wp2
        go_ret2
        exact ⟨rfl, rfl⟩
    · rw [beginOf_ok t d hd ht]
      have t1 : 0 ≤ t := by omega
      have t2 : t ≤ 1125899906842624 := by omega
      have hm : t % d ≤ t := by
        have h1 := Int.mul_ediv_add_emod t d
        have h2 : 0 ≤ d * (t / d) := Int.mul_nonneg (by omega) (Int.ediv_nonneg t1 (by omega))
        omega
      have hm0 : 0 ≤ t % d := Int.emod_nonneg t (by omega)
      clear hd ht
      have HE : Hid (t / d * d = t - t % d) := by
        have := Int.mul_ediv_add_emod t d
        rw [Int.mul_comm d] at this
        show t / d * d = t - t % d
        omega
      go_enter Tryz.func45, Tryz.ntmps45
      go_wp2
      go_ret2
      exact ⟨ret_pair HE.out.symm rfl, rfl⟩

/-- x != x -/
def nanB (x : Nat) : Bool := Ieee.double.order x x != some .eq

theorem lt_zero_signed (x : Nat) (h : x < 18446744073709551616) : decide (wrap64 (x : Int) < 0) = decide (9223372036854775808 ≤ x) := by
  have : wrap64 (x : Int) = if x < 9223372036854775808 then (x : Int) else (x : Int) - 18446744073709551616 := by
    unfold wrap64; split <;> omega
  rw [this]; split <;> simp <;> omega

def belowB (a b : Nat) : Bool :=
  if (FloatKind.f64.format.order a b == some .eq) = true then decide (9223372036854775808 ≤ a) && !decide (9223372036854775808 ≤ b) else FloatKind.f64.format.order a b == some .lt

end Go.Proofs.YthncochjhbmceaaGreat

namespace Go.Proofs.YthncochjhbmceaaGreat
set_option maxRecDepth 100000
open Go.RowKit

/-- The fields of a folder. -/
structure Fd where
  s : Nat
  l : Nat
  m : Nat
  lo : Bool
  hi : Bool
  n : Int

def Fd.cells (f : Fd) : Array Value := #[.float .f64 f.s, .float .f64 f.l, .float .f64 f.m, .bool f.lo, .bool f.hi, .int .i64 f.n]

/-- r may be the sum of x and y: of a sum that is no number, whatever NaN. -/
def FAdd (x y r : Nat) : Prop := Ieee.double.add x y = some r ∨ (Ieee.double.add x y = none ∧ nanB r = true ∧ r < 18446744073709551616)

/-- the sum that may stand behind the call -/
def SumTo (f : Fd) (sum r : Nat) : Prop := (f.n = 0 ∧ r = sum) ∨ (f.n ≠ 0 ∧ FAdd f.s sum r)

def takesLow (f : Fd) (x : Nat) : Bool := !nanB x && (!f.lo || belowB x f.l)
def takesHigh (f : Fd) (x : Nat) : Bool := !nanB x && (!f.hi || belowB f.m x)

def Fd.added (f : Fd) (r least most : Nat) : Fd :=
  { s := r, l := if takesLow f least then least else f.l, m := if takesHigh f most then most else f.m, lo := f.lo || takesLow f least, hi := f.hi || takesHigh f most, n := f.n + 1 }

theorem dbl_sign : Ieee.double.signWeight = 9223372036854775808 := by simp [Ieee.Format.signWeight, Ieee.double]
theorem dbl_binade : Ieee.double.binade = 4503599627370496 := by simp [Ieee.Format.binade, Ieee.double]
theorem dbl_inf : Ieee.double.infRung = 9218868437227405312 := by simp [Ieee.Format.infRung, Ieee.Format.binade, Ieee.double]

theorem read_nan (v : Nat) (h : 9218868437227405312 < v % 9223372036854775808) : ∃ s f, Ieee.double.read v = .nan s f := by
  unfold Ieee.Format.read
  rw [dbl_sign, dbl_binade, dbl_inf]
  dsimp only
  generalize v % 9223372036854775808 = r at *
  rw [if_neg (by omega), if_neg (by omega), if_neg (by omega)]
  exact ⟨_, _, rfl⟩

theorem nanB_of (v : Nat) (h : 9218868437227405312 < v % 9223372036854775808) : nanB v = true := by
  obtain ⟨s, f, hr⟩ := read_nan v h
  simp [nanB, Ieee.Format.order, hr, Ieee.Datum.order]

theorem nan_drawn (a b : Nat) (h1 : a < 2) (h2 : b < 4503599627370495) : nanB (a * 9223372036854775808 + 9218868437227405312 + 1 + b) = true ∧ a * 9223372036854775808 + 9218868437227405312 + 1 + b < 18446744073709551616 := by
  refine ⟨nanB_of _ ?_, by omega⟩
  omega

/-- the sum of two floats in the model: some r that may be it -/
theorem run_fadd {P : Program} (t : TypeId) (x y : Nat) (w : World) : ∃ r n, (binOp .add t (.float .f64 x) (.float .f64 y)).run P w = .ok (.float .f64 r) (w.drewN n) ∧ FAdd x y r := by
  cases h : Ieee.double.add x y with
  | some r => exact ⟨r, 0, by rw [run_float_arith w .add t .f64 x y r h]; rfl, .inl h⟩
  | none =>
    have h' : FloatKind.f64.format.add x y = none := h
    have hc : ∀ t, Question.cut (.nanBits .f64 x y) t = t % 2 * 9223372036854775808 + 9218868437227405312 + 1 + t / 2 % 4503599627370495 := fun t => by simp [Question.cut]
    have hn := nan_drawn (w.tape w.drawn (.nanBits .f64 x y) % 2) (w.tape w.drawn (.nanBits .f64 x y) / 2 % 4503599627370495) (Nat.mod_lt _ (by decide)) (Nat.mod_lt _ (by decide))
    rw [← hc] at hn
    refine ⟨_, 1, ?_, .inr ⟨h, hn⟩⟩
    simp [binOp, Op.floatArith, h', choose, Sem.run, Question.forced, World.drewN]


theorem run_store_f64 (P : Program) (w : World) (a : Addr) (m : Mode) (k : FloatKind) (b : Nat) : (store a (.float k b) m).run P w = stored P w a (.float k b) m := run_store P w a _ m rfl
attribute [local go_sem] run_store_f64

end Go.Proofs.YthncochjhbmceaaGreat

namespace Go.Proofs.YthncochjhbmceaaGreat
set_option maxRecDepth 100000
open Go.RowKit

def canon (x : Nat) : Nat := if nanB x then 9221120237041090560 else x

/-- A window's fields. -/
structure Win where
  start : Int
  count : Int
  sum : Nat
  min : Nat
  max : Nat
  last : Nat

def Win.cells (x : Win) : List Value := [.int .i64 x.start, .int .i64 x.count, .int .u64 x.sum, .int .u64 x.min, .int .u64 x.max, .int .u64 x.last]

def Fd.window (f : Fd) (start count : Int) (last : Nat) : Win :=
  if f.n = 0 then ⟨start, 0, 0, 0, 0, 0⟩ else ⟨start, count, canon f.s, if f.lo then canon f.l else 9221120237041090560, if f.hi then canon f.m else 9221120237041090560, last⟩

end Go.Proofs.YthncochjhbmceaaGreat

namespace Go.Proofs.YthncochjhbmceaaGreat
set_option maxRecDepth 100000
open Go.RowKit

/-- A sample. -/
structure Smp where
  t : Int
  v : Nat

def smpCells (l : List Smp) : List Value := l.flatMap fun s => [.int .i64 s.t, .int .u64 s.v]

theorem smpCells_length (l : List Smp) : (smpCells l).length = l.length * 2 := by
  induction l with
  | nil => rfl
  | cons a l ih => simp only [smpCells, List.flatMap_cons, List.length_append, List.length_cons, List.length_nil] at ih ⊢; omega

theorem smpCells_at (l : List Smp) : ∀ (k : Nat) (h : k < l.length), (smpCells l)[k * 2]? = some (.int .i64 l[k].t) ∧ (smpCells l)[k * 2 + 1]? = some (.int .u64 l[k].v) := by
  induction l with
  | nil => intro k h; simp at h
  | cons a l ih =>
    intro k h
    cases k with
    | zero => simp [smpCells]
    | succ k =>
      have e : smpCells (a :: l) = .int .i64 a.t :: .int .u64 a.v :: smpCells l := by simp [smpCells]
      rw [e]
      have := ih k (by simpa using h)
      rw [show (k + 1) * 2 = k * 2 + 1 + 1 from by omega]
      simpa using this

def Fd.zero : Fd := ⟨0, 0, 0, false, false, 0⟩

/-- f is what these (sum, least, greatest) may have been folded into. -/
inductive Folded : List (Nat × Nat × Nat) → Fd → Prop where
  | nil : Folded [] Fd.zero
  | snoc {l : List (Nat × Nat × Nat)} {f : Fd} {s r a b : Nat} : Folded l f → SumTo f s r → Folded (l ++ [(s, a, b)]) (f.added r a b)

theorem Folded.n {l : List (Nat × Nat × Nat)} {f : Fd} (h : Folded l f) : f.n = l.length := by
  induction h with
  | nil => rfl
  | snoc h _ ih => simp [Fd.added, ih]

theorem Folded.bits {l : List (Nat × Nat × Nat)} {f : Fd} (h : Folded l f) (hb : ∀ x ∈ l, x.2.1 < 18446744073709551616 ∧ x.2.2 < 18446744073709551616) : f.l < 18446744073709551616 ∧ f.m < 18446744073709551616 := by
  induction h with
  | nil => exact ⟨by decide, by decide⟩
  | @snoc l f s r a b h _ ih =>
    have h1 := ih (fun x hx => hb x (by simp [hx]))
    have h2 := hb (s, a, b) (by simp)
    simp only [Fd.added]
    constructor <;> split <;> simp_all

def Smp.three (s : Smp) : Nat × Nat × Nat := (s.v, s.v, s.v)

def lastV (l : List Smp) : Nat := match l.getLast? with | some s => s.v | none => 0

theorem lastV_snoc (l : List Smp) (s : Smp) : lastV (l ++ [s]) = s.v := by simp [lastV]

theorem take_succ_snoc {α : Type} (l : List α) (k : Nat) (h : k < l.length) : l.take (k + 1) = l.take k ++ [l[k]] := by
  rw [List.take_succ_eq_append_getElem h]

def Smp.ok (s : Smp) : Prop := s.v < 18446744073709551616

theorem three_bits {l : List Smp} (h : ∀ s ∈ l, s.ok) (k : Nat) : ∀ x ∈ (l.take k).map Smp.three, x.2.1 < 18446744073709551616 ∧ x.2.2 < 18446744073709551616 := by
  intro x hx
  obtain ⟨s, hs, rfl⟩ := List.mem_map.1 hx
  have := h s (List.mem_of_mem_take hs)
  simp only [Smp.three, Smp.ok] at *
  omega

def zeroWin : Array Value := #[.int .i64 0, .int .i64 0, .int .u64 0, .int .u64 0, .int .u64 0, .int .u64 0]

end Go.Proofs.YthncochjhbmceaaGreat

namespace Go.Proofs.YthncochjhbmceaaGreat
set_option maxRecDepth 100000
open Go.RowKit

def winCells (l : List Win) : List Value := l.flatMap Win.cells

theorem winCells_length (l : List Win) : (winCells l).length = l.length * 6 := by
  induction l with
  | nil => rfl
  | cons a l ih => simp only [winCells, List.flatMap_cons, List.length_append, List.length_cons, Win.cells, List.length_nil] at ih ⊢; omega

theorem winCells_cons (a : Win) (l : List Win) : winCells (a :: l) = .int .i64 a.start :: .int .i64 a.count :: .int .u64 a.sum :: .int .u64 a.min :: .int .u64 a.max :: .int .u64 a.last :: winCells l := by
  simp [winCells, Win.cells]

theorem winCells_at (l : List Win) : ∀ (k : Nat) (h : k < l.length), (winCells l)[k * 6]? = some (.int .i64 l[k].start) ∧ (winCells l)[k * 6 + 1]? = some (.int .i64 l[k].count) ∧ (winCells l)[k * 6 + 2]? = some (.int .u64 l[k].sum) ∧
    (winCells l)[k * 6 + 3]? = some (.int .u64 l[k].min) ∧ (winCells l)[k * 6 + 4]? = some (.int .u64 l[k].max) ∧ (winCells l)[k * 6 + 5]? = some (.int .u64 l[k].last) := by
  induction l with
  | nil => intro k h; simp at h
  | cons a l ih =>
    intro k h
    rw [winCells_cons]
    cases k with
    | zero => simp
    | succ k =>
      have := ih k (by simpa using h)
      rw [show (k + 1) * 6 = k * 6 + 1 + 1 + 1 + 1 + 1 + 1 from by omega]
      simpa using this

theorem smpCells_snoc (l : List Smp) (s : Smp) : smpCells (l ++ [s]) = smpCells l ++ [.int .i64 s.t, .int .u64 s.v] := by simp [smpCells]
theorem winCells_snoc (l : List Win) (s : Win) : winCells (l ++ [s]) = winCells l ++ [.int .i64 s.start, .int .i64 s.count, .int .u64 s.sum, .int .u64 s.min, .int .u64 s.max, .int .u64 s.last] := by simp [winCells, Win.cells]
theorem smpCells_one (l : List Smp) : ∀ u ∈ smpCells l, u.oneCell' = true := by
  intro u hu
  simp only [smpCells, List.mem_flatMap, List.mem_cons, List.not_mem_nil, or_false] at hu
  obtain ⟨s, _, rfl | rfl⟩ := hu <;> rfl
theorem winCells_one (l : List Win) : ∀ u ∈ winCells l, u.oneCell' = true := by
  intro u hu
  simp only [winCells, Win.cells, List.mem_flatMap, List.mem_cons, List.not_mem_nil, or_false] at hu
  obtain ⟨s, _, rfl | rfl | rfl | rfl | rfl | rfl⟩ := hu <;> rfl

theorem info_smp : (Tryz.prog.info? 68).map (fun i => (i.zero, i.size, i.bytes)) = some (some (.agg #[.int .i64 0, .int .u64 0]), 2, 16) := by kernel_rfl
theorem info_win : (Tryz.prog.info? 380).map (fun i => (i.zero, i.size, i.bytes)) = some (some (.agg #[.int .i64 0, .int .i64 0, .int .u64 0, .int .u64 0, .int .u64 0, .int .u64 0]), 6, 48) := by kernel_rfl
theorem info_rsmp : (Tryz.prog.info? 155).map (fun i => (i.zero, i.size, i.bytes)) = some (some (.agg #[.int .i64 0, .int .u64 0]), 2, 16) := by kernel_rfl
theorem info_rwin : (Tryz.prog.info? 381).map (fun i => (i.zero, i.size, i.bytes)) = some (some (.agg #[.int .i64 0, .int .i64 0, .int .u64 0, .int .u64 0, .int .u64 0, .int .u64 0]), 6, 48) := by kernel_rfl

theorem smp_cells_at {w wr : World} {A : Option Addr} {n : Nat} {l : List Smp} {B : Nat} (hr : Row w B 2 A n (smpCells l)) (hl : l.length = n) (hb : Below B w wr) (k : Nat) (hk : k < n) :
    ∃ gs o, A = some ⟨gs, o, none⟩ ∧ ∃ x, l[k]? = some x ∧ wr.cell? ⟨gs, o + k * 2, none⟩ = some (.int .i64 x.t) ∧ wr.cell? ⟨gs, o + k * 2 + 1, none⟩ = some (.int .u64 (x.v : Nat)) := by
  obtain ⟨gs, o, rfl, hgs, hc⟩ := hr.at_ (by omega)
  have hkl : k < l.length := by omega
  have hs := smpCells_at l k hkl
  exact ⟨gs, o, rfl, l[k], List.getElem?_eq_getElem hkl, ((hb.cell (p := ⟨gs, o + k * 2, none⟩) hgs).trans (hc (k * 2) (by omega))).trans hs.1, ((hb.cell (p := ⟨gs, o + k * 2 + 1, none⟩) hgs).trans (hc (k * 2 + 1) (by omega))).trans hs.2⟩
theorem win_cells_at {w wr : World} {A : Option Addr} {n : Nat} {l : List Win} {B : Nat} (hr : Row w B 6 A n (winCells l)) (hl : l.length = n) (hb : Below B w wr) (k : Nat) (hk : k < n) :
    ∃ gs o, A = some ⟨gs, o, none⟩ ∧ gs < B ∧ ∃ x, l[k]? = some x ∧ wr.cell? ⟨gs, o + k * 6, none⟩ = some (.int .i64 x.start) ∧ wr.cell? ⟨gs, o + k * 6 + 1, none⟩ = some (.int .i64 x.count) ∧ wr.cell? ⟨gs, o + k * 6 + 2, none⟩ = some (.int .u64 (x.sum : Nat)) ∧
      wr.cell? ⟨gs, o + k * 6 + 3, none⟩ = some (.int .u64 (x.min : Nat)) ∧ wr.cell? ⟨gs, o + k * 6 + 4, none⟩ = some (.int .u64 (x.max : Nat)) ∧ wr.cell? ⟨gs, o + k * 6 + 5, none⟩ = some (.int .u64 (x.last : Nat)) := by
  obtain ⟨gs, o, rfl, hgs, hc⟩ := hr.at_ (by omega)
  have hkl : k < l.length := by omega
  have hs := winCells_at l k hkl
  have hx : ∀ j u, j < 6 → (winCells l)[k * 6 + j]? = some u → wr.cell? ⟨gs, o + (k * 6 + j), none⟩ = some u := fun j u hj hu => ((hb.cell (p := ⟨gs, o + (k * 6 + j), none⟩) hgs).trans (hc (k * 6 + j) (by omega))).trans hu
  exact ⟨gs, o, rfl, hgs, l[k], List.getElem?_eq_getElem hkl, hx 0 _ (by omega) hs.1, hx 1 _ (by omega) hs.2.1, hx 2 _ (by omega) hs.2.2.1, hx 3 _ (by omega) hs.2.2.2.1, hx 4 _ (by omega) hs.2.2.2.2.1, hx 5 _ (by omega) hs.2.2.2.2.2⟩

end Go.Proofs.YthncochjhbmceaaGreat
