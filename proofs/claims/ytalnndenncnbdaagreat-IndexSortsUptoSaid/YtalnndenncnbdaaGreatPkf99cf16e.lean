/- An index as it lies, and what it tells. No program is walked here. index.New and Len, walked. Condition: the index is one. Cursors of the package post: what one tells (a rising list), and how it lies in memory. No program is walked here. -/
import Derived.Test.YtalnndenncnbdaaGreatPk6aa95f8a
import Derived.Test.YtalnndenncnbdaaGreatPk94eec38b
import Derived.Test.YtalnndenncnbdaaGreatBase
namespace Go.Proofs.YtalnndenncnbdaaGreat
set_option maxRecDepth 100000
open Go.RowKit

/-! plain -/
theorem enc_inj {l k : List Lbl} (hl : validP l) (hk : validP k) (h : (encLb l).1 = (encLb k).1) : l = k := by
  rw [encLb_ok hl, encLb_ok hk] at h
  have e : uintL l.length ++ encB l = uintL k.length ++ encB k := by simpa using h
  have a := decL_at (s := uintL l.length ++ encB l) (rest := []) (a := 0) hl (by omega) (by simp)
  have b := decL_at (s := uintL l.length ++ encB l) (rest := []) (a := 0) hk (by omega) (by simp [e])
  rw [a] at b
  exact congrArg Prod.fst b
theorem enc_fit {l : List Lbl} : (encLb l).2 = 0 ↔ validP l := by
  constructor
  · intro h
    by_cases h1 : makeErr l = 0
    · by_cases h2 : validP l
      · exact h2
      · rw [encLb_bad h1 h2] at h; cases h
    · rw [encLb_err h1] at h
      simp only at h
      omega
  · intro h
    rw [encLb_ok h]
open Classical in
/-- the number of a set -/
noncomputable def atE (E : List (List Lbl)) (l : List Lbl) : Option Nat := E.findIdx? fun x => decide (x = l)
theorem atE_none {E : List (List Lbl)} {l : List Lbl} : atE E l = none ↔ l ∉ E := by
  simp only [atE, List.findIdx?_eq_none_iff, decide_eq_false_iff_not]
  exact ⟨fun h hm => h l hm rfl, fun h x hx e => h (e ▸ hx)⟩
theorem atE_some {E : List (List Lbl)} {l : List Lbl} {i : Nat} (h : atE E l = some i) : E[i]? = some l := by
  obtain ⟨hi, h1, _⟩ := List.findIdx?_eq_some_iff_getElem.1 h
  rw [List.getElem?_eq_getElem hi]
  simpa using h1
theorem atE_at {E : List (List Lbl)} (hn : E.Nodup) {l : List Lbl} {i : Nat} (h : E[i]? = some l) : atE E l = some i := by
  obtain ⟨hi, e⟩ := List.getElem?_eq_some_iff.1 h
  refine List.findIdx?_eq_some_iff_getElem.2 ⟨hi, by simpa using e, fun j hj => ?_⟩
  have := List.pairwise_iff_getElem.1 hn j i (by omega) hi hj
  rw [e] at this
  simpa using this
open Classical in
theorem atE_enc {E : List (List Lbl)} (hE : ∀ x ∈ E, validP x) {l : List Lbl} (hl : validP l) : E.findIdx? (fun x => decide ((encLb x).1 = (encLb l).1)) = atE E l := by
  have : ∀ x ∈ E, decide ((encLb x).1 = (encLb l).1) = decide (x = l) := fun x hx => decide_eq_decide.2 ⟨fun h => enc_inj (hE x hx) hl h, fun h => by rw [h]⟩
  induction E with
  | nil => rfl
  | cons x E ih =>
    simp only [atE, List.findIdx?_cons]
    rw [this x (by simp), ih (fun y hy => hE y (by simp [hy])) fun y hy => this y (by simp [hy])]
    rfl
/-- what an index's Add answers, and what it is then -/
noncomputable def addE (E : List (List Lbl)) (l : List Lbl) : (Int × Bool × Int) × List (List Lbl) :=
  if (encLb l).2 ≠ 0 then ((0, false, (encLb l).2), E) else
  match atE E l with
  | some i => (((i : Nat), false, 0), E)
  | none => ((E.length, true, 0), E ++ [l])
/-- all labels, each with its set's number -/
def flatE (E : List (List Lbl)) : List (Int × Lbl) := E.zipIdx.flatMap fun p => p.1.map fun x => (((p.2 : Nat) : Int), x)
theorem flatE_snoc (E : List (List Lbl)) (l : List Lbl) : flatE (E ++ [l]) = flatE E ++ l.map fun x => (((E.length : Nat) : Int), x) := by simp [flatE, List.zipIdx_append]
theorem flatE_len (E : List (List Lbl)) (h : ∀ l ∈ E, l.length ≤ 8) : (flatE E).length ≤ 8 * E.length := by
  unfold flatE
  generalize 0 = k
  induction E generalizing k with
  | nil => simp
  | cons l E ih =>
    have h1 := ih (fun x hx => h x (by simp [hx])) (k + 1)
    have h2 := h l (by simp)
    simp only [List.zipIdx_cons, List.flatMap_cons, List.length_append, List.length_map, List.length_cons]
    omega

/-! how it lies -/
/-- a set in a block of its own -/
structure SetR where
  v : Value
  l : List Lbl
/-- all but the lists -/
structure IdxB (w : World) (base p : Nat) (sv : Value) (L : List SetR) (bn bl : Nat) (mn : List (Value × Value)) : Prop where
  blk : Whole1 w p 84 #[sv, .map (some bn), .map (some bl)]
  pb : base ≤ p
  sets : w.ownsRow base 23 1 sv L.length (L.map SetR.v)
  lab : ∀ s ∈ L, w.ownsRow base 40 2 s.v s.l.length (s.l.flatMap Lbl.cells)
  num : MapV IsStr w bn mn
  nb : base ≤ bn
  ne : bn ≠ bl
open Classical in
structure IdxG (w : World) (base p : Nat) (sv : Value) (L : List SetR) (bn bl : Nat) (mn ml : List (Value × Value)) (oM : Nat → Option ByteArray) (oI : Nat → Option Lbl) : Prop where
  b : IdxB w base p sv L bn bl mn
  val : ∀ s ∈ L, validP s.l
  dist : (L.map SetR.l).Nodup
  find : ∀ s : ByteArray, atV mn (.string s) = ((L.map SetR.l).findIdx? fun x => decide ((encLb x).1 = s)).map fun i => .int .i64 (i : Nat)
  lists : ListsG w base bl ml oM oI (fun nm => ∃ y ∈ flatE (L.map SetR.l), y.2.name = nm) (flatE (L.map SetR.l))
  noM : oM bn = none
/-- AN INDEX OF THESE SETS -/
def Idx (w : World) (base p : Nat) (E : List (List Lbl)) : Prop := ∃ sv L bn bl mn ml oM oI, IdxG w base p sv L bn bl mn ml oM oI ∧ L.map SetR.l = E
section
variable {w w' : World} {base b p bn bl : Nat} {sv : Value} {L : List SetR} {mn ml : List (Value × Value)} {oM : Nat → Option ByteArray} {oI : Nat → Option Lbl} {ts : List TypeId} {mp : Bool}
theorem IdxB.turn (h : IdxB w base p sv L bn bl mn) (k : Turn b ts false w w') (h1 : 84 ∉ ts) (h2 : 23 ∉ ts) (h3 : 40 ∉ ts) : IdxB w' base p sv L bn bl mn :=
  ⟨k.whole h.blk (.inr h1), h.pb, k.own h.sets (.inl h2), fun s hs => k.own (h.lab s hs) (.inl h3), k.mapV h.num (.inr rfl), h.nb, h.ne⟩
theorem IdxB.store {g : Nat} {m : List (Value × Value)} (h : IdxB w base p sv L bn bl mn) (hm : MapV IsStr w g m) (hg : w.grownBy w' (some g)) (hne : g ≠ bn) : IdxB w' base p sv L bn bl mn := by
  have k : Turn 0 [] true w w' := Turn.of_map hm (Nat.zero_le _) hg
  exact ⟨k.whole h.blk (.inr (by simp)), h.pb, k.own h.sets (.inl (by simp)), fun s hs => k.own (h.lab s hs) (.inl (by simp)), h.num.kept (hg.block bn h.num.lt (by simpa using Ne.symm hne)), h.nb, h.ne⟩
theorem IdxG.turn (h : IdxG w base p sv L bn bl mn ml oM oI) (k : Turn b ts false w w') (h1 : 84 ∉ ts) (h2 : 23 ∉ ts) (h3 : 40 ∉ ts) (h4 : 3 ∉ ts) : IdxG w' base p sv L bn bl mn ml oM oI :=
  ⟨h.b.turn k h1 h2 h3, h.val, h.dist, h.find, h.lists.turn k h4, h.noM⟩
theorem Idx.turn {E : List (List Lbl)} (h : Idx w base p E) (k : Turn b ts false w w') (h1 : 84 ∉ ts) (h2 : 23 ∉ ts) (h3 : 40 ∉ ts) (h4 : 3 ∉ ts) : Idx w' base p E := by
  obtain ⟨sv, L, bn, bl, mn, ml, oM, oI, h, e⟩ := h
  exact ⟨sv, L, bn, bl, mn, ml, oM, oI, h.turn k h1 h2 h3 h4, e⟩
theorem Idx.below {E : List (List Lbl)} (h : Idx w base p E) (k : Below w.heap.size w w') : Idx w' base p E :=
  h.turn (Turn.of_below k w.heap.size [] false) (by simp) (by simp) (by simp) (by simp)
theorem Idx.valid {E : List (List Lbl)} (h : Idx w base p E) : (∀ l ∈ E, validP l) ∧ E.Nodup := by
  obtain ⟨sv, L, bn, bl, mn, ml, oM, oI, h, rfl⟩ := h
  exact ⟨fun l hl => by obtain ⟨s, hs, rfl⟩ := List.mem_map.1 hl; exact h.val s hs, h.dist⟩
/-- the number that is kept at a set's bytes -/
theorem IdxG.at_ (h : IdxG w base p sv L bn bl mn ml oM oI) {l : List Lbl} (hl : validP l) : atV mn (.string (encLb l).1) = (atE (L.map SetR.l) l).map fun i => .int .i64 (i : Nat) := by
  rw [h.find, atE_enc (fun x hx => by obtain ⟨s, hs, rfl⟩ := List.mem_map.1 hx; exact h.val s hs) hl]
open Classical in
/-- one set more: all of it -/
theorem IdxG.added {w5 : World} {x : SetR} {mn' ml' : List (Value × Value)} {sv' : Value} {oM' : Nat → Option ByteArray} {oI' : Nat → Option Lbl} (h : IdxG w base p sv L bn bl mn ml oM oI) (hx : validP x.l) (h0 : atE (L.map SetR.l) x.l = none)
    (hmn : mn' = putV mn (.string (encLb x.l).1) (.int .i64 (L.length : Nat))) (hb : IdxB w5 base p sv' (L ++ [x]) bn bl mn')
    (hl : ListsG w5 base bl ml' oM' oI' (fun nm => ∃ y ∈ flatE (L.map SetR.l) ++ x.l.map (fun z => (((L.length : Nat) : Int), z)), y.2.name = nm) (flatE (L.map SetR.l) ++ x.l.map fun z => (((L.length : Nat) : Int), z))) (ho : oM' bn = none) :
    IdxG w5 base p sv' (L ++ [x]) bn bl mn' ml' oM' oI' := by
  have hE : ∀ y ∈ L.map SetR.l, validP y := fun y hy => by obtain ⟨s, hs, rfl⟩ := List.mem_map.1 hy; exact h.val s hs
  have hf : flatE ((L ++ [x]).map SetR.l) = flatE (L.map SetR.l) ++ x.l.map fun z => (((L.length : Nat) : Int), z) := by
    rw [List.map_append, List.map_singleton, flatE_snoc, List.length_map]
  refine ⟨hb, fun s hs => ?_, ?_, fun s => ?_, by rw [hf]; exact hl, ho⟩
  · rcases List.mem_append.1 hs with hs | hs
    · exact h.val s hs
    · simp at hs; rw [hs]; exact hx
  · rw [List.map_append, List.map_singleton, List.nodup_append]
    refine ⟨h.dist, by simp, fun a ha c hc e => ?_⟩
    simp at hc
    rw [hc] at e
    rw [e] at ha
    exact atE_none.1 h0 ha
  · rw [hmn]
    by_cases e : s = (encLb x.l).1
    · subst e
      rw [atV_put_same, List.map_append, List.map_singleton, List.findIdx?_append, atE_enc hE hx, h0]
      simp
    · rw [atV_put_other _ _ _ (by simpa using e), h.find, List.map_append, List.map_singleton, List.findIdx?_append]
      have : List.findIdx? (fun y => decide ((encLb y).1 = s)) [x.l] = none := by simp [Ne.symm e]
      rw [this]
      simp
end
end Go.Proofs.YtalnndenncnbdaaGreat

namespace Go.Proofs.YtalnndenncnbdaaGreat
set_option maxRecDepth 100000
open Go.RowKit

theorem mk81 (w : World) : (Instr.makeMap 81 none).run Tryz.prog w = .ok (.map (some w.heap.size)) (w.alloc (.map #[] 0)) := by simp [Instr.makeMap, Result.andThen]
theorem mk82 (w : World) : (Instr.makeMap 82 none).run Tryz.prog w = .ok (.map (some w.heap.size)) (w.alloc (.map #[] 0)) := by simp [Instr.makeMap, Result.andThen]
theorem idx_made {w w' : World} {base : Nat} (hb : base ≤ w.heap.size) (hw : ((w.alloc (.map #[] 0)).alloc (.map #[] 0)).alloc (.cells #[.slice none 0 0, .map (some w.heap.size), .map (some (w.heap.size + 1))] 84) = w') : Idx w' base (w.heap.size + 2) [] ∧ Below w.heap.size w w' := by
  subst hw
  have hblk := Whole1.new ((w.alloc (.map #[] 0)).alloc (.map #[] 0)) 84 #[.slice none 0 0, .map (some w.heap.size), .map (some (w.heap.size + 1))]
  have hm1 := mapV_made IsStr w
  have hm2 := mapV_made IsStr (w.alloc (.map #[] 0))
  have b1 : Below (w.alloc (.map #[] 0)).heap.size (w.alloc (.map #[] 0)) (((w.alloc (.map #[] 0)).alloc (.map #[] 0)).alloc (.cells #[.slice none 0 0, .map (some w.heap.size), .map (some (w.heap.size + 1))] 84)) := ((Below.refl _ _).alloc (Nat.le_refl _) _).alloc (by simp) _
  have b2 : Below ((w.alloc (.map #[] 0)).alloc (.map #[] 0)).heap.size ((w.alloc (.map #[] 0)).alloc (.map #[] 0)) (((w.alloc (.map #[] 0)).alloc (.map #[] 0)).alloc (.cells #[.slice none 0 0, .map (some w.heap.size), .map (some (w.heap.size + 1))] 84)) := (Below.refl _ _).alloc (Nat.le_refl _) _
  have h1 := hm1.kept (b1.block _ hm1.lt)
  have h2 := hm2.kept (b2.block _ hm2.lt)
  simp only [World.size_alloc] at hblk h2
  refine ⟨⟨.slice none 0 0, [], w.heap.size, w.heap.size + 1, [], [], fun _ => none, fun _ => none, ⟨⟨hblk, by omega, World.ownsRow_nil _ _ _ _, by simp, h1, by omega, by omega⟩, by simp, by simp, fun s => by simp [atV], ?_, rfl⟩, rfl⟩, ?_⟩
  · have := listsG_new h2 (base := base) (by omega)
    simpa [flatE] using this
  · exact ((((Below.refl w.heap.size w).alloc (Nat.le_refl _) _).alloc (by simp) _).alloc (by simp; omega) _)
theorem idx_new (w : World) {base : Nat} (hb : base ≤ w.heap.size) :
    Calls Tryz.prog 36 #[] w fun e w' => ∃ p, e = .returned (.pointer (some ⟨p, 0, none⟩)) ∧ Idx w' base p [] ∧ Below w.heap.size w w' := by
  have M1 := mk81
  have M2 := mk82
  have HI := hidden (idx_made hb rfl)
  go_enter Tryz.func36, Tryz.ntmps36
  go_wp2_with fail
  go_ret
  exact ⟨_, rfl, HI.out⟩
theorem idx_len (w : World) {base p : Nat} {E : List (List Lbl)} (h : Idx w base p E) :
    Calls Tryz.prog 26 #[.pointer (some ⟨p, 0, none⟩)] w fun e w' => e = .returned (.int .i64 (E.length : Int)) ∧ w' = w := by
  obtain ⟨sv, L, bn, bl, mn, ml, oM, oI, h, rfl⟩ := h
  obtain ⟨A, c, rfl, _, _⟩ := own_shape h.b.sets
  have c0 := h.b.blk.cell 0
  rw [List.length_map]
  clear h
  go_enter Tryz.func26, Tryz.ntmps26
  go_wp2_with fail
  go_ret
  exact ⟨rfl, rfl⟩
end Go.Proofs.YtalnndenncnbdaaGreat

namespace Go.Proofs.YtalnndenncnbdaaGreat
set_option maxRecDepth 100000
open Go.RowKit

/-! rising lists -/
def rising (E : List Int) : Prop := E.Pairwise (· < ·)
def geL (n : Int) (E : List Int) : List Int := E.filter fun x => decide (n ≤ x)
theorem mem_geL {n x : Int} {E : List Int} : x ∈ geL n E ↔ x ∈ E ∧ n ≤ x := by simp [geL]
theorem rising_geL {E : List Int} (h : rising E) (n : Int) : rising (geL n E) := List.Pairwise.filter _ h
theorem geL_geL (n m : Int) (E : List Int) : geL n (geL m E) = geL (max n m) E := by
  simp only [geL, List.filter_filter]
  congr 1
  funext x
  rw [← Bool.decide_and]
  exact decide_eq_decide.2 (by omega)
theorem geL_all {n : Int} {E : List Int} (h : ∀ x ∈ E, n ≤ x) : geL n E = E := List.filter_eq_self.2 fun x hx => by simpa using h x hx
theorem geL_nil (n : Int) : geL n [] = [] := rfl
theorem rising_ext : ∀ {E D : List Int}, rising E → rising D → (∀ x, x ∈ E ↔ x ∈ D) → E = D
  | [], [], _, _, _ => rfl
  | [], d :: D, _, _, h => absurd ((h d).2 (by simp)) (by simp)
  | e :: E, [], _, _, h => absurd ((h e).1 (by simp)) (by simp)
  | e :: E, d :: D, hE, hD, h => by
    obtain ⟨h1, h2⟩ := List.pairwise_cons.1 hE
    obtain ⟨k1, k2⟩ := List.pairwise_cons.1 hD
    have hed : e = d := by
      have a := (h e).1 (by simp)
      have b := (h d).2 (by simp)
      rcases List.mem_cons.1 a with a | a
      · exact a
      · rcases List.mem_cons.1 b with b | b
        · exact b.symm
        · have := k1 e a; have := h1 d b; omega
    subst hed
    congr 1
    refine rising_ext h2 k2 fun x => ⟨fun hx => ?_, fun hx => ?_⟩
    · rcases List.mem_cons.1 ((h x).1 (List.mem_cons_of_mem _ hx)) with e1 | e1
      · have := h1 x hx; omega
      · exact e1
    · rcases List.mem_cons.1 ((h x).2 (List.mem_cons_of_mem _ hx)) with e1 | e1
      · have := k1 x hx; omega
      · exact e1
/-- the answer of a list's first number -/
def ansL : List Int → Ending
  | [] => .returned (.tuple #[.int .i64 0, .bool false])
  | x :: _ => .returned (.tuple #[.int .i64 x, .bool true])
def inI (n : Int) : Prop := -9223372036854775808 ≤ n ∧ n ≤ 9223372036854775807

/-! only the blocks of a set, and what is new, may have turned -/
structure Kp (F : Nat → Prop) (a w : World) : Prop where
  os : w.os = a.os
  tape : w.tape = a.tape
  output : w.output = a.output
  size : a.heap.size ≤ w.heap.size
  block : ∀ k, k < a.heap.size → ¬ F k → w.heap[k]? = a.heap[k]?
section
variable {F G : Nat → Prop} {a b c w w' : World}
theorem Kp.refl (F : Nat → Prop) (w : World) : Kp F w w := ⟨rfl, rfl, rfl, Nat.le_refl _, fun _ _ _ => rfl⟩
theorem Kp.trans (h : Kp F a b) (k : Kp F b c) : Kp F a c :=
  ⟨k.os.trans h.os, k.tape.trans h.tape, k.output.trans h.output, Nat.le_trans h.size k.size, fun i hi hn => (k.block i (Nat.lt_of_lt_of_le hi h.size) hn).trans (h.block i hi hn)⟩
theorem Kp.wider (h : Kp F a b) (k : ∀ i, F i → G i) : Kp G a b := ⟨h.os, h.tape, h.output, h.size, fun i hi hn => h.block i hi fun e => hn (k i e)⟩
theorem Kp.of_below (h : Below a.heap.size a w) (F : Nat → Prop) : Kp F a w := ⟨h.os, h.tape, h.output, h.size, fun i hi _ => h.block i hi⟩
theorem Kp.drew (h : Kp F a w) : Kp F a w.drew := ⟨h.os, h.tape, h.output, h.size, h.block⟩
theorem Kp.drewN (h : Kp F a w) (n : Nat) : Kp F a (w.drewN n) := ⟨h.os, h.tape, h.output, h.size, h.block⟩
theorem Kp.alloc (h : Kp F a w) (o : Obj) : Kp F a (w.alloc o) := h.trans ⟨rfl, rfl, rfl, by simp, fun i hi _ => Below.heap_alloc w o i hi⟩
theorem Kp.put (h : Kp F a w) {g : Nat} (hg : F g) (i : Nat) (u : Value) : Kp F a (w.setCell ⟨g, i, none⟩ u) :=
  h.trans ⟨rfl, rfl, rfl, by simp, fun k _ hk => Below.heap_setCell w _ u k (fun e => hk (by rw [e]; exact hg))⟩
theorem Kp.below {B : Nat} (h : Kp F a w) (hF : ∀ k, F k → B ≤ k) (hB : B ≤ a.heap.size) : Below B a w := ⟨h.os, h.tape, h.output, h.size, fun k hk => h.block k (by omega) fun e => by have := hF k e; omega⟩
end

/-! how it lies -/
theorem Row.keep1 {w w' : World} {B B' size n : Nat} {A : Option Addr} {xs : List Value} (h : Row w B size A n xs) (hB : B ≤ B') (hk : 0 < n → ∀ g o, A = some ⟨g, o, none⟩ → w'.heap[g]? = w.heap[g]?) : Row w' B' size A n xs :=
  ⟨h.len, fun hn => by
    obtain ⟨g, o, e, hb, hc⟩ := h.at_ hn
    exact ⟨g, o, e, by omega, fun j hj => (World.cell?_of_block (w := w) (a := ⟨g, o + j, none⟩) (hk hn g o e)).trans (hc j hj)⟩⟩
/-- the block that a row's address is of -/
def blockOf (A : Option Addr) (k : Nat) : Prop := ∃ o, A = some ⟨k, o, none⟩
def Src := World → Value → List Int → (Nat → Prop) → Prop
def IsList : Src := fun w v E F => ∃ lb A n c, v = .iface 191 (.pointer (some ⟨lb, 0, none⟩)) ∧ Whole1 w lb 193 #[.slice A n c] ∧ Row w w.heap.size 1 A n (E.map (Value.int .i64)) ∧ n ≤ c ∧ n * 8 ≤ 140737488355328 ∧ (0 < n → ¬ blockOf A lb) ∧ (F lb ∧ ∀ k, 0 < n → blockOf A k → F k) ∧ rising E ∧ (∀ x ∈ E, inI x) ∧ ∀ k, F k → k < w.heap.size
def CurOf (S : Src) : Src := fun w p E F =>
  (p = .pointer none ∧ E = [] ∧ ∀ k, ¬ F k) ∨
  ∃ b v fr dn E0 F0, p = .pointer (some ⟨b, 0, none⟩) ∧ Whole1 w b 229 #[v, .int .i64 fr, .bool dn] ∧ ¬ F0 b ∧ S w v E0 F0 ∧ inI fr ∧ (∀ k, F k ↔ k = b ∨ F0 k) ∧ E = if dn = true then [] else geL fr E0
/-- a cursor among others: its pointer, its list, its blocks -/
structure Kid where
  p : Value
  E : List Int
  F : Nat → Prop
def Kids (S : Src) (w : World) (A : Option Addr) (cs : List Kid) (F : Nat → Prop) : Prop :=
  Row w w.heap.size 1 A cs.length (cs.map Kid.p) ∧ (∀ x ∈ cs, CurOf S w x.p x.E x.F) ∧ (cs.Pairwise fun x y => ∀ k, ¬ (x.F k ∧ y.F k)) ∧ (∀ x ∈ cs, ∀ k, x.F k → ¬ blockOf A k) ∧ ((∀ k, cs ≠ [] → blockOf A k → F k) ∧ ∀ x ∈ cs, ∀ k, x.F k → F k) ∧ ∀ k, F k → k < w.heap.size
def IsAnd (S : Src) : Src := fun w v E F => ∃ A n c cs, v = .iface 162 (.slice A n c) ∧ cs.length = n ∧ n ≤ 4611686018427387904 ∧ Kids S w A cs F ∧ rising E ∧ ∀ x, x ∈ E ↔ cs ≠ [] ∧ ∀ y ∈ cs, x ∈ y.E
def IsOr (S : Src) : Src := fun w v E F => ∃ A n c cs, v = .iface 225 (.slice A n c) ∧ cs.length = n ∧ n ≤ 4611686018427387904 ∧ Kids S w A cs F ∧ rising E ∧ ∀ x, x ∈ E ↔ ∃ y ∈ cs, x ∈ y.E
def IsWo (S : Src) : Src := fun w v E F => ∃ x y : Kid, v = .iface 224 (.agg #[x.p, y.p]) ∧ CurOf S w x.p x.E x.F ∧ CurOf S w y.p y.E y.F ∧ (∀ k, ¬ (x.F k ∧ y.F k)) ∧ (∀ k, F k ↔ x.F k ∨ y.F k) ∧ rising E ∧ ∀ z, z ∈ E ↔ z ∈ x.E ∧ z ∉ y.E
def IsSrc : Nat → Src
  | 0 => IsList
  | d + 1 => fun w v E F => IsList w v E F ∨ IsAnd (IsSrc d) w v E F ∨ IsOr (IsSrc d) w v E F ∨ IsWo (IsSrc d) w v E F

/-! what a source's blocks bear is all that it asks -/
def FrameOk (S : Src) : Prop := ∀ w w' v E F, S w v E F → w.heap.size ≤ w'.heap.size → (∀ k, F k → w'.heap[k]? = w.heap[k]?) → S w' v E F
def RiseOk (S : Src) : Prop := ∀ w v E F, S w v E F → rising E ∧ ∀ x ∈ E, inI x
theorem whole_keep {w w' : World} {g : Nat} {t : TypeId} {cs : Array Value} (h : Whole1 w g t cs) (k : w'.heap[g]? = w.heap[g]?) : Whole1 w' g t cs := k.trans h
theorem list_frame : FrameOk IsList := by
  rintro w w' v E F ⟨lb, A, n, c, rfl, h1, h2, h3, h4, h5, h6, h7, h8, h9⟩ hs hk
  refine ⟨lb, A, n, c, rfl, whole_keep h1 (hk lb h6.1), h2.keep1 hs fun hn g o e => hk g (h6.2 g hn ⟨o, e⟩), h3, h4, h5, h6, h7, h8, fun k hb => Nat.lt_of_lt_of_le (h9 k hb) hs⟩
theorem cur_frame {S : Src} (h : FrameOk S) : FrameOk (CurOf S) := by
  rintro w w' v E F (h0 | ⟨b, v, fr, dn, E0, F0, rfl, h1, h2, h3, h4, h5, h6⟩) hs hk
  · exact .inl h0
  · exact .inr ⟨b, v, fr, dn, E0, F0, rfl, whole_keep h1 (hk b ((h5 b).2 (.inl rfl))), h2, h _ _ _ _ _ h3 hs fun k hF => hk k ((h5 k).2 (.inr hF)), h4, h5, h6⟩
theorem kids_frame {S : Src} (h : FrameOk S) {w w' : World} {A : Option Addr} {cs : List Kid} {F : Nat → Prop} (hK : Kids S w A cs F) (hs : w.heap.size ≤ w'.heap.size) (hk : ∀ k, F k → w'.heap[k]? = w.heap[k]?) : Kids S w' A cs F := by
  obtain ⟨h1, h2, h3, h4, h5, h6⟩ := hK
  exact ⟨h1.keep1 hs fun hn g o e => hk g (h5.1 g (fun e => by rw [e] at hn; simp at hn) ⟨o, e⟩), fun x hx => cur_frame h _ _ _ _ _ (h2 x hx) hs fun k hF => hk k (h5.2 x hx k hF), h3, h4, h5, fun k hb => Nat.lt_of_lt_of_le (h6 k hb) hs⟩
theorem src_frame : ∀ d, FrameOk (IsSrc d)
  | 0 => list_frame
  | d + 1 => by
    rintro w w' v E F (h | ⟨A, n, c, cs, rfl, h1, h2, h3, h4, h5⟩ | ⟨A, n, c, cs, rfl, h1, h2, h3, h4, h5⟩ | ⟨x, y, rfl, h1, h2, h3, h4, h5, h6⟩) hs hk
    · exact .inl (list_frame _ _ _ _ _ h hs hk)
    · exact .inr (.inl ⟨A, n, c, cs, rfl, h1, h2, kids_frame (src_frame d) h3 hs hk, h4, h5⟩)
    · exact .inr (.inr (.inl ⟨A, n, c, cs, rfl, h1, h2, kids_frame (src_frame d) h3 hs hk, h4, h5⟩))
    · exact .inr (.inr (.inr ⟨x, y, rfl, cur_frame (src_frame d) _ _ _ _ _ h1 hs fun k hF => hk k ((h4 k).2 (.inl hF)), cur_frame (src_frame d) _ _ _ _ _ h2 hs fun k hF => hk k ((h4 k).2 (.inr hF)), h3, h4, h5, h6⟩))
theorem cur_rise {S : Src} (h : RiseOk S) : RiseOk (CurOf S) := by
  rintro w v E F (⟨rfl, rfl, _⟩ | ⟨b, v, fr, dn, E0, F0, rfl, h1, h2, h3, h4, h5, rfl⟩)
  · exact ⟨List.Pairwise.nil, by simp⟩
  · obtain ⟨r1, r2⟩ := h _ _ _ _ h3
    cases dn
    · exact ⟨rising_geL r1 _, fun x hx => r2 x (mem_geL.1 hx).1⟩
    · exact ⟨List.Pairwise.nil, by simp⟩
theorem src_rise : ∀ d, RiseOk (IsSrc d)
  | 0 => by rintro w v E F ⟨lb, A, n, c, rfl, h1, h2, h3, h4, h5, h6, h7, h8, h9⟩; exact ⟨h7, h8⟩
  | d + 1 => by
    rintro w v E F (⟨lb, A, n, c, rfl, h1, h2, h3, h4, h5, h6, h7, h8, h9⟩ | ⟨A, n, c, cs, rfl, h1, h2, h3, h4, h5⟩ | ⟨A, n, c, cs, rfl, h1, h2, h3, h4, h5⟩ | ⟨x, y, rfl, h1, h2, h3, h4, h5, h6⟩)
    · exact ⟨h7, h8⟩
    · refine ⟨h4, fun x hx => ?_⟩
      obtain ⟨hne, hall⟩ := (h5 x).1 hx
      obtain ⟨y, hy⟩ := List.exists_mem_of_ne_nil cs hne
      exact (cur_rise (src_rise d) _ _ _ _ (h3.2.1 y hy)).2 x (hall y hy)
    · refine ⟨h4, fun x hx => ?_⟩
      obtain ⟨y, hy, hxy⟩ := (h5 x).1 hx
      exact (cur_rise (src_rise d) _ _ _ _ (h3.2.1 y hy)).2 x hxy
    · exact ⟨h5, fun z hz => (cur_rise (src_rise d) _ _ _ _ h1).2 z ((h6 z).1 hz).1⟩
def OldOk (S : Src) : Prop := ∀ w v E F, S w v E F → ∀ k, F k → k < w.heap.size
theorem cur_old {S : Src} (h : OldOk S) : OldOk (CurOf S) := by
  rintro w v E F (⟨rfl, rfl, h0⟩ | ⟨b, v, fr, dn, E0, F0, rfl, h1, h2, h3, h4, h5, rfl⟩) k hk
  · exact absurd hk (h0 k)
  · rcases (h5 k).1 hk with rfl | hk
    · exact h1.lt
    · exact h _ _ _ _ h3 k hk
theorem kids_old {S : Src} {w : World} {A : Option Addr} {cs : List Kid} {F : Nat → Prop} (hK : Kids S w A cs F) : ∀ k, F k → k < w.heap.size := fun k hk => by
  exact hK.2.2.2.2.2 k hk
theorem src_old : ∀ d, OldOk (IsSrc d)
  | 0 => by
    rintro w v E F ⟨lb, A, n, c, rfl, h1, h2, h3, h4, h5, h6, h7, h8, h9⟩ k hk
    exact h9 k hk
  | d + 1 => by
    rintro w v E F (⟨lb, A, n, c, rfl, h1, h2, h3, h4, h5, h6, h7, h8, h9⟩ | ⟨A, n, c, cs, rfl, h1, h2, h3, h4, h5⟩ | ⟨A, n, c, cs, rfl, h1, h2, h3, h4, h5⟩ | ⟨x, y, rfl, h1, h2, h3, h4, h5, h6⟩) k hk
    · exact h9 k hk
    · exact kids_old h3 k hk
    · exact kids_old h3 k hk
    · rcases (h4 k).1 hk with hk | hk
      · exact cur_old (src_old d) _ _ _ _ h1 k hk
      · exact cur_old (src_old d) _ _ _ _ h2 k hk
/-- one of the kids was asked -/
theorem kids_step {S : Src} (hF : FrameOk S) (hO : OldOk S) {w w' : World} {A : Option Addr} {cs : List Kid} {F : Nat → Prop} (hK : Kids S w A cs F) {j : Nat} {x : Kid} (hx : cs[j]? = some x) {E' : List Int} (h : CurOf S w' x.p E' x.F) (hk : Kp x.F w w') :
    Kids S w' A (cs.set j ⟨x.p, E', x.F⟩) F ∧ Kp F w w' := by
  obtain ⟨h1, h2, h3, h4, h5, h6⟩ := hK
  have hxm := List.mem_of_getElem? hx
  obtain ⟨hj, hxe⟩ := List.getElem?_eq_some_iff.1 hx
  have hmapP : (cs.set j ⟨x.p, E', x.F⟩).map Kid.p = cs.map Kid.p := by
    rw [List.map_set]
    refine List.ext_getElem? fun i => ?_
    by_cases e : i = j
    · subst e; rw [List.getElem?_set_self (by simpa using hj), List.getElem?_map, hx]; rfl
    · rw [List.getElem?_set_ne (fun h => e h.symm)]
  have hmapF : (cs.set j ⟨x.p, E', x.F⟩).map Kid.F = cs.map Kid.F := by
    rw [List.map_set]
    refine List.ext_getElem? fun i => ?_
    by_cases e : i = j
    · subst e; rw [List.getElem?_set_self (by simpa using hj), List.getElem?_map, hx]; rfl
    · rw [List.getElem?_set_ne (fun h => e h.symm)]
  have hmemF : ∀ G : Nat → Prop, G ∈ (cs.set j ⟨x.p, E', x.F⟩).map Kid.F ↔ G ∈ cs.map Kid.F := fun G => by rw [hmapF]
  have hkF : Kp F w w' := hk.wider fun i hi => h5.2 x hxm i hi
  refine ⟨⟨?_, fun y hy => ?_, ?_, fun y hy k hyk => ?_, ⟨fun k hne hb => h5.1 k (fun e => by rw [e] at hj; simp at hj) hb, fun y hy k hyk => ?_⟩, fun k hb => Nat.lt_of_lt_of_le (h6 k hb) hk.size⟩, hkF⟩
  · rw [hmapP, List.length_set]
    exact h1.keep1 hk.size fun _ g o e => hk.block g (h6 g (h5.1 g (fun e => by rw [e] at hj; simp at hj) ⟨o, e⟩)) fun hg => h4 x hxm g hg ⟨o, e⟩
  · obtain ⟨i, hi⟩ := List.mem_iff_getElem?.1 hy
    by_cases e : i = j
    · subst e
      rw [List.getElem?_set_self hj] at hi
      cases hi
      exact h
    · rw [List.getElem?_set_ne (fun h => e h.symm)] at hi
      have hym := List.mem_of_getElem? hi
      refine cur_frame hF _ _ _ _ _ (h2 y hym) hk.size fun k hyk => hk.block k (cur_old hO _ _ _ _ (h2 y hym) k hyk) fun hxk => ?_
      obtain ⟨hil, hie⟩ := List.getElem?_eq_some_iff.1 hi
      have hp := List.pairwise_iff_getElem.1 h3
      rcases Nat.lt_or_gt_of_ne e with hlt | hlt
      · exact hp i j hil hj hlt k ⟨by rw [hie]; exact hyk, by rw [hxe]; exact hxk⟩
      · exact hp j i hj hil hlt k ⟨by rw [hxe]; exact hxk, by rw [hie]; exact hyk⟩
  · have : (cs.map Kid.F).Pairwise fun a b => ∀ k, ¬ (a k ∧ b k) := List.pairwise_map.2 h3
    rw [← hmapF] at this
    exact List.pairwise_map.1 this
  · obtain ⟨z, hz, hzF⟩ := List.mem_map.1 ((hmemF y.F).1 (List.mem_map.2 ⟨y, hy, rfl⟩))
    exact h4 z hz k (by rw [hzF]; exact hyk)
  · obtain ⟨z, hz, hzF⟩ := List.mem_map.1 ((hmemF y.F).1 (List.mem_map.2 ⟨y, hy, rfl⟩))
    exact h5.2 z hz k (by rw [hzF]; exact hyk)
theorem cur_mono {S T : Src} (h : ∀ w v E F, S w v E F → T w v E F) : ∀ w v E F, CurOf S w v E F → CurOf T w v E F := by
  rintro w v E F (h0 | ⟨b, v, fr, dn, E0, F0, rfl, h1, h2, h3, h4, h5, h6⟩)
  · exact .inl h0
  · exact .inr ⟨b, v, fr, dn, E0, F0, rfl, h1, h2, h _ _ _ _ h3, h4, h5, h6⟩
theorem src_up : ∀ d w v E F, IsSrc d w v E F → IsSrc (d + 1) w v E F
  | 0, _, _, _, _, h => .inl h
  | d + 1, w, v, E, F, h => by
    rcases h with h | ⟨A, n, c, cs, rfl, h1, h2, h3, h4, h5⟩ | ⟨A, n, c, cs, rfl, h1, h2, h3, h4, h5⟩ | ⟨x, y, rfl, h1, h2, h3, h4, h5, h6⟩
    · exact .inl h
    · exact .inr (.inl ⟨A, n, c, cs, rfl, h1, h2, ⟨h3.1, fun x hx => cur_mono (src_up d) _ _ _ _ (h3.2.1 x hx), h3.2.2⟩, h4, h5⟩)
    · exact .inr (.inr (.inl ⟨A, n, c, cs, rfl, h1, h2, ⟨h3.1, fun x hx => cur_mono (src_up d) _ _ _ _ (h3.2.1 x hx), h3.2.2⟩, h4, h5⟩))
    · exact .inr (.inr (.inr ⟨x, y, rfl, cur_mono (src_up d) _ _ _ _ h1, cur_mono (src_up d) _ _ _ _ h2, h3, h4, h5, h6⟩))
theorem src_le {d e : Nat} (h : d ≤ e) {w : World} {v : Value} {E : List Int} {F : Nat → Prop} (hs : IsSrc d w v E F) : IsSrc e w v E F := by
  induction h with
  | refl => exact hs
  | step _ ih => exact src_up _ _ _ _ _ ih
end Go.Proofs.YtalnndenncnbdaaGreat
