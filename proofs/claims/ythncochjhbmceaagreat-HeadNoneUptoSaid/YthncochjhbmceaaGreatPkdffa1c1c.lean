/- A set is read back from its bytes and its text, plainly. No condition. An index as it lies, and what it tells. No program is walked here. index.New and Len, walked. Condition: the index is one. index: Find and Set, walked. Condition: the index is one; the rows are within the reach. index.Add under way, as it lies. No program is walked here. An append within a region that draws its order. Condition: the row is the call's own. index.Add's middle, walked in two. Condition: the index is one; the rows are within the reach. -/
import Derived.Test.YthncochjhbmceaaGreatPk9e168d62
import Derived.Test.YthncochjhbmceaaGreatPk00f17a61
import Derived.Test.YthncochjhbmceaaGreatPk56b5c2ce
import Derived.Test.YthncochjhbmceaaGreatPk5edf48dd
import Derived.Test.YthncochjhbmceaaGreatPkb5fb2d9c
import Derived.Deep.CutBlock
import Derived.Deep.RegionHeld3
namespace Go.Proofs.YthncochjhbmceaaGreat
set_option maxRecDepth 100000
open Go.RowKit

theorem readT_at {s : List UInt8} {a : Int} {v : ByteArray} {rest : List UInt8} (h0 : 0 ≤ a) (h : s.drop a.toNat = textL v ++ rest) (hv : v.size < 18446744073709551616) : readT s a = (v, a + (textL v).length, 0) := by
  have hu := readU_at (rest := v.data.toList ++ rest) h0 (by rw [h, textL, List.append_assoc]) hv
  have hl := congrArg List.length h
  have ev : v.data.toList.length = v.size := rfl
  rw [List.length_drop, textL, List.length_append, List.length_append] at hl
  have hp := uintL_pos v.size
  rw [readT_ok hu (by omega)]
  have e1 : (a + ((uintL v.size).length : Int)).toNat = a.toNat + (uintL v.size).length := by omega
  have e2 : s.drop (a.toNat + (uintL v.size).length) = v.data.toList ++ rest := by
    rw [← List.drop_drop, h, textL, List.append_assoc, List.drop_left]
  have e3 : (⟨s.toArray⟩ : ByteArray).extract (a + ((uintL v.size).length : Int)).toNat ((a + ((uintL v.size).length : Int)).toNat + v.size) = v := bytes_eq (by
    rw [ext_list, e1]
    simp only [Nat.add_sub_cancel_left]
    rw [e2, ← ev, List.take_left])
  rw [e3]
  simp only [Prod.mk.injEq, and_true, true_and, textL, List.length_append]
  omega
theorem badN_up {out mid : List Lbl} {x : Lbl} (h : upN (out ++ x :: mid)) : badN out x = false := by
  rcases List.eq_nil_or_concat out with rfl | ⟨M, z, rfl⟩
  · rfl
  · rw [List.concat_eq_append] at *
    rw [badN_snoc]
    have := (List.pairwise_append.1 h).2.2 z (by simp) x (by simp)
    simpa using this
theorem decT_at (s rest : List UInt8) : ∀ (mid out : List Lbl) (a : Int), 0 ≤ a → s.drop a.toNat = encB mid ++ rest → (∀ x ∈ mid, fitN x.name = true ∧ fitV x.value = true) → (∀ x ∈ mid, x.name.size ≤ 32 ∧ x.value.size ≤ 64) → upN (out ++ mid) → decT s mid.length a out = (out ++ mid, a + (encB mid).length, 0) := by
  intro mid
  induction mid with
  | nil => intro out a _ _ _ _ _; simp [decT, encB]
  | cons x mid ih =>
    intro out a h0 h hf hz hu
    obtain ⟨f1, f2⟩ := hf x (by simp)
    obtain ⟨z1, z2⟩ := hz x (by simp)
    have e0 : encB (x :: mid) = textL x.name ++ (textL x.value ++ encB mid) := by simp [encB, labE]
    rw [e0] at h
    have r1 := readT_at (v := x.name) (rest := textL x.value ++ encB mid ++ rest) h0 (by rw [h]; simp) (by omega)
    have d1 : s.drop (a + ((textL x.name).length : Int)).toNat = textL x.value ++ (encB mid ++ rest) := by
      rw [show (a + ((textL x.name).length : Int)).toNat = a.toNat + (textL x.name).length by omega, ← List.drop_drop, h, List.append_assoc, List.drop_left, List.append_assoc]
    have r2 := readT_at (v := x.value) (rest := encB mid ++ rest) (by omega) d1 (by omega)
    have d2 : s.drop (a + ((textL x.name).length : Int) + ((textL x.value).length : Int)).toNat = encB mid ++ rest := by
      rw [show (a + ((textL x.name).length : Int) + ((textL x.value).length : Int)).toNat = (a + ((textL x.name).length : Int)).toNat + (textL x.value).length by omega, ← List.drop_drop, d1, List.drop_left]
    rw [List.length_cons, decT_go r1 r2 f1 f2 (badN_up hu), ih _ _ (by omega) d2 (fun y hy => hf y (by simp [hy])) (fun y hy => hz y (by simp [hy])) (by simpa using hu)]
    simp only [Prod.mk.injEq, and_true, e0, List.length_append, List.append_assoc, List.singleton_append, true_and]
    omega
/-- a set's bytes are read as the set -/
theorem decL_at {s rest : List UInt8} {L : List Lbl} {a : Int} (hv : validP L) (h0 : 0 ≤ a) (h : s.drop a.toNat = (uintL L.length ++ encB L) ++ rest) : decL s a = (L, a + (uintL L.length ++ encB L).length, 0) := by
  obtain ⟨h1, h2, h3⟩ := makeErr_ok hv.1
  have hz := (valid_small hv).2
  have hu := readU_at (rest := encB L ++ rest) h0 (by rw [h, List.append_assoc]) (by omega)
  rw [decL_go hu (by omega) (by omega), decT_at s rest L [] _ (by omega) (by
    rw [show (a + ((uintL L.length).length : Int)).toNat = a.toNat + (uintL L.length).length by omega, ← List.drop_drop, h, List.append_assoc, List.drop_left]) (make_fits h3) hz hv.2]
  simp only [List.nil_append, Prod.mk.injEq, and_true, true_and, List.length_append]
  omega

theorem name_no {nm : ByteArray} (h : fitN nm = true) (k : Nat) : nm.data.toList[k]? ≠ some 61 := by
  intro hk
  unfold fitN at h
  rw [Bool.and_eq_true] at h
  have := (nameAll_iff _).1 h.1 k 61 (List.getElem?_eq_some_iff.1 hk).1 hk
  simp [nameB, letterB, digitB] at this
theorem unqO_at {s : ByteArray} {k : Nat} {v t : List UInt8} (h : s.data.toList.drop k = quoteL v ++ t) : unqO s k = some (v, k + (quoteL v).length) := by
  have h34 : s.data.toList[k]? = some 34 := by
    have : (s.data.toList.drop k)[0]? = some 34 := by rw [h]; simp [quoteL]
    rwa [List.getElem?_drop, Nat.add_zero] at this
  have h2 : s.data.toList.drop (k + 1) = quoL v ++ 34 :: t := by
    rw [← List.drop_drop, h]; simp [quoteL]
  rw [unqO, if_pos h34, h2, parQ_quo]
  simp [quoteL]; omega
theorem join_cons (x : Lbl) (r : List Lbl) : joinL ((x :: r).map partB) = partL x ++ (r.map partB).flatMap (fun y => 44 :: y.data.toList) := by simp [joinL, partB]
theorem parR_at (s : ByteArray) : ∀ (mid : List Lbl) (f a : Nat) (out : List Lbl), mid ≠ [] → mid.length ≤ f → out.length + mid.length ≤ 8 → (∀ x ∈ mid, fitN x.name = true) → s.data.toList.drop a = joinL (mid.map partB) → parR s f a out = some (out ++ mid) := by
  intro mid
  induction mid with
  | nil => intro f a out h; exact absurd rfl h
  | cons x r ih =>
    intro f a out _ hf h8 hx h
    obtain ⟨f, rfl⟩ : ∃ g, f = g + 1 := ⟨f - 1, by simp at hf; omega⟩
    rw [join_cons] at h
    obtain ⟨T, hT⟩ : ∃ T, (r.map partB).flatMap (fun y => 44 :: y.data.toList) = T := ⟨_, rfl⟩
    rw [hT] at h
    simp only [List.length_cons] at hf h8
    have h' : s.data.toList.drop a = x.name.data.toList ++ (61 :: (quoteL x.value.data.toList ++ T)) := by rw [h, partL]; simp
    have en : x.name.data.toList.length = x.name.size := rfl
    have hj : Lib.indexByte (s.data.toList.drop a) 61 = (x.name.size : Nat) := ib_at (by rw [h', List.getElem?_append_right (by omega), en, Nat.sub_self]; rfl) (fun k hk => by
      rw [h', List.getElem?_append_left (by omega)]
      exact name_no (hx x (by simp)) k)
    have hd : s.data.toList.drop (a + x.name.size + 1) = quoteL x.value.data.toList ++ T := by
      rw [show a + x.name.size + 1 = a + (x.name.size + 1) by omega, ← List.drop_drop, h', ← List.drop_drop, ← en, List.drop_left]; rfl
    have hu := unqO_at hd
    have hE : s.extract a (a + x.name.size) = x.name := bytes_eq (by rw [ext_list, h', Nat.add_sub_cancel_left, ← en, List.take_left])
    have hn := (unqO_in hu).2.1
    have hdn : s.data.toList.drop (a + x.name.size + 1 + (quoteL x.value.data.toList).length) = T := by rw [← List.drop_drop, hd, List.drop_left]
    have hxe : (⟨s.extract a (a + x.name.size), ⟨x.value.data.toList.toArray⟩⟩ : Lbl) = x := by rw [hE]
    cases r with
    | nil =>
      have hT0 : T = [] := by rw [← hT]; rfl
      rw [hT0] at hdn
      have hlen := List.drop_eq_nil_iff.1 hdn
      have e2 : s.data.toList.length = s.size := rfl
      rw [parR_end hj hu (by omega) (by omega), hxe]
    | cons y r =>
      have hT1 : T = 44 :: joinL ((y :: r).map partB) := by rw [← hT]; simp [joinL, partB]
      rw [hT1] at hdn
      have h44 : s.data.toList[a + x.name.size + 1 + (quoteL x.value.data.toList).length]? = some 44 := by
        have : (s.data.toList.drop (a + x.name.size + 1 + (quoteL x.value.data.toList).length))[0]? = some 44 := by rw [hdn]; rfl
        rwa [List.getElem?_drop, Nat.add_zero] at this
      have hlt := (List.getElem?_eq_some_iff.1 h44).1
      have e2 : s.data.toList.length = s.size := rfl
      rw [parR_more hj hu (by omega) (by omega) h44, hxe, ih f _ _ (by simp) (by omega) (by rw [List.length_append, List.length_singleton]; omega) (fun z hz => hx z (by simp [hz])) (by rw [← List.drop_drop, hdn]; rfl)]
      simp
/-- a set's text is read as the set -/
theorem readL_at {L : List Lbl} (hv : validP L) : readL ⟨(showL L).toArray⟩ = (L, 0) := by
  obtain ⟨h1, h2, h3⟩ := makeErr_ok hv.1
  have hp := parR_at ⟨(showL L).toArray⟩ L 9 0 [] (fun e => by rw [e] at h1; simp at h1) (by omega) (by simp; omega) (fun x hx => (make_fits h3 x hx).1) (by simp [showL, hv, showP])
  rw [List.nil_append] at hp
  exact readL_yes hp (decide_eq_true hv)
end Go.Proofs.YthncochjhbmceaaGreat

namespace Go.Proofs.YthncochjhbmceaaGreat
set_option maxRecDepth 100000
open Go.RowKit

/-! plain -/
theorem enc_inj {l k : List Lbl} (hl : validP l) (hk : validP k) (h : (encLb l).1 = (encLb k).1) : l = k := by
  rw [encLb_ok hl, encLb_ok hk] at h
  have e : uintL l.length ++ encB l = uintL k.length ++ encB k := by simpa using h
  have a := decL_at (s := uintL l.length ++ encB l) (rest := []) (a := 0) hl (by omega) (by simp)
  have b := decL_at (s := uintL l.length ++ encB l) (rest := []) (a := 0) hk (by omega) (by simp [e])
  rw [a] at b
  exact congrArg Prod.fst b
theorem enc_fit {l : List Lbl} : (encLb l).2 = 0 ↔ validP l := by
  constructor
  · intro h
    by_cases h1 : makeErr l = 0
    · by_cases h2 : validP l
      · exact h2
      · rw [encLb_bad h1 h2] at h; cases h
    · rw [encLb_err h1] at h
      simp only at h
      omega
  · intro h
    rw [encLb_ok h]
open Classical in
/-- the number of a set -/
noncomputable def atE (E : List (List Lbl)) (l : List Lbl) : Option Nat := E.findIdx? fun x => decide (x = l)
theorem atE_none {E : List (List Lbl)} {l : List Lbl} : atE E l = none ↔ l ∉ E := by
  simp only [atE, List.findIdx?_eq_none_iff, decide_eq_false_iff_not]
  exact ⟨fun h hm => h l hm rfl, fun h x hx e => h (e ▸ hx)⟩
theorem atE_some {E : List (List Lbl)} {l : List Lbl} {i : Nat} (h : atE E l = some i) : E[i]? = some l := by
  obtain ⟨hi, h1, _⟩ := List.findIdx?_eq_some_iff_getElem.1 h
  rw [List.getElem?_eq_getElem hi]
  simpa using h1
theorem atE_at {E : List (List Lbl)} (hn : E.Nodup) {l : List Lbl} {i : Nat} (h : E[i]? = some l) : atE E l = some i := by
  obtain ⟨hi, e⟩ := List.getElem?_eq_some_iff.1 h
  refine List.findIdx?_eq_some_iff_getElem.2 ⟨hi, by simpa using e, fun j hj => ?_⟩
  have := List.pairwise_iff_getElem.1 hn j i (by omega) hi hj
  rw [e] at this
  simpa using this
open Classical in
theorem atE_enc {E : List (List Lbl)} (hE : ∀ x ∈ E, validP x) {l : List Lbl} (hl : validP l) : E.findIdx? (fun x => decide ((encLb x).1 = (encLb l).1)) = atE E l := by
  have : ∀ x ∈ E, decide ((encLb x).1 = (encLb l).1) = decide (x = l) := fun x hx => decide_eq_decide.2 ⟨fun h => enc_inj (hE x hx) hl h, fun h => by rw [h]⟩
  induction E with
  | nil => rfl
  | cons x E ih =>
    simp only [atE, List.findIdx?_cons]
    rw [this x (by simp), ih (fun y hy => hE y (by simp [hy])) fun y hy => this y (by simp [hy])]
    rfl
/-- what an index's Add answers, and what it is then -/
noncomputable def addE (E : List (List Lbl)) (l : List Lbl) : (Int × Bool × Int) × List (List Lbl) :=
  if (encLb l).2 ≠ 0 then ((0, false, (encLb l).2), E) else
  match atE E l with
  | some i => (((i : Nat), false, 0), E)
  | none => ((E.length, true, 0), E ++ [l])
/-- all labels, each with its set's number -/
def flatE (E : List (List Lbl)) : List (Int × Lbl) := E.zipIdx.flatMap fun p => p.1.map fun x => (((p.2 : Nat) : Int), x)
theorem flatE_snoc (E : List (List Lbl)) (l : List Lbl) : flatE (E ++ [l]) = flatE E ++ l.map fun x => (((E.length : Nat) : Int), x) := by simp [flatE, List.zipIdx_append]
theorem flatE_len (E : List (List Lbl)) (h : ∀ l ∈ E, l.length ≤ 8) : (flatE E).length ≤ 8 * E.length := by
  unfold flatE
  generalize 0 = k
  induction E generalizing k with
  | nil => simp
  | cons l E ih =>
    have h1 := ih (fun x hx => h x (by simp [hx])) (k + 1)
    have h2 := h l (by simp)
    simp only [List.zipIdx_cons, List.flatMap_cons, List.length_append, List.length_map, List.length_cons]
    omega

/-! how it lies -/
/-- a set in a block of its own -/
structure SetR where
  v : Value
  l : List Lbl
/-- all but the lists -/
structure IdxB (w : World) (base p : Nat) (sv : Value) (L : List SetR) (bn bl : Nat) (mn : List (Value × Value)) : Prop where
  blk : Whole1 w p 172 #[sv, .map (some bn), .map (some bl)]
  pb : base ≤ p
  sets : w.ownsRow base 61 1 sv L.length (L.map SetR.v)
  lab : ∀ s ∈ L, w.ownsRow base 70 2 s.v s.l.length (s.l.flatMap Lbl.cells)
  num : MapV IsStr w bn mn
  nb : base ≤ bn
  ne : bn ≠ bl
open Classical in
structure IdxG (w : World) (base p : Nat) (sv : Value) (L : List SetR) (bn bl : Nat) (mn ml : List (Value × Value)) (oM : Nat → Option ByteArray) (oI : Nat → Option Lbl) : Prop where
  b : IdxB w base p sv L bn bl mn
  val : ∀ s ∈ L, validP s.l
  dist : (L.map SetR.l).Nodup
  find : ∀ s : ByteArray, atV mn (.string s) = ((L.map SetR.l).findIdx? fun x => decide ((encLb x).1 = s)).map fun i => .int .i64 (i : Nat)
  lists : ListsG w base bl ml oM oI (fun nm => ∃ y ∈ flatE (L.map SetR.l), y.2.name = nm) (flatE (L.map SetR.l))
  noM : oM bn = none
/-- AN INDEX OF THESE SETS -/
def Idx (w : World) (base p : Nat) (E : List (List Lbl)) : Prop := ∃ sv L bn bl mn ml oM oI, IdxG w base p sv L bn bl mn ml oM oI ∧ L.map SetR.l = E
section
variable {w w' : World} {base b p bn bl : Nat} {sv : Value} {L : List SetR} {mn ml : List (Value × Value)} {oM : Nat → Option ByteArray} {oI : Nat → Option Lbl} {ts : List TypeId} {mp : Bool}
theorem IdxB.turn (h : IdxB w base p sv L bn bl mn) (k : Turn b ts false w w') (h1 : 172 ∉ ts) (h2 : 61 ∉ ts) (h3 : 70 ∉ ts) : IdxB w' base p sv L bn bl mn :=
  ⟨k.whole h.blk (.inr h1), h.pb, k.own h.sets (.inl h2), fun s hs => k.own (h.lab s hs) (.inl h3), k.mapV h.num (.inr rfl), h.nb, h.ne⟩
theorem IdxB.store {g : Nat} {m : List (Value × Value)} (h : IdxB w base p sv L bn bl mn) (hm : MapV IsStr w g m) (hg : w.grownBy w' (some g)) (hne : g ≠ bn) : IdxB w' base p sv L bn bl mn := by
  have k : Turn 0 [] true w w' := Turn.of_map hm (Nat.zero_le _) hg
  exact ⟨k.whole h.blk (.inr (by simp)), h.pb, k.own h.sets (.inl (by simp)), fun s hs => k.own (h.lab s hs) (.inl (by simp)), h.num.kept (hg.block bn h.num.lt (by simpa using Ne.symm hne)), h.nb, h.ne⟩
theorem IdxG.turn (h : IdxG w base p sv L bn bl mn ml oM oI) (k : Turn b ts false w w') (h1 : 172 ∉ ts) (h2 : 61 ∉ ts) (h3 : 70 ∉ ts) (h4 : 3 ∉ ts) : IdxG w' base p sv L bn bl mn ml oM oI :=
  ⟨h.b.turn k h1 h2 h3, h.val, h.dist, h.find, h.lists.turn k h4, h.noM⟩
theorem Idx.turn {E : List (List Lbl)} (h : Idx w base p E) (k : Turn b ts false w w') (h1 : 172 ∉ ts) (h2 : 61 ∉ ts) (h3 : 70 ∉ ts) (h4 : 3 ∉ ts) : Idx w' base p E := by
  obtain ⟨sv, L, bn, bl, mn, ml, oM, oI, h, e⟩ := h
  exact ⟨sv, L, bn, bl, mn, ml, oM, oI, h.turn k h1 h2 h3 h4, e⟩
theorem Idx.below {E : List (List Lbl)} (h : Idx w base p E) (k : Below w.heap.size w w') : Idx w' base p E :=
  h.turn (Turn.of_below k w.heap.size [] false) (by simp) (by simp) (by simp) (by simp)
theorem Idx.valid {E : List (List Lbl)} (h : Idx w base p E) : (∀ l ∈ E, validP l) ∧ E.Nodup := by
  obtain ⟨sv, L, bn, bl, mn, ml, oM, oI, h, rfl⟩ := h
  exact ⟨fun l hl => by obtain ⟨s, hs, rfl⟩ := List.mem_map.1 hl; exact h.val s hs, h.dist⟩
/-- the number that is kept at a set's bytes -/
theorem IdxG.at_ (h : IdxG w base p sv L bn bl mn ml oM oI) {l : List Lbl} (hl : validP l) : atV mn (.string (encLb l).1) = (atE (L.map SetR.l) l).map fun i => .int .i64 (i : Nat) := by
  rw [h.find, atE_enc (fun x hx => by obtain ⟨s, hs, rfl⟩ := List.mem_map.1 hx; exact h.val s hs) hl]
open Classical in
/-- one set more: all of it -/
theorem IdxG.added {w5 : World} {x : SetR} {mn' ml' : List (Value × Value)} {sv' : Value} {oM' : Nat → Option ByteArray} {oI' : Nat → Option Lbl} (h : IdxG w base p sv L bn bl mn ml oM oI) (hx : validP x.l) (h0 : atE (L.map SetR.l) x.l = none)
    (hmn : mn' = putV mn (.string (encLb x.l).1) (.int .i64 (L.length : Nat))) (hb : IdxB w5 base p sv' (L ++ [x]) bn bl mn')
    (hl : ListsG w5 base bl ml' oM' oI' (fun nm => ∃ y ∈ flatE (L.map SetR.l) ++ x.l.map (fun z => (((L.length : Nat) : Int), z)), y.2.name = nm) (flatE (L.map SetR.l) ++ x.l.map fun z => (((L.length : Nat) : Int), z))) (ho : oM' bn = none) :
    IdxG w5 base p sv' (L ++ [x]) bn bl mn' ml' oM' oI' := by
  have hE : ∀ y ∈ L.map SetR.l, validP y := fun y hy => by obtain ⟨s, hs, rfl⟩ := List.mem_map.1 hy; exact h.val s hs
  have hf : flatE ((L ++ [x]).map SetR.l) = flatE (L.map SetR.l) ++ x.l.map fun z => (((L.length : Nat) : Int), z) := by
    rw [List.map_append, List.map_singleton, flatE_snoc, List.length_map]
  refine ⟨hb, fun s hs => ?_, ?_, fun s => ?_, by rw [hf]; exact hl, ho⟩
  · rcases List.mem_append.1 hs with hs | hs
    · exact h.val s hs
    · simp at hs; rw [hs]; exact hx
  · rw [List.map_append, List.map_singleton, List.nodup_append]
    refine ⟨h.dist, by simp, fun a ha c hc e => ?_⟩
    simp at hc
    rw [hc] at e
    rw [e] at ha
    exact atE_none.1 h0 ha
  · rw [hmn]
    by_cases e : s = (encLb x.l).1
    · subst e
      rw [atV_put_same, List.map_append, List.map_singleton, List.findIdx?_append, atE_enc hE hx, h0]
      simp
    · rw [atV_put_other _ _ _ (by simpa using e), h.find, List.map_append, List.map_singleton, List.findIdx?_append]
      have : List.findIdx? (fun y => decide ((encLb y).1 = s)) [x.l] = none := by simp [Ne.symm e]
      rw [this]
      simp
end
end Go.Proofs.YthncochjhbmceaaGreat

namespace Go.Proofs.YthncochjhbmceaaGreat
set_option maxRecDepth 100000
open Go.RowKit

theorem mk81 (w : World) : (Instr.makeMap 168 none).run Tryz.prog w = .ok (.map (some w.heap.size)) (w.alloc (.map #[] 0)) := by simp [Instr.makeMap, Result.andThen]
theorem mk82 (w : World) : (Instr.makeMap 169 none).run Tryz.prog w = .ok (.map (some w.heap.size)) (w.alloc (.map #[] 0)) := by simp [Instr.makeMap, Result.andThen]
theorem idx_made {w w' : World} {base : Nat} (hb : base ≤ w.heap.size) (hw : ((w.alloc (.map #[] 0)).alloc (.map #[] 0)).alloc (.cells #[.slice none 0 0, .map (some w.heap.size), .map (some (w.heap.size + 1))] 172) = w') : Idx w' base (w.heap.size + 2) [] ∧ Below w.heap.size w w' := by
  subst hw
  have hblk := Whole1.new ((w.alloc (.map #[] 0)).alloc (.map #[] 0)) 172 #[.slice none 0 0, .map (some w.heap.size), .map (some (w.heap.size + 1))]
  have hm1 := mapV_made IsStr w
  have hm2 := mapV_made IsStr (w.alloc (.map #[] 0))
  have b1 : Below (w.alloc (.map #[] 0)).heap.size (w.alloc (.map #[] 0)) (((w.alloc (.map #[] 0)).alloc (.map #[] 0)).alloc (.cells #[.slice none 0 0, .map (some w.heap.size), .map (some (w.heap.size + 1))] 172)) := ((Below.refl _ _).alloc (Nat.le_refl _) _).alloc (by simp) _
  have b2 : Below ((w.alloc (.map #[] 0)).alloc (.map #[] 0)).heap.size ((w.alloc (.map #[] 0)).alloc (.map #[] 0)) (((w.alloc (.map #[] 0)).alloc (.map #[] 0)).alloc (.cells #[.slice none 0 0, .map (some w.heap.size), .map (some (w.heap.size + 1))] 172)) := (Below.refl _ _).alloc (Nat.le_refl _) _
  have h1 := hm1.kept (b1.block _ hm1.lt)
  have h2 := hm2.kept (b2.block _ hm2.lt)
  simp only [World.size_alloc] at hblk h2
  refine ⟨⟨.slice none 0 0, [], w.heap.size, w.heap.size + 1, [], [], fun _ => none, fun _ => none, ⟨⟨hblk, by omega, World.ownsRow_nil _ _ _ _, by simp, h1, by omega, by omega⟩, by simp, by simp, fun s => by simp [atV], ?_, rfl⟩, rfl⟩, ?_⟩
  · have := listsG_new h2 (base := base) (by omega)
    simpa [flatE] using this
  · exact ((((Below.refl w.heap.size w).alloc (Nat.le_refl _) _).alloc (by simp) _).alloc (by simp; omega) _)
theorem idx_new (w : World) {base : Nat} (hb : base ≤ w.heap.size) :
    Calls Tryz.prog 27 #[] w fun e w' => ∃ p, e = .returned (.pointer (some ⟨p, 0, none⟩)) ∧ Idx w' base p [] ∧ Below w.heap.size w w' := by
  have M1 := mk81
  have M2 := mk82
  have HI := hidden (idx_made hb rfl)
  go_enter Tryz.func27, Tryz.ntmps27
  go_wp2_with fail
  go_ret
  exact ⟨_, rfl, HI.out⟩
theorem idx_len (w : World) {base p : Nat} {E : List (List Lbl)} (h : Idx w base p E) :
    Calls Tryz.prog 31 #[.pointer (some ⟨p, 0, none⟩)] w fun e w' => e = .returned (.int .i64 (E.length : Int)) ∧ w' = w := by
  obtain ⟨sv, L, bn, bl, mn, ml, oM, oI, h, rfl⟩ := h
  obtain ⟨A, c, rfl, _, _⟩ := own_shape h.b.sets
  have c0 := h.b.blk.cell 0
  rw [List.length_map]
  clear h
  go_enter Tryz.func31, Tryz.ntmps31
  go_wp2_with fail
  go_ret
  exact ⟨rfl, rfl⟩
end Go.Proofs.YthncochjhbmceaaGreat

namespace Go.Proofs.YthncochjhbmceaaGreat
set_option maxRecDepth 100000
open Go.RowKit

theorem zero_i (w : World) : (zeroValue 3).run Tryz.prog w = .ok (.int .i64 0) w := by
  have h : (Tryz.prog.info? 3).map (fun i => i.zero) = some (some (.int .i64 0)) := by kernel_rfl
  obtain ⟨i, h1, h2⟩ := Option.map_eq_some_iff.1 h
  simp [zeroValue, typeInfo, h1, h2]
theorem keyStr : KeyEq Tryz.prog 9 (fun _ => IsStr) := keyEq_string Tryz.underlying9
theorem MapV.strs {w : World} {b : Nat} {m : List (Value × Value)} (h : MapV IsStr w b m) : ∀ p ∈ m, IsStr p.1 := h.2

theorem valid_pos {l : List Lbl} (h : validP l) : 0 < l.length := by
  rcases Nat.eq_zero_or_pos l.length with h0 | h0
  · have := h.1
    rw [makeErr, if_pos h0] at this
    cases this
  · exact h0
set_option maxHeartbeats 1600000 in
theorem idx_find (A : Option Addr) (n c : Nat) (l : List Lbl) (w : World) {base p : Nat} {E : List (List Lbl)} (h : Idx w base p E) (hl : LbF w A n l) (hnc : n ≤ c) :
    Calls Tryz.prog 29 #[.pointer (some ⟨p, 0, none⟩), .slice A n c] w fun e w' => e = .returned (.tuple #[.int .i64 (((atE E l).getD 0 : Nat) : Int), .bool (atE E l).isSome]) ∧ Below w.heap.size w w' := by
  have S1 := hidden (lenc_any A n c l w hl hnc)
  have hval := h.valid
  have H := hidden h
  obtain ⟨r, hr⟩ : ∃ r, atE E l = r := ⟨_, rfl⟩
  rw [hr]
  have HR := hidden hr
  clear h hl hr
  go_enter Tryz.func29, Tryz.ntmps29
  go_wp2_with fail
  refine S1.out.mono ?_
  rintro e w1 ⟨rfl, b1⟩
  have h1 := H.out.below b1
  by_cases hv : validP l
  · have e2 : (encLb l).2 = 0 := enc_fit.2 hv
    obtain ⟨sv, L, bn, bl, mn, ml, oM, oI, h1, rfl⟩ := h1
    have c1 := h1.b.blk.cell 1
    have hat := h1.at_ hv
    have hL := h1.b.num.look keyStr h1.b.num.strs Tryz.underlying168 (zero_i w1) (key := .string (encLb l).1) ⟨_, rfl⟩ true
    simp only [if_true] at hL
    rw [hat] at hL
    rw [HR.out] at hL
    have hL2 : (Instr.lookup 168 (.map (some bn)) (.string (encLb l).1) true).run Tryz.prog w1 = .ok (.tuple #[.int .i64 ((r.getD 0 : Nat) : Int), .bool r.isSome]) w1 := by
      rw [hL]
      cases r <;> rfl
    rw [e2]
    generalize (encLb l).1 = key at *
    clear hL hat h1 S1
    go_wp2_with fail
    go_ret2
    exact ⟨rfl, b1⟩
  · have e2 : ¬ (encLb l).2 = 0 := fun h => hv (enc_fit.1 h)
    have hne : ((encLb l).2 != 0) = true := by simpa using e2
    have hno : atE E l = none := atE_none.2 fun hm => hv (hval.1 l hm)
    obtain rfl : r = none := by rw [← HR.out]; exact hno
    generalize (encLb l).2 = er at *
    clear h1 S1
    go_wp2_with fail
    go_ret2
    exact ⟨rfl, b1⟩

set_option maxHeartbeats 1600000 in
theorem idx_set (i : Nat) (w : World) {base p : Nat} {E : List (List Lbl)} {l : List Lbl} (h : Idx w base p E) (hi : E[i]? = some l) (hE : E.length ≤ 4611686018427387904) :
    Calls Tryz.prog 46 #[.pointer (some ⟨p, 0, none⟩), .int .i64 (i : Int)] w fun e w' => ∃ v, e = .returned (.tuple #[v, .bool true]) ∧ w'.ownsRow w.heap.size 70 2 v l.length (l.flatMap Lbl.cells) ∧ Below w.heap.size w w' := by
  have S1 := hidden (idx_len w h)
  have hval := h.valid
  have hil := (List.getElem?_eq_some_iff.1 hi).1
  obtain ⟨sv, L, bn, bl, mn, ml, oM, oI, h, rfl⟩ := h
  obtain ⟨s, hs, rfl⟩ : ∃ s, L[i]? = some s ∧ s.l = l := by
    rw [List.getElem?_map] at hi
    obtain ⟨s, h1, h2⟩ := Option.map_eq_some_iff.1 hi
    exact ⟨s, h1, h2⟩
  obtain ⟨A, c, rfl, _, hr⟩ := own_shape h.b.sets
  have c0 := h.b.blk.cell 0
  rw [List.length_map] at hil
  obtain ⟨g, o, rfl, hg, hc⟩ := hr.at_ (by omega)
  have cs : w.cell? ⟨g, o + i, none⟩ = some s.v := by
    rw [hc i (by simpa using hil), List.getElem?_map, hs]; rfl
  obtain ⟨A2, c2, hv2, _, hr2⟩ := own_shape (h.b.lab s (List.mem_of_getElem? hs))
  rw [hv2] at cs
  have hsv := valid_small (hval.1 s.l (List.mem_map.2 ⟨s, List.mem_of_getElem? hs, rfl⟩))
  have S2 := hidden (ClnLbl.cloneO_any A2 s.l.length c2 s.l w hr2 rfl (by omega))
  have hpos := valid_pos (hval.1 s.l (List.mem_map.2 ⟨s, List.mem_of_getElem? hs, rfl⟩))
  have i0 : ¬ (i : Int) < 0 := by omega
  have i1 : ¬ ((L.map SetR.l).length : Int) ≤ (i : Int) := by rw [List.length_map]; omega
  have i2 : (i : Int) < (L.length : Int) := by omega
  have i3 : (0 : Int) ≤ (i : Int) := by omega
  rw [List.length_map] at S1 i1
  clear h hr hc hr2 hv2 hi hs hval hE
  go_enter Tryz.func46, Tryz.ntmps46
  go_wp2_with fail
  refine S1.out.mono ?_
  rintro e w1 ⟨rfl, rfl⟩
  go_wp2_with fail
  refine S2.out.mono ?_
  rintro e w2 ⟨v, rfl, _, _, _, _, b2, ho⟩
  have HO := hidden (ho hpos)
  go_wp2_with fail
  go_ret2
  exact ⟨v.val, rfl, HO.out, b2⟩
theorem idx_set_out (i : Int) (w : World) {base p : Nat} {E : List (List Lbl)} (h : Idx w base p E) (hi : i < 0 ∨ (E.length : Int) ≤ i) :
    Calls Tryz.prog 46 #[.pointer (some ⟨p, 0, none⟩), .int .i64 i] w fun e w' => e = .returned (.tuple #[.slice none 0 0, .bool false]) ∧ w' = w := by
  have S1 := hidden (idx_len w h)
  clear h
  go_enter Tryz.func46, Tryz.ntmps46
  by_cases hn : i < 0
  · go_wp2_with fail
    go_ret2
    exact ⟨rfl, rfl⟩
  · have hl : (E.length : Int) ≤ i := by omega
    go_wp2_with fail
    refine S1.out.mono ?_
    rintro e w1 ⟨rfl, rfl⟩
    go_wp2_with fail
    go_ret2
    exact ⟨rfl, rfl⟩
end Go.Proofs.YthncochjhbmceaaGreat

namespace Go.Proofs.YthncochjhbmceaaGreat
set_option maxRecDepth 100000
open Go.RowKit

theorem ListsG.iff {w : World} {base bl : Nat} {ml : List (Value × Value)} {oM : Nat → Option ByteArray} {oI : Nat → Option Lbl} {N N' : ByteArray → Prop} {G : List (Int × Lbl)} (h : ListsG w base bl ml oM oI N G) (k : ∀ x, N x ↔ N' x) : ListsG w base bl ml oM oI N' G :=
  ⟨h.map, h.old, fun nm hn hN => h.miss nm hn ((k nm).2 hN), fun nm v hv => by
    obtain ⟨h1, h2⟩ := h.hit nm v hv
    exact ⟨(k nm).1 h1, h2⟩, fun y hy => (k _).1 (h.all y hy)⟩
theorem Inner.row {w : World} {base : Nat} {oI : Nat → Option Lbl} {mi : List (Value × Value)} {G : List (Int × Lbl)} {nm : ByteArray} (h : Inner w base oI mi G nm) (vl : ByteArray) : w.ownsRow base 3 1 ((atV mi (.string vl)).getD (.slice none 0 0)) (ixs G ⟨nm, vl⟩).length ((ixs G ⟨nm, vl⟩).map (Value.int .i64)) := by
  cases h0 : atV mi (.string vl) with
  | none => rw [ixs_none (h.miss vl h0)]; exact World.ownsRow_nil _ _ _ _
  | some u => exact (h.hit vl u h0).2.1
/-- the names of what was laid -/
def nameIn (G : List (Int × Lbl)) (nm : ByteArray) : Prop := ∃ y ∈ G, y.2.name = nm
/-- an index while a set is added: its numbers so far -/
structure AddI (w0 w : World) (base p : Nat) (sv : Value) (L : List SetR) (bn bl : Nat) (mn : List (Value × Value)) (G : List (Int × Lbl)) : Prop where
  b : IdxB w base p sv L bn bl mn
  lists : ∃ ml oM oI, ListsG w base bl ml oM oI (nameIn G) G ∧ oM bn = none
  turn : Turn base [172, 61, 3] true w0 w
theorem AddI.below {w0 w w' : World} {base p bn bl : Nat} {sv : Value} {L : List SetR} {mn : List (Value × Value)} {G : List (Int × Lbl)} (h : AddI w0 w base p sv L bn bl mn G) (hb : Below w.heap.size w w') : AddI w0 w' base p sv L bn bl mn G := by
  obtain ⟨ml, oM, oI, h1, h2⟩ := h.lists
  exact ⟨h.b.turn (Turn.of_below hb base [] false) (by simp) (by simp) (by simp), ⟨ml, oM, oI, h1.below hb, h2⟩, h.turn.trans (Turn.of_below hb _ _ _)⟩
theorem own_downA {w : World} {B B' n sz : Nat} {e : TypeId} {v : Value} {xs : List Value} (h : w.ownsRow B e sz v n xs) (hB : B' ≤ B) : w.ownsRow B' e sz v n xs :=
  ⟨h.1, h.2.imp id fun ⟨g, cap, cur, h1, h2, r⟩ => ⟨g, cap, cur, h1, Nat.le_trans hB h2, r⟩⟩
/-- labels in a block of labels -/
structure LbT (w : World) (A : Option Addr) (n : Nat) (l : List Lbl) : Prop where
  f : LbF w A n l
  t : 0 < n → ∀ g o, A = some ⟨g, o, none⟩ → ∃ cs, Whole1 w g 70 cs
theorem LbT.turn {w w' : World} {A : Option Addr} {n : Nat} {l : List Lbl} {base : Nat} {ts : List TypeId} {mp : Bool} (h : LbT w A n l) (k : Turn base ts mp w w') (hn : 70 ∉ ts) : LbT w' A n l := by
  have hk : 0 < n → ∀ g o, A = some ⟨g, o, none⟩ → w'.heap[g]? = w.heap[g]? := fun h0 g o e => by
    obtain ⟨cs, hw⟩ := h.t h0 g o e
    exact (show w'.heap[g]? = some (.cells cs 70 (0, 0)) from k.whole hw (.inr hn)).trans (show w.heap[g]? = some (.cells cs 70 (0, 0)) from hw).symm
  refine ⟨⟨⟨h.f.row.len, fun h0 => ?_⟩, h.f.len, h.f.fit, h.f.sz⟩, fun h0 g o e => ?_⟩
  · obtain ⟨g, o, e, hb, hc⟩ := h.f.row.at_ h0
    exact ⟨g, o, e, Nat.lt_of_lt_of_le hb k.size, fun j hj => (World.cell?_of_block (w := w) (a := ⟨g, o + j, none⟩) (hk h0 g o e)).trans (hc j hj)⟩
  · obtain ⟨cs, hw⟩ := h.t h0 g o e
    exact ⟨cs, k.whole hw (.inr hn)⟩
theorem LbT.below {w w' : World} {A : Option Addr} {n : Nat} {l : List Lbl} (h : LbT w A n l) (hb : Below w.heap.size w w') : LbT w' A n l := h.turn (Turn.of_below hb 0 [] false) (by simp)
theorem lbT_own {w : World} {B n : Nat} {l : List Lbl} {A : Option Addr} {c : Nat} (h : w.ownsRow B 70 2 (.slice A n c) n (l.flatMap Lbl.cells)) (hl : LbF w A n l) : LbT w A n l :=
  ⟨hl, fun h0 g o e => by
    rcases h.2 with ⟨_, h1⟩ | ⟨g', cap, cur, h1, _, h3, _⟩
    · omega
    · simp only [Value.slice.injEq] at h1
      rw [h1.1] at e
      simp only [Option.some.injEq, Addr.mk.injEq] at e
      rw [← e.1]
      exact ⟨cur, h3⟩⟩
/-- the sets' row has grown, and was laid -/
theorem IdxB.grown {w w3 w10 : World} {base p bn bl : Nat} {sv v10 nv : Value} {L : List SetR} {mn : List (Value × Value)} {l : List Lbl} (h : IdxB w base p sv L bn bl mn) (hb : base ≤ w.heap.size) (b3 : Below w.heap.size w w3) (ho3 : w3.ownsRow w.heap.size 70 2 nv l.length (l.flatMap Lbl.cells))
    (hown : w10.ownsRow base 61 1 v10 (L.length + 1) (L.map SetR.v ++ [nv])) (hg : w3.grownBy w10 sv.ownBlock) :
    Whole1 w10 p 172 #[sv, .map (some bn), .map (some bl)] ∧ IdxB (w10.setCell ⟨p, 0, none⟩ v10) base p v10 (L ++ [⟨nv, l⟩]) bn bl mn ∧ Turn base [172, 61] false w (w10.setCell ⟨p, 0, none⟩ v10) := by
  have t3 := Turn.of_below b3 base [172, 61] false
  have h3 := h.turn (Turn.of_below b3 base [] false) (by simp) (by simp) (by simp)
  have t10 : Turn base [61] false w3 w10 := Turn.of_own h3.sets (Nat.le_refl _) (by simp) hg
  have hp10 : Whole1 w10 p 172 #[sv, .map (some bn), .map (some bl)] := t10.whole h3.blk (.inr (by decide))
  have t11 : Turn base [172] false w10 (w10.setCell ⟨p, 0, none⟩ v10) := Turn.put hp10 h.pb (by simp) 0 v10
  refine ⟨hp10, ⟨hp10.put 0 v10, h.pb, ?_, fun s hs => ?_, t11.mapV (t10.mapV h3.num (.inr rfl)) (.inr rfl), h.nb, h.ne⟩, ?_⟩
  · have := t11.own hown (.inl (by decide))
    simpa using this
  · rcases List.mem_append.1 hs with hs | hs
    · exact t11.own (t10.own (h3.lab s hs) (.inl (by decide))) (.inl (by decide))
    · rw [List.mem_singleton.1 hs]
      exact own_downA (t11.own (t10.own ho3 (.inl (by decide))) (.inl (by decide))) hb
  · exact t3.trans ((t10.wider (Nat.le_refl _) (by simp) (by simp)).trans (t11.wider (Nat.le_refl _) (by simp) (by simp)))
/-- one label more was laid -/
theorem AddI.step {w0 w W1 w10 w11 : World} {base p bn bl bi k : Nat} {sv : Value} {L : List SetR} {mn ml mi : List (Value × Value)} {oM : Nat → Option ByteArray} {oI : Nat → Option Lbl} {N : ByteArray → Prop} {G : List (Int × Lbl)} {x : Lbl} {n : Int} {u v' : Value} {xs : List Value} {j : Nat}
    (hB : IdxB w base p sv L bn bl mn) (hL : ListsG w base bl ml oM oI N G) (hN : ∀ nm, N nm ↔ (nameIn G nm ∨ nm = x.name)) (hoM : oM bn = none) (ho : atV ml (.string x.name) = some (.map (some bi))) (hT : Turn base [172, 61, 3] true w0 w)
    (hmi : MapV IsStr w bi mi) (hbi : base ≤ bi) (hoi : oM bi = some x.name) (hu : (atV mi (.string x.value)).getD (.slice none 0 0) = u) (hb1 : Below w.heap.size w W1) (hua : W1.ownsRow base 3 1 u j xs) (hown : w10.ownsRow base 3 1 v' k ((ixs G x).map (Value.int .i64) ++ [.int .i64 n])) (hg2 : W1.grownBy w10 u.ownBlock)
    (hv : v'.ownBlock = u.ownBlock ∨ v'.ownBlock = some W1.heap.size) (hst : MapV IsStr w11 bi (putV mi (.string x.value) v')) (hg3 : w10.grownBy w11 (some bi)) :
    AddI w0 w11 base p sv L bn bl mn (G ++ [(n, x)]) ∧ ∀ A k l, LbT w A k l → LbT w11 A k l := by
  have hLn := hL.added ho hmi hu hb1 (by rw [List.map_append]; exact hown) hg2 hv hst hg3
  have t1 : Turn base [] false w W1 := Turn.of_below hb1 _ _ _
  have t2 : Turn base [3] false W1 w10 := Turn.of_own hua (Nat.le_refl _) (by simp) hg2
  have m10 := t2.mapV (t1.mapV hmi (.inr rfl)) (.inr rfl)
  have t3 : Turn base [] true w10 w11 := Turn.of_map m10 hbi hg3
  have hne : bi ≠ bn := fun e => by rw [e, hoM] at hoi; cases hoi
  have hB' := ((hB.turn t1 (by simp) (by simp) (by simp)).turn t2 (by decide) (by decide) (by decide)).store m10 hg3 hne
  refine ⟨⟨hB', ⟨_, _, _, hLn.iff fun nm => ?_, ?_⟩, ?_⟩, fun A k l h => ((h.turn t1 (by simp)).turn t2 (by decide)).turn t3 (by simp)⟩
  · rw [hN]
    constructor
    · rintro (⟨y, hy, e⟩ | e)
      · exact ⟨y, List.mem_append_left _ hy, e⟩
      · exact ⟨(n, x), by simp, e.symm⟩
    · rintro ⟨y, hy, e⟩
      rcases List.mem_append.1 hy with hy | hy
      · exact .inl ⟨y, hy, e⟩
      · rw [List.mem_singleton.1 hy] at e
        exact .inr e.symm
  · exact hoM
  · exact hT.trans ((t1.wider (Nat.le_refl _) (by simp) (by simp)).trans ((t2.wider (Nat.le_refl _) (by simp) (by simp)).trans (t3.wider (Nat.le_refl _) (by simp) id)))
end Go.Proofs.YthncochjhbmceaaGreat

namespace Go.Proofs.YthncochjhbmceaaGreat
set_option maxRecDepth 100000
open Go.RowKit

section
variable {P : Program} (w : World)
theorem step_appA {ops : Array Oper} {o : Oper} {a : Act} {K : Act → World → Prop} {Q : Exit → Act → World → Prop} {E : Prop} (hgd : o.guard = none) (s x : Operand) (t : TypeId)
    (ho : o.op = .call { callee := .builtin .append, args := #[s, x], argTypes := #[t, t] })
    (base : Nat) (e : TypeId) (i : TypeInfo) (z : Value) (size bytes : Nat) (ht : P.underlying t = some (.slice e)) (hi : P.info? e = some i) (hz : i.zero = some z)
    (hsize : i.size = size) (hby : i.bytes = bytes) (hzs : z.cells.size = size) (hsz : 0 < size)
    (v : Value) (n : Nat) (xs : List Value) (hs : a.eval s = v) (hown : w.ownsRow base e size v n xs)
    (B : Nat) (A : Option Addr) (m c : Nat) (news : List Value) (hx : a.eval x = .slice A m c) (hr : Row w B size A m news) (h1 : ∀ u ∈ news, u.oneCell' = true)
    (h63 : n + m ≤ maxLen) (hbytes : (n + m) * bytes ≤ 140737488355328) (hbase : base ≤ w.heap.size)
    (h : ∀ v' w', w'.ownsRow base e size v' (n + m) (xs ++ news) → w.grownBy w' v.ownBlock → (v'.ownBlock = v.ownBlock ∨ v'.ownBlock = some w.heap.size) → K (a.put o.dst v') w') :
    if Region.wanted o (yielded ops a.tmps) = true then Oper.wp P o a w K Q else E := by
  have hw : Region.wanted o (yielded ops a.tmps) = true := by simp [Region.wanted, hgd]
  rw [if_pos hw]
  exact wp_app w s x t ho base e i z size bytes ht hi hz hsize hby hzs hsz v n xs hs hown B A m c news hx hr h1 h63 hbytes hbase h
end
end Go.Proofs.YthncochjhbmceaaGreat

namespace Go.Proofs.YthncochjhbmceaaGreat
set_option maxRecDepth 100000
open Go.RowKit

theorem infoLs : (Tryz.prog.info? 61).map (fun i => (i.zero, i.size, i.bytes)) = some (some (.slice none 0 0), 1, 24) := by kernel_rfl
theorem zero_mm (w : World) : (zeroValue 186).run Tryz.prog w = .ok (.map none) w := by
  have h : (Tryz.prog.info? 186).map (fun i => i.zero) = some (some (.map none)) := by kernel_rfl
  obtain ⟨i, h1, h2⟩ := Option.map_eq_some_iff.1 h
  simp [zeroValue, typeInfo, h1, h2]
theorem zero_is (w : World) : (zeroValue 127).run Tryz.prog w = .ok (.slice none 0 0) w := by
  have h : (Tryz.prog.info? 127).map (fun i => i.zero) = some (some (.slice none 0 0)) := by kernel_rfl
  obtain ⟨i, h1, h2⟩ := Option.map_eq_some_iff.1 h
  simp [zeroValue, typeInfo, h1, h2]
theorem infoI : (Tryz.prog.info? 3).map (fun i => (i.zero, i.size, i.bytes)) = some (some (.int .i64 0), 1, 8) := by kernel_rfl
theorem eql_map (b : Option Nat) (w : World) : (binOp .eql 186 (.map b) (.map none)).run Tryz.prog w = .ok (.bool b.isNone) w := by
  have h : ∀ d : Nat, (Op.equalIn (d + 1) 186 (.map b) (.map none)).run Tryz.prog w = .ok b.isNone w := fun d => by
    cases b <;> simp [Op.equalIn, run_underlying Tryz.underlying186]
  simp only [binOp]
  simp [Op.equal, Op.maxDepth, h 9999]
theorem mk92m (w : World) : (Instr.makeMap 186 none).run Tryz.prog w = .ok (.map (some w.heap.size)) (w.alloc (.map #[] 0)) := by simp [Instr.makeMap, Result.andThen]
set_option maxHeartbeats 12800000 in
theorem idx_add (A : Option Addr) (n c : Nat) (l : List Lbl) (w : World) {base p : Nat} {E : List (List Lbl)} (h : Idx w base p E) (hT : LbT w A n l) (hnc : n ≤ c) (hb : base ≤ w.heap.size) (hE : E.length ≤ 1048576) :
    Calls Tryz.prog 30 #[.pointer (some ⟨p, 0, none⟩), .slice A n c] w fun e w' => e = .returned (.tuple #[.int .i64 (addE E l).1.1, .bool (addE E l).1.2.1, .int .i64 (addE E l).1.2.2]) ∧ Idx w' base p (addE E l).2 ∧ Turn base [172, 61, 3] true w w' := by
  have hl := hT.f
  have S1 := hidden (lenc_any A n c l w hl hnc)
  have hval := h.valid
  have H := hidden h
  have HL := hidden hT
  clear hT
  by_cases hv : validP l
  · have e2 : (encLb l).2 = 0 := enc_fit.2 hv
    cases hat : atE E l with
    | some i =>
      have eA : addE E l = ((((i : Nat) : Int), false, 0), E) := by
        unfold addE
        rw [if_neg (by rw [e2]; simp), hat]
      rw [eA]
      rw [e2] at S1
      have HAT := hidden hat
      clear h hl hat eA
      go_enter Tryz.func30, Tryz.ntmps30
      go_wp2_with fail
      refine S1.out.mono ?_
      rintro e w1 ⟨rfl, b1⟩
      have h1 := H.out.below b1
      have HI := hidden h1
      obtain ⟨sv, L, bn, bl, mn, ml, oM, oI, h1, rfl⟩ := h1
      have c1 := h1.b.blk.cell 1
      have hat := h1.at_ hv
      have hL := h1.b.num.look keyStr h1.b.num.strs Tryz.underlying168 (zero_i w1) (key := .string (encLb l).1) ⟨_, rfl⟩ true
      simp only [if_true] at hL
      rw [hat, HAT.out] at hL
      simp only [Option.map_some, Option.getD_some, Option.isSome_some] at hL
      generalize (encLb l).1 = key at *
      clear hat h1 S1
      go_wp2_with fail
      go_ret3
      exact ⟨rfl, HI.out, Turn.of_below b1 _ _ _⟩
    | none =>
      have eA : addE E l = (((E.length : Int), true, 0), E ++ [l]) := by
        unfold addE
        rw [if_neg (by rw [e2]; simp), hat]
      rw [eA]
      rw [e2] at S1
      have HAT := hidden hat
      clear h hl hat eA
      go_enter Tryz.func30, Tryz.ntmps30
      go_wp2_with fail
      refine S1.out.mono ?_
      rintro e w1 ⟨rfl, b1⟩
      have h1 := H.out.below b1
      have HL1 := hidden (HL.out.below b1)
      have hbw1 : base ≤ w1.heap.size := by have := b1.size; omega
      obtain ⟨sv, L, bn, bl, mn, ml, oM, oI, h1, rfl⟩ := h1
      obtain ⟨As, cs, rfl, hcs, _⟩ := own_shape h1.b.sets
      have c0 := h1.b.blk.cell 0
      have c1 := h1.b.blk.cell 1
      have hat := h1.at_ hv
      have hL := h1.b.num.look keyStr h1.b.num.strs Tryz.underlying168 (zero_i w1) (key := .string (encLb l).1) ⟨_, rfl⟩ true
      simp only [if_true] at hL
      rw [hat, HAT.out] at hL
      simp only [Option.map_none, Option.getD_none, Option.isSome_none] at hL
      obtain ⟨w2, hrun, hm2, hg2, hz2⟩ := h1.b.num.store (P := Tryz.prog) keyStr h1.b.num.strs Tryz.underlying168 (key := .string (encLb l).1) ⟨_, rfl⟩ ⟨_, rfl⟩ (.int .i64 (L.length : Nat))
      have H1 := hidden h1
      have HM2 := hidden hm2
      have HG2 := hidden hg2
      obtain ⟨key, hkey⟩ : ∃ key, (encLb l).1 = key := ⟨_, rfl⟩
      have HKEY := hidden hkey
      rw [hkey] at hL hrun HM2 ⊢
      have hLc := h1.b.sets.1
      rw [List.length_map] at hE
      clear hat h1 S1 hm2 hg2 hkey
      obtain ⟨mn2, hmn2⟩ : ∃ mn2, putV mn (.string key) (.int .i64 (L.length : Nat)) = mn2 := ⟨_, rfl⟩
      rw [hmn2] at HM2
      have HMN := hidden hmn2
      have k2 : Turn 0 [] true w1 w2 := Turn.of_map H1.out.b.num (Nat.zero_le _) HG2.out
      have k2b : Turn base [] true w1 w2 := Turn.of_map H1.out.b.num H1.out.b.nb HG2.out
      have hB2 : IdxB w2 base p (.slice As L.length cs) L bn bl mn2 := ⟨k2.whole H1.out.b.blk (.inr (by simp)), H1.out.b.pb, k2.own H1.out.b.sets (.inl (by simp)), fun s hs => k2.own (H1.out.b.lab s hs) (.inl (by simp)), HM2.out, H1.out.b.nb, H1.out.b.ne⟩
      have hli2 := H1.out.lists.store H1.out.b.num HG2.out H1.out.b.ne H1.out.noM
      have HLI := hidden hli2
      have HL2 := hidden (HL1.out.turn k2 (by simp))
      have hb12 : Below w.heap.size w w1 := b1
      have hw2s : base ≤ w2.heap.size := by omega
      have HB2 := hidden hB2
      have HK2 := hidden (Turn.trans (Turn.of_below b1 base [172, 61, 3] true) (k2b.wider (Nat.le_refl _) (by simp) id))
      go_upto_region 11 with (fail)
      clear hL hrun c0 c1 k2 k2b hli2 hB2 hmn2 hb12 HG2
      go_cut [] (fun wx => ∃ sv nv, Hid (AddI w wx base p sv (L ++ [⟨nv, l⟩]) bn bl mn2 (flatE (L.map SetR.l))) ∧ Hid (LbT wx A n l))
      case first =>
        obtain ⟨i0, hi, hz0, hz1, hz2⟩ := info_parts infoLs
        have e0 := HB2.out.blk.cell 0
        have hlen := HL2.out.f.len
        have hfit := HL2.out.f.fit
        have SC := hidden (ClnLbl.cloneO_any A n c l w2.drew (HL2.out.below (Below.refl _ _).drew).f.row hlen (by omega))
        go_region_law (first
          | (go_simp; go_at_call 32; refine SC.out.mono ?_; rintro e w3 ⟨⟨zA, zn, zc, zl⟩, rfl, _, _, _, _, b3, ho3⟩; simp only [Sl.val] at ho3 ⊢; have HO3 := hidden (ho3 (by have := valid_pos hv; omega)); have hB3 := (HB2.out.turn (Turn.of_below ((Below.refl _ _).drew.trans b3) base [] false) (by simp) (by simp) (by simp)); have q0 := hB3.blk.cell 0; have q0a := (hB3.blk.alloc (.cells #[.slice zA zn zc] 61)).cell 0; have T := fun (ops : Array Oper) (o : Oper) (a : Act) (K : Act → World → Prop) (Q : Exit → Act → World → Prop) (E : Prop) (hg : o.guard = none) (s1 s2 : Operand) (ho : o.op = .call { callee := .builtin .append, args := #[s1, s2], argTypes := #[170, 170] }) (hs : a.eval s1 = .slice As L.length cs) (hx : a.eval s2 = .slice (some ⟨w3.heap.size, 0, none⟩) 1 1) h => step_appA (P := Tryz.prog) (ops := ops) (o := o) (a := a) (K := K) (Q := Q) (E := E) (w3.alloc (.cells #[.slice zA zn zc] 61)) hg s1 s2 170 ho base 61 i0 _ 1 24 Tryz.underlying170 hi hz0 hz1 hz2 rfl (by decide) _ _ _ hs (hB3.sets.alloc _) _ _ _ _ _ hx (Row.fresh w3 61 1 1 [.slice zA zn zc] rfl) (by simp [Value.oneCell']) (by unfold maxLen; omega) (by omega) (by rw [World.size_alloc]; have := b3.size; have e3 : w2.drew.heap.size = w2.heap.size := rfl; omega) h)
          | (refine T _ _ _ _ _ _ rfl _ _ rfl rfl rfl ?_; intro v10 w10 hown10 hg10 hat10; obtain ⟨A10, c10, rfl, hc10, _⟩ := own_shape hown10; obtain ⟨hp10, hIB, hIT⟩ := HB2.out.grown hw2s (((Below.refl w2.heap.size w2).drew.trans b3).alloc (by have := b3.size; exact this) (.cells #[.slice zA zn zc] 61)) (by rw [show l.length = n from hlen]; exact HO3.out.alloc _) hown10 hg10; have HP10 := hidden hp10; have r0 := hp10.cell 0; have f0 := hp10.free 0; have HIB := hidden hIB; have HIT := hidden hIT))
        all_goals
          go_wp2_with fail
          go_meet
          exact ⟨_, _, hidden ⟨HIB.out, ⟨ml, oM, oI, HLI.out.turn HIT.out (by decide), H1.out.noM⟩, HK2.out.trans (HIT.out.wider (Nat.le_refl _) (by simp) (by simp))⟩, hidden (HL2.out.turn HIT.out (by decide))⟩
      case rest =>
        obtain ⟨sv, nv, hA, hLb⟩ := hcut
        have HVX := hidden hv
        clear HB2 HLI HL2 HK2 HM2 HL1
        go_wp2_with fail
        go_loopw [59] (fun vi wr => ∃ k : Nat, vi = .int .i64 (k : Int) ∧ k ≤ n ∧ Hid (AddI w wr base p sv (L ++ [⟨nv, l⟩]) bn bl mn2 (flatE (L.map SetR.l) ++ (l.take k).map fun z => (((L.length : Nat) : Int), z))) ∧ Hid (LbT wr A n l)) (fun vi _ => n - (intOf vi).toNat)
        case atStart => exact ⟨0, rfl, Nat.zero_le _, hidden (by simpa using hA.out), hLb⟩
        case round =>
          obtain ⟨k, rfl, hk, hI, hT⟩ := hrel
          have k0 : (0 : Int) ≤ (k : Int) := by omega
          by_cases hlt : k < n
          · have k1 : (k : Int) < (n : Int) := by omega
            have HLT := hidden (show k + 1 ≤ n from hlt)
            obtain ⟨g, o, x, rfl, hg, hx, c0, c1, hxm⟩ := lb_cells hT.out.f hlt
            have HTX := hidden (take_snoc? hx)
            have fwk : IntKind.i64.wrap ((k : Int) + 1) = (k : Int) + 1 := Go.IntWalk.i64_in _ (by have := hT.out.f.fit; omega)
            obtain ⟨w1, hw1⟩ : ∃ w1, wr.alloc (.cells #[.string x.name, .string x.value] 70) = w1 := ⟨_, rfl⟩
            obtain ⟨X, hX⟩ : ∃ X, wr.heap.size = X := ⟨_, rfl⟩
            have hx1 : Whole1 w1 X 70 #[.string x.name, .string x.value] := by rw [← hX, ← hw1]; exact Whole1.new wr _ _
            have hb1 : Below wr.heap.size wr w1 := hw1 ▸ (Below.refl _ _).alloc (Nat.le_refl _) _
            have HI1 := hidden (hI.out.below hb1)
            have HT1 := hidden (hT.out.below hb1)
            have HX1 := hidden hx1
            have HW := hidden hw1
            have HXX := hidden hX
            obtain ⟨ml1, oM1, oI1, hl1, hoM1⟩ := HI1.out.lists
            have HLs := hidden hl1
            have HOM := hidden hoM1
            clear hx hxm hw1 hx1 hb1 hX hl1 hoM1 hA hLb
            go_upto_region 15 with (fail)
            rw [HXX.out, HW.out]
            clear c0 c1
            have d0 := HX1.out.cell 0
            have d1 := HX1.out.cell 1
            have p2 := HI1.out.b.blk.cell 2
            have hlook := (HLs.out.map.kept (w' := w1.drew) rfl).look keyStr (HLs.out.map.kept (w' := w1.drew) rfl).strs Tryz.underlying169 (zero_mm w1.drew) (key := .string x.name) ⟨_, rfl⟩ false
            simp only [Bool.false_eq_true, if_false] at hlook
            have heq0 : ∀ w, (binOp .eql 186 (.map none) (.map none)).run Tryz.prog w = .ok (.bool true) w := eql_map none
            have heq1 : ∀ (b : Nat) (w : World), (binOp .eql 186 (.map (some b)) (.map none)).run Tryz.prog w = .ok (.bool false) w := fun b => eql_map (some b)
            go_cut [70] (fun vq wx => vq = .bool (atV ml1 (.string x.name)).isNone ∧ wx = w1.drew)
            case first =>
              cases hat1 : atV ml1 (.string x.name) with
              | none =>
                rw [hat1] at hlook
                simp only [Option.getD_none] at hlook
                go_region
                go_wp2_with fail
                go_meet
                exact ⟨by rw [hat1]; rfl, rfl⟩
              | some vm =>
                obtain ⟨hN, bi, mi, rfl, _⟩ := HLs.out.hit _ _ hat1
                rw [hat1] at hlook
                simp only [Option.getD_some] at hlook
                go_region
                go_wp2_with fail
                go_meet
                exact ⟨by rw [hat1]; rfl, rfl⟩
            case rest =>
              obtain ⟨rfl, rfl⟩ := hcut
              have hdr : Below w1.heap.size w1 w1.drew := (Below.refl _ _).drew
              have HI5 := hidden (HI1.out.below hdr)
              have HL5 := hidden (HLs.out.below hdr)
              have HT5 := hidden (HT1.out.below hdr)
              have HX5 := hidden (HX1.out.below hdr HX1.out.lt)
              have HS5 := hidden (show wr.heap.size ≤ w1.drew.heap.size from by have := HX1.out.lt; have := HXX.out; show wr.heap.size ≤ w1.heap.size; omega)
              clear hlook HI1 HLs HT1 HX1 hdr d0 d1 p2 hI hT
              generalize w1.drew = w5 at *
              go_upto_if 70 with (fail)
              go_cut [] (fun wx => ∃ ml2 oM2 oI2 bi, Hid (IdxB wx base p sv (L ++ [⟨nv, l⟩]) bn bl mn2) ∧ Hid (ListsG wx base bl ml2 oM2 oI2 (fun nm => nameIn (flatE (L.map SetR.l) ++ (l.take k).map fun z => (((L.length : Nat) : Int), z)) nm ∨ nm = x.name) (flatE (L.map SetR.l) ++ (l.take k).map fun z => (((L.length : Nat) : Int), z))) ∧ oM2 bn = none ∧ atV ml2 (.string x.name) = some (.map (some bi)) ∧ Hid (Turn base [172, 61, 3] true w wx) ∧ Hid (LbT wx (some ⟨g, o, none⟩) n l) ∧ Hid (Whole1 wx X 70 #[.string x.name, .string x.value]))
              case first =>
                cases hat1 : atV ml1 (.string x.name) with
                | none =>
                  have d0 := HX5.out.cell 0
                  have p2 := HI5.out.b.blk.cell 2
                  have mk := mk92m
                  have hB6 := HL5.out.below ((Below.refl w5.heap.size w5).drew)
                  obtain ⟨w7, hrun, hm7, hg7, hz7⟩ := (hB6.below ((Below.refl w5.drew.heap.size w5.drew).alloc (Nat.le_refl _) (.map #[] 0))).map.store (P := Tryz.prog) keyStr (hB6.below ((Below.refl w5.drew.heap.size w5.drew).alloc (Nat.le_refl _) (.map #[] 0))).map.strs Tryz.underlying169 (key := .string x.name) ⟨_, rfl⟩ ⟨_, rfl⟩ (.map (some w5.heap.size))
                  have hrun2 : (Instr.mapUpdate 169 (.map (some bl)) (.string x.name) (.map (some w5.heap.size))).run Tryz.prog ((w5.alloc (.map #[] 0)).drew) = .ok () w7 := hrun
                  have p2a : (w5.drew.alloc (.map #[] 0)).cell? ⟨p, 2, none⟩ = some (.map (some bl)) := (HI5.out.b.blk.below (((Below.refl w5.heap.size w5).drew).alloc (Nat.le_refl _) _) HI5.out.b.blk.lt).cell 2
                  have p2b : ((w5.alloc (.map #[] 0)).drew).cell? ⟨p, 2, none⟩ = some (.map (some bl)) := p2a
                  have d0a : (w5.drew.alloc (.map #[] 0)).cell? ⟨X, 0, none⟩ = some (.string x.name) := (HX5.out.below (((Below.refl w5.heap.size w5).drew).alloc (Nat.le_refl _) _) HX5.out.lt).cell 0
                  have d0b : ((w5.alloc (.map #[] 0)).drew).cell? ⟨X, 0, none⟩ = some (.string x.name) := d0a
                  have hB5s : base ≤ w5.drew.heap.size := by have := HS5.out; have := HI5.out.turn.size; show base ≤ w5.heap.size; omega
                  have hmade := hB6.made hat1 hB5s hm7 hg7
                  have hbel : Below w5.heap.size w5 (w5.drew.alloc (.map #[] 0)) := ((Below.refl w5.heap.size w5).drew).alloc (Nat.le_refl _) _
                  have hMp := (hB6.below ((Below.refl w5.drew.heap.size w5.drew).alloc (Nat.le_refl _) (.map #[] 0))).map
                  have hb7 := (HI5.out.b.turn (Turn.of_below hbel base [] false) (by simp) (by simp) (by simp)).store hMp hg7 (Ne.symm HI5.out.b.ne)
                  have t7 : Turn base [] true (w5.drew.alloc (.map #[] 0)) w7 := Turn.of_map hMp HL5.out.old hg7
                  have HF := hidden (And.intro hb7 (And.intro hmade (And.intro (HI5.out.turn.trans ((Turn.of_below hbel base [172, 61, 3] true).trans (t7.wider (Nat.le_refl _) (by simp) id))) (And.intro ((HT5.out.below hbel).turn t7 (by simp)) (t7.whole (HX5.out.below hbel HX5.out.lt) (.inr (by simp)))))))
                  have hbn : bn ≠ w5.heap.size := by have := HI5.out.b.num.lt; omega
                  clear hB6 hm7 hg7 hz7 hmade hMp hb7 t7 hbel
                  go_wp2_with fail
                  go_region
                  all_goals
                    go_wp2_with fail
                    go_meet
                    exact ⟨_, _, _, _, hidden HF.out.1, hidden HF.out.2.1, by show (if bn = w5.heap.size then some x.name else oM1 bn) = none; rw [if_neg hbn]; exact HOM.out, atV_put_same _ _ _, hidden HF.out.2.2.1, hidden HF.out.2.2.2.1, hidden HF.out.2.2.2.2⟩
                | some vm =>
                  obtain ⟨hN, bi, mi, rfl, _⟩ := HL5.out.hit _ _ hat1
                  go_wp2_with fail
                  go_meet
                  exact ⟨ml1, oM1, oI1, bi, hidden HI5.out.b, hidden (HL5.out.iff fun y => ⟨.inl, fun h => h.elim id fun e => by rw [e]; exact hN⟩), HOM.out, hat1, hidden HI5.out.turn, HT5, HX5⟩
              case rest =>
                obtain ⟨ml2, oM2, oI2, bi, hB8, hL8, hoM, hat8, hTu8, hT8, hX8⟩ := hcut
                clear HI5 HL5 HT5 HX5 HOM
                obtain ⟨G, hG⟩ : ∃ G, (flatE (L.map SetR.l) ++ (l.take k).map fun z => (((L.length : Nat) : Int), z)) = G := ⟨_, rfl⟩
                rw [hG] at hL8
                have hGl : G.length ≤ 16777216 := by
                  have h1 := flatE_len (L.map SetR.l) (fun z hz => by exact (makeErr_ok (hval.1 z hz).1).2.1)
                  have h2 := (makeErr_ok HVX.out.1).2.1
                  rw [← hG, List.length_append, List.length_map, List.length_take]
                  rw [List.length_map] at h1
                  omega
                have HGG := hidden hG
                clear hG
                obtain ⟨hNx, bi', mi, e1, hbi, hbne, hoMx, hmi, hIn⟩ := hL8.out.hit _ _ hat8
                obtain rfl : bi = bi' := by simpa using e1
                have hix := ixs_len G x
                have hu := hIn.row x.value
                obtain ⟨u, hu0⟩ : ∃ u, (atV mi (.string x.value)).getD (.slice none 0 0) = u := ⟨_, rfl⟩
                rw [hu0, show (⟨x.name, x.value⟩ : Lbl) = x from rfl] at hu
                obtain ⟨iu, hiu⟩ : ∃ iu, (ixs G x).length = iu := ⟨_, rfl⟩
                rw [hiu] at hu hix
                obtain ⟨Au, cu, rfl, hcu, _⟩ := own_shape hu
                obtain ⟨i0, hi, hz0, hz1, hz2⟩ := info_parts infoI
                obtain ⟨W1, hW1⟩ : ∃ W1, wc.drew.alloc (.cells #[.int .i64 (L.length : Nat)] 3) = W1 := ⟨_, rfl⟩
                have hbel : Below wc.heap.size wc W1 := hW1 ▸ ((Below.refl wc.heap.size wc).drew).alloc (Nat.le_refl _) _
                have hdr : Below wc.heap.size wc wc.drew := (Below.refl _ _).drew
                have hfr := Row.fresh wc.drew 3 1 1 [.int .i64 (L.length : Nat)] rfl
                rw [hW1] at hfr
                have p2 := (hB8.out.blk.below hdr hB8.out.blk.lt).cell 2
                have p2a := (hB8.out.blk.below hbel hB8.out.blk.lt).cell 2
                have d0 := (hX8.out.below hdr hX8.out.lt).cell 0
                have d0a := (hX8.out.below hbel hX8.out.lt).cell 0
                have d1 := (hX8.out.below hdr hX8.out.lt).cell 1
                have d1a := (hX8.out.below hbel hX8.out.lt).cell 1
                have lk := (hL8.out.below hdr).map.look keyStr (hL8.out.below hdr).map.strs Tryz.underlying169 (zero_mm wc.drew) (key := .string x.name) ⟨_, rfl⟩ false
                have lka := (hL8.out.below hbel).map.look keyStr (hL8.out.below hbel).map.strs Tryz.underlying169 (zero_mm W1) (key := .string x.name) ⟨_, rfl⟩ false
                simp only [Bool.false_eq_true, if_false, hat8, Option.getD_some] at lk lka
                have hmd := hmi.kept (hdr.block bi hmi.lt)
                have hma := hmi.kept (hbel.block bi hmi.lt)
                have li := hmd.look keyStr hmd.strs Tryz.underlying186 (zero_is wc.drew) (key := .string x.value) ⟨_, rfl⟩ false
                have lia := hma.look keyStr hma.strs Tryz.underlying186 (zero_is W1) (key := .string x.value) ⟨_, rfl⟩ false
                simp only [Bool.false_eq_true, if_false, hu0] at li lia
                have hua : W1.ownsRow base 3 1 (.slice Au iu cu) iu ((ixs G x).map (Value.int .i64)) := own_below hu hbel (Nat.le_refl _)
                have hbs : base ≤ W1.heap.size := by have := hbel.size; have := hB8.out.blk.lt; have := hB8.out.pb; omega
                have HBX := hidden (And.intro hbi (And.intro hbne (And.intro hoMx (And.intro hmi hma))))
                have HIU := hidden hiu
                have HU0 := hidden hu0
                have HUA := hidden hua
                have HBS := hidden hbs
                have T := fun (ops : Array Oper) (oo : Oper) (a : Act) (K : Act → World → Prop) (Q : Exit → Act → World → Prop) (E : Prop) (hg : oo.guard = none) (s1 s2 : Operand) (ho : oo.op = .call { callee := .builtin .append, args := #[s1, s2], argTypes := #[127, 127] }) (hs : a.eval s1 = .slice Au iu cu) (hx : a.eval s2 = .slice (some ⟨wc.drew.heap.size, 0, none⟩) 1 1) h => step_appA (P := Tryz.prog) (ops := ops) (o := oo) (a := a) (K := K) (Q := Q) (E := E) W1 hg s1 s2 127 ho base 3 i0 _ 1 8 Tryz.underlying127 hi hz0 hz1 hz2 rfl (by decide) _ _ _ hs HUA.out _ _ _ _ _ hx hfr (by simp [Value.oneCell']) (by unfold maxLen; omega) (by omega) HBS.out h
                clear hua hma hmd hmi hIn hbi hbne hoMx hiu hu0 hNx hbs hu hdr
                subst hW1
                have lka2 : (Instr.lookup 169 (.map (some bl)) (.string x.name) false).run Tryz.prog ((wc.alloc (.cells #[.int .i64 (L.length : Nat)] 3)).drew) = .ok (.map (some bi)) ((wc.alloc (.cells #[.int .i64 (L.length : Nat)] 3)).drew) := lka
                have lia2 : (Instr.lookup 186 (.map (some bi)) (.string x.value) false).run Tryz.prog ((wc.alloc (.cells #[.int .i64 (L.length : Nat)] 3)).drew) = .ok (.slice Au iu cu) ((wc.alloc (.cells #[.int .i64 (L.length : Nat)] 3)).drew) := lia
                have p2a2 : ((wc.alloc (.cells #[.int .i64 (L.length : Nat)] 3)).drew).cell? ⟨p, 2, none⟩ = some (.map (some bl)) := p2a
                have d0a2 : ((wc.alloc (.cells #[.int .i64 (L.length : Nat)] 3)).drew).cell? ⟨X, 0, none⟩ = some (.string x.name) := d0a
                have d1a2 : ((wc.alloc (.cells #[.int .i64 (L.length : Nat)] 3)).drew).cell? ⟨X, 1, none⟩ = some (.string x.value) := d1a
                go_wp2_with fail
                have hS0 := And.intro p2 (And.intro d0 d1)
                have hS1 := And.intro p2a (And.intro d0a d1a)
                clear p2 d0 d1 p2a d0a d1a p2a2 d0a2 d1a2
                go_region_held3 (fun w' => w'.cell? ⟨p, 2, none⟩ = some (.map (some bl)) ∧ w'.cell? ⟨X, 0, none⟩ = some (.string x.name) ∧ w'.cell? ⟨X, 1, none⟩ = some (.string x.value))
                  (first | exact hS11 | exact hS10 | exact hS0 | exact hS1)
                  (first | (refine T _ _ _ _ _ _ rfl _ _ rfl rfl rfl ?_; intro v10 w10 hown10 hg10 hat10; obtain ⟨A10, c10, rfl, hc10, _⟩ := own_shape hown10; have t10 : Turn base [3] false _ w10 := Turn.of_own HUA.out (Nat.le_refl _) (by simp) hg10; have m10 := t10.mapV HBX.out.2.2.2.2 (.inr rfl); obtain ⟨w11, hrun, hm11, hg11, hz11⟩ := m10.store (P := Tryz.prog) keyStr m10.strs Tryz.underlying186 (key := .string x.value) ⟨_, rfl⟩ ⟨_, rfl⟩ (.slice A10 (iu + 1) c10); have p2c := (t10.whole (hB8.out.blk.below hbel hB8.out.blk.lt) (.inr (by decide))).cell 2; have d0c := (t10.whole (hX8.out.below hbel hX8.out.lt) (.inr (by decide))).cell 0; have d1c := (t10.whole (hX8.out.below hbel hX8.out.lt) (.inr (by decide))).cell 1; have hl10 := t10.mapV (hL8.out.below hbel).map (.inr rfl); have lkc := hl10.look keyStr hl10.strs Tryz.underlying169 (zero_mm w10) (key := .string x.name) ⟨_, rfl⟩ false; simp only [Bool.false_eq_true, if_false, hat8, Option.getD_some] at lkc; have HST := hidden (AddI.step hB8.out hL8.out (fun _ => Iff.rfl) hoM hat8 hTu8.out HBX.out.2.2.2.1 HBX.out.1 HBX.out.2.2.1 HU0.out hbel HUA.out hown10 hg10 hat10 hm11 hg11); have hS10 := And.intro p2c (And.intro d0c d1c); have hS11 : w11.cell? ⟨p, 2, none⟩ = some (.map (some bl)) ∧ w11.cell? ⟨X, 0, none⟩ = some (.string x.name) ∧ w11.cell? ⟨X, 1, none⟩ = some (.string x.value) := (have t11 : Turn 0 [] true w10 w11 := Turn.of_map m10 (Nat.zero_le _) hg11; ⟨(t11.whole (t10.whole (hB8.out.blk.below hbel hB8.out.blk.lt) (.inr (by decide))) (.inr (by simp))).cell 2, (t11.whole (t10.whole (hX8.out.below hbel hX8.out.lt) (.inr (by decide))) (.inr (by simp))).cell 0, (t11.whole (t10.whole (hX8.out.below hbel hX8.out.lt) (.inr (by decide))) (.inr (by simp))).cell 1⟩); clear hm11 hg11 hz11 hl10 m10 t10 hown10 hg10 hat10 p2c d0c d1c))
                all_goals
                  go_wp2_with fail
                  go_roundw
                  case rel =>
                    refine ⟨k + 1, by go_num, HLT.out, hidden ?_, hidden (HST.out.2 _ _ _ hT8.out)⟩
                    rw [HTX.out, List.map_append, List.map_singleton, ← List.append_assoc, HGG.out]
                    exact HST.out.1
                  case measure => have := HLT.out; simp [intOf]; omega
          · obtain rfl : n = k := by omega
            have HF := hidden (show Idx wr base p (L.map SetR.l ++ [l]) ∧ Turn base [172, 61, 3] true w wr from by
              obtain ⟨hb, ⟨ml', oM', oI', hl', ho'⟩, ht⟩ := hI.out
              rw [List.take_of_length_le (by rw [hT.out.f.len]; exact Nat.le_refl _)] at hl'
              exact ⟨⟨sv, _, bn, bl, mn2, ml', oM', oI', IdxG.added (x := ⟨nv, l⟩) H1.out HVX.out HAT.out (by show mn2 = putV mn (.string (encLb l).1) _; rw [HKEY.out]; exact HMN.out.symm) hb hl' ho', by simp⟩, ht⟩)
            go_wp2_with fail
            go_ret3
            rw [List.length_map]
            exact ⟨rfl, HF.out⟩
  · have e2 : ¬ (encLb l).2 = 0 := fun h => hv (enc_fit.1 h)
    have hne : ((encLb l).2 != 0) = true := by simpa using e2
    have eA : addE E l = ((0, false, (encLb l).2), E) := if_pos e2
    rw [eA]
    generalize (encLb l).2 = er at *
    clear h hl eA
    go_enter Tryz.func30, Tryz.ntmps30
    go_wp2_with fail
    refine S1.out.mono ?_
    rintro e w1 ⟨rfl, b1⟩
    have h1 := hidden (H.out.below b1)
    clear S1
    go_wp2_with fail
    go_ret3
    exact ⟨rfl, h1.out, Turn.of_below b1 _ _ _⟩
end Go.Proofs.YthncochjhbmceaaGreat
