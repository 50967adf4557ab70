/- index: Names and Values, walked. Condition: the index is one. -/
import Derived.Test.YtalnndenncnbdaaGreatKeysS
import Derived.Test.YtalnndenncnbdaaGreatPk83fe342d
import Derived.Test.YtalnndenncnbdaaGreatPkbbecfbb2
namespace Go.Proofs.YtalnndenncnbdaaGreat
set_option maxRecDepth 100000
open Go.RowKit

/-! plain -/
theorem nodup_len {α : Type} {a b : List α} (h : a.Nodup) (hs : ∀ x ∈ a, x ∈ b) : a.length ≤ b.length := by
  induction a generalizing b with
  | nil => simp
  | cons e E ih =>
    obtain ⟨h1, h2⟩ := List.nodup_cons.1 h
    obtain ⟨l1, l2, rfl⟩ := List.append_of_mem (hs e (by simp))
    have := ih (b := l1 ++ l2) h2 fun x hx => by
      rcases List.mem_append.1 (hs x (by simp [hx])) with hx2 | hx2
      · exact List.mem_append_left _ hx2
      · rcases List.mem_cons.1 hx2 with e | hx2
        · exact absurd (e ▸ hx) h1
        · exact List.mem_append_right _ hx2
    simp only [List.length_append, List.length_cons] at this ⊢
    omega
theorem valid_fits {l : List Lbl} (h : validP l) : ∀ x ∈ l, fitN x.name = true ∧ fitV x.value = true := make_fits (makeErr_ok h.1).2.2
theorem valid_apart {l : List Lbl} (h : validP l) : l.Pairwise fun x y => x.name ≠ y.name := h.2.imp fun {x y} k e => by
  unfold ltN at k
  have := (tri_B.zero x.name y.name).2 e
  omega
/-- what a set has at a name is what stands there -/
theorem getL_mem {l : List Lbl} (h : l.Pairwise fun x y => x.name ≠ y.name) {x : Lbl} (hx : x ∈ l) : getL l x.name = x.value := by
  obtain ⟨k, hk, rfl⟩ := List.mem_iff_getElem.1 hx
  refine getL_here (k := k) (fun y hy => ?_) (List.getElem?_eq_getElem hk) rfl
  obtain ⟨j, hj, rfl⟩ := List.mem_iff_getElem.1 hy
  rw [List.length_take] at hj
  rw [List.getElem_take]
  exact List.pairwise_iff_getElem.1 h j k (by omega) hk (by omega)
theorem getL_some : ∀ {l : List Lbl} {nm : ByteArray}, (getL l nm).toList ≠ [] → (⟨nm, getL l nm⟩ : Lbl) ∈ l
  | [], nm, h => by simp [getL] at h
  | x :: l, nm, h => by
    rw [getL] at h ⊢
    split
    · rename_i e
      rw [if_pos e] at h
      rw [← e]
      exact List.mem_cons_self ..
    · rename_i e
      rw [if_neg e] at h
      exact List.mem_cons_of_mem _ (getL_some h)
theorem fitV_some {v : ByteArray} (h : fitV v = true) : v.toList ≠ [] := fun e => by
  have h1 : 1 ≤ v.size ∧ v.size ≤ 64 := by simpa [fitV] using h
  rw [Lib.toList_data] at e
  have : v.data.toList.length = v.size := rfl
  rw [e] at this
  simp at this
  omega
theorem valid_has {l : List Lbl} (h : validP l) {nm v : ByteArray} : (⟨nm, v⟩ : Lbl) ∈ l ↔ getL l nm = v ∧ v.toList ≠ [] := by
  constructor
  · intro hm
    exact ⟨getL_mem (valid_apart h) hm, fitV_some (valid_fits h _ hm).2⟩
  · rintro ⟨rfl, h2⟩
    exact getL_some h2
theorem mem_flatE {E : List (List Lbl)} {y : Int × Lbl} : y ∈ flatE E ↔ ∃ (i : Nat) (l : List Lbl), E[i]? = some l ∧ y.1 = (i : Int) ∧ y.2 ∈ l := by
  unfold flatE
  rw [List.mem_flatMap]
  constructor
  · rintro ⟨p, hp, hy⟩
    obtain ⟨x, hx, rfl⟩ := List.mem_map.1 hy
    exact ⟨p.2, p.1, by have := List.mem_zipIdx_iff_getElem?.1 hp; exact this, rfl, hx⟩
  · rintro ⟨i, l, h1, h2, h3⟩
    exact ⟨(l, i), List.mem_zipIdx_iff_getElem?.2 h1, List.mem_map.2 ⟨y.2, h3, by rw [← h2]⟩⟩
theorem mem_namesE {E : List (List Lbl)} {x : ByteArray} : x ∈ namesE E ↔ ∃ y ∈ flatE E, y.2.name = x := by
  unfold namesE
  rw [List.mem_flatMap]
  constructor
  · rintro ⟨l, hl, hx⟩
    obtain ⟨z, hz, rfl⟩ := List.mem_map.1 hx
    obtain ⟨i, hi, rfl⟩ := List.mem_iff_getElem.1 hl
    exact ⟨((i : Int), z), mem_flatE.2 ⟨i, _, List.getElem?_eq_getElem hi, rfl, hz⟩, rfl⟩
  · rintro ⟨y, hy, rfl⟩
    obtain ⟨i, l, h1, h2, h3⟩ := mem_flatE.1 hy
    exact ⟨l, List.mem_of_getElem? h1, List.mem_map.2 ⟨_, h3, rfl⟩⟩
theorem mem_valsE {E : List (List Lbl)} (hv : ∀ l ∈ E, validP l) {nm x : ByteArray} : x ∈ valsE E nm ↔ ∃ y ∈ flatE E, y.2 = (⟨nm, x⟩ : Lbl) := by
  unfold valsE
  rw [List.mem_filterMap]
  constructor
  · rintro ⟨l, hl, hx⟩
    by_cases e : (getL l nm).toList = []
    · rw [if_pos e] at hx; cases hx
    · rw [if_neg e] at hx
      cases hx
      obtain ⟨i, hi, rfl⟩ := List.mem_iff_getElem.1 hl
      exact ⟨((i : Int), _), mem_flatE.2 ⟨i, _, List.getElem?_eq_getElem hi, rfl, getL_some e⟩, rfl⟩
  · rintro ⟨y, hy, hyx⟩
    obtain ⟨i, l, h1, h2, h3⟩ := mem_flatE.1 hy
    rw [hyx] at h3
    obtain ⟨h4, h5⟩ := (valid_has (hv l (List.mem_of_getElem? h1))).1 h3
    exact ⟨l, List.mem_of_getElem? h1, by rw [h4, if_neg h5]⟩
theorem namesE_len {E : List (List Lbl)} (hv : ∀ l ∈ E, validP l) : (namesE E).length ≤ 8 * E.length := by
  induction E with
  | nil => simp [namesE]
  | cons l E ih =>
    have h1 := ih fun x hx => hv x (by simp [hx])
    have h2 := (valid_small (hv l (by simp))).1
    simp only [namesE, List.flatMap_cons, List.length_append, List.length_map, List.length_cons] at h1 ⊢
    omega
theorem strs_len {m : List (Value × Value)} (hn : (m.map (·.1)).Nodup) (hS : ∀ p ∈ m, IsStr p.1) {b : List ByteArray} (h : ∀ s, atV m (.string s) ≠ none → s ∈ b) : m.length ≤ b.length := by
  have := nodup_len (b := b.map Value.string) hn fun x hx => by
    obtain ⟨p, hp, rfl⟩ := List.mem_map.1 hx
    obtain ⟨s, hs⟩ := hS p hp
    have h0 : atV m (.string s) ≠ none := fun h0 => (atV_none _ _).1 h0 p hp hs
    rw [hs]
    exact List.mem_map.2 ⟨s, h s h0, rfl⟩
  simpa using this

/-! walked -/
set_option maxHeartbeats 1600000 in
theorem idx_names (w : World) {base p : Nat} {E : List (List Lbl)} (h : Idx w base p E) (hE : E.length ≤ 1048576) :
    Calls Tryz.prog 17 #[.pointer (some ⟨p, 0, none⟩)] w (KeysAns w fun x => x ∈ namesE E) := by
  have hval := h.valid
  obtain ⟨sv, L, bn, bl, mn, ml, oM, oI, h, rfl⟩ := h
  have c2 := h.b.blk.cell 2
  have hiff : ∀ s, atV ml (.string s) ≠ none ↔ s ∈ namesE (L.map SetR.l) := fun s => by
    rw [mem_namesE]
    constructor
    · intro h0
      obtain ⟨v, hv⟩ := Option.ne_none_iff_exists'.1 h0
      exact (h.lists.hit s v hv).1
    · intro h1 h0
      exact h.lists.miss s h0 h1
  have hlen := strs_len h.lists.map.nodup h.lists.map.strs (fun s hs => (hiff s).1 hs)
  have hl8 := namesE_len hval.1
  have S1 := hidden (keysA_sorted bl ml w h.lists.map (by omega) (fun s hs => by
    obtain ⟨l, hl, hx⟩ := List.mem_flatMap.1 ((hiff s).1 hs)
    obtain ⟨z, hz, rfl⟩ := List.mem_map.1 hx
    have := (valid_small (hval.1 l hl)).2 z hz
    unfold maxLen
    omega))
  have HI := hidden hiff
  clear h hval hiff hlen hl8 hE
  go_enter Tryz.func17, Tryz.ntmps17
  go_wp2_with fail
  refine (keysA_any (some bl) w).mono ?_
  rintro e w1 ⟨rfl, rfl⟩
  go_wp2_with fail
  refine S1.out.mono ?_
  rintro e w2 ⟨v, S, rfl, ho, hr, hm, hb⟩
  have HF := hidden (And.intro ho (And.intro hr (And.intro hm hb)))
  clear ho hr hm hb S1
  go_wp2_with fail
  go_ret
  exact ⟨v, S, rfl, HF.out.1, HF.out.2.1, fun x => (HF.out.2.2.1 x).trans (HI.out x), HF.out.2.2.2⟩
set_option maxHeartbeats 1600000 in
theorem idx_values (nm : ByteArray) (w : World) {base p : Nat} {E : List (List Lbl)} (h : Idx w base p E) (hE : E.length ≤ 1048576) :
    Calls Tryz.prog 22 #[.pointer (some ⟨p, 0, none⟩), .string nm] w (KeysAns w fun x => x ∈ valsE E nm) := by
  have hval := h.valid
  obtain ⟨sv, L, bn, bl, mn, ml, oM, oI, h, rfl⟩ := h
  have c2 := h.b.blk.cell 2
  have hL := h.lists.map.look keyStr h.lists.map.strs Tryz.underlying82 (zero_mm w) (key := .string nm) ⟨_, rfl⟩ false
  simp only [Bool.false_eq_true, if_false] at hL
  cases hat : atV ml (.string nm) with
  | none =>
    rw [hat] at hL
    simp only [Option.getD_none] at hL
    have HI := hidden (fun x => show False ↔ x ∈ valsE (L.map SetR.l) nm from by
      rw [mem_valsE hval.1]
      refine ⟨False.elim, fun ⟨y, hy, e⟩ => ?_⟩
      exact h.lists.miss nm hat ⟨y, hy, by rw [e]⟩)
    have S1 := hidden (keysB_nil w)
    clear h hval hat hE
    go_enter Tryz.func22, Tryz.ntmps22
    go_wp2_with fail
    refine (keysB_any none w).mono ?_
    rintro e w1 ⟨rfl, rfl⟩
    go_wp2_with fail
    refine S1.out.mono ?_
    rintro e w2 ⟨v, S, rfl, ho, hr, hm, hb⟩
    have HF := hidden (And.intro ho (And.intro hr (And.intro hm hb)))
    clear ho hr hm hb S1
    go_wp2_with fail
    go_ret
    exact ⟨v, S, rfl, HF.out.1, HF.out.2.1, fun x => (HF.out.2.2.1 x).trans (HI.out x), HF.out.2.2.2⟩
  | some u =>
    obtain ⟨hN, bi, mi, rfl, hbi, hbne, hoM, hmi, hI⟩ := h.lists.hit nm u hat
    rw [hat] at hL
    simp only [Option.getD_some] at hL
    have hiff : ∀ s, atV mi (.string s) ≠ none ↔ s ∈ valsE (L.map SetR.l) nm := fun s => by
      rw [mem_valsE hval.1]
      constructor
      · intro h0
        obtain ⟨v, hv⟩ := Option.ne_none_iff_exists'.1 h0
        exact (hI.hit s v hv).1
      · rintro ⟨y, hy, e⟩ h0
        exact hI.miss s h0 y hy e
    have hlen := strs_len hmi.nodup hmi.strs (fun s hs => (hiff s).1 hs)
    have hl8 := valsE_len (L.map SetR.l) nm
    have S1 := hidden (keysB_sorted bi mi w hmi (by omega) (fun s hs => by
      obtain ⟨y, hy, e⟩ := (mem_valsE hval.1).1 ((hiff s).1 hs)
      obtain ⟨i, l, h1, _, h3⟩ := mem_flatE.1 hy
      rw [e] at h3
      have := (valid_small (hval.1 l (List.mem_of_getElem? h1))).2 _ h3
      unfold maxLen
      simp only at this
      omega))
    have HI := hidden hiff
    clear h hval hiff hlen hl8 hE hN hI hmi hat hbi hbne hoM
    go_enter Tryz.func22, Tryz.ntmps22
    go_wp2_with fail
    refine (keysB_any (some bi) w).mono ?_
    rintro e w1 ⟨rfl, rfl⟩
    go_wp2_with fail
    refine S1.out.mono ?_
    rintro e w2 ⟨v, S, rfl, ho, hr, hm, hb⟩
    have HF := hidden (And.intro ho (And.intro hr (And.intro hm hb)))
    clear ho hr hm hb S1
    go_wp2_with fail
    go_ret
    exact ⟨v, S, rfl, HF.out.1, HF.out.2.1, fun x => (HF.out.2.2.1 x).trans (HI.out x), HF.out.2.2.2⟩
end Go.Proofs.YtalnndenncnbdaaGreat
