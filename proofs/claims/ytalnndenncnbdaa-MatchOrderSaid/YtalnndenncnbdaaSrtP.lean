/- The stable sort of a list, plainly: a permutation, in order, stable; and a world of the sort's as a block. No condition. cmp.Compare at int64. No condition. -/
import Derived.Test.YtalnndenncnbdaaStable
import Derived.Test.YtalnndenncnbdaaBase
import Derived.Shelf.SlSortCmp.KitK
namespace Go.Proofs.Ytalnndenncnbdaa
set_option maxRecDepth 100000
open Go.Shelf Go.RowKit Go.Lib Go.Sort

section
variable {α : Type} {lt : α → α → Bool}
/-- first by lt, then by the place -/
def byTag (lt : α → α → Bool) (u v : α × Nat) : Bool := lt u.1 v.1 || (!lt v.1 u.1 && decide (u.2 < v.2))
theorem swo_byTag (h : SWO lt) : SWO (byTag lt) where
  irrefl x := by simp [byTag, h.irrefl]
  trans x y z h1 h2 := by
    unfold byTag at *
    have a1 := h.trans x.1 y.1 z.1
    have a2 := h.ntrans z.1 y.1 x.1
    have a3 := h.ntrans x.1 z.1 y.1
    have a4 := h.ntrans y.1 x.1 z.1
    have b1 := h.trans x.1 y.1 x.1
    have b2 := h.trans y.1 z.1 y.1
    have b3 := h.irrefl x.1
    have b4 := h.irrefl y.1
    cases e1 : lt x.1 y.1 <;> cases e2 : lt y.1 z.1 <;> cases e3 : lt x.1 z.1 <;> cases e4 : lt y.1 x.1 <;> cases e5 : lt z.1 y.1 <;> cases e6 : lt z.1 x.1 <;> simp_all <;> omega
  ntrans x y z h1 h2 := by
    unfold byTag at *
    have a1 := h.ntrans x.1 y.1 z.1
    have a2 := h.trans z.1 y.1 x.1
    have a3 := h.ntrans z.1 x.1 y.1
    have a4 := h.ntrans y.1 z.1 x.1
    have a5 := h.trans y.1 x.1 z.1
    have a6 := h.trans x.1 z.1 y.1
    cases e1 : lt x.1 y.1 <;> cases e2 : lt y.1 z.1 <;> cases e3 : lt x.1 z.1 <;> cases e4 : lt y.1 x.1 <;> cases e5 : lt z.1 y.1 <;> cases e6 : lt z.1 x.1 <;> simp_all <;> omega
end

section
variable {α : Type} [Inhabited α] (lt : α → α → Bool)
/-- the stable sort -/
def stab (l : List α) : List α := (stable (fun u v => lt u.1 v.1) l.length l.zipIdx.toArray).toList.map Prod.fst
variable {lt}
theorem stab_ok (h : SWO lt) (l : List α) : (stable (fun u v : α × Nat => lt u.1 v.1) l.length l.zipIdx.toArray).toList.Perm l.zipIdx ∧ (stable (fun u v : α × Nat => lt u.1 v.1) l.length l.zipIdx.toArray).toList.Pairwise fun u v => byTag lt v u = false := by
  have hsz0 : l.zipIdx.toArray.size = l.length := by simp
  have hat : ∀ i (hi : i < l.length), l.zipIdx.toArray[i]! = (l[i], i) := fun i hi => by
    rw [getElem!_pos _ i (by rw [hsz0]; exact hi)]; simp
  obtain ⟨hp, hs⟩ := stable_ok (lt := fun u v : α × Nat => lt u.1 v.1) (R := byTag lt) (swo_byTag h) l.zipIdx.toArray (fun i j hij hj => by
    rw [hsz0] at hj
    rw [hat i (by omega), hat j hj]
    have : decide (j < i) = false := decide_eq_false (by omega)
    simp [byTag, this])
  rw [hsz0] at hp hs
  have hsz := hp.1
  rw [hsz0] at hsz
  have full : ∀ d : Array (α × Nat), d.size = l.length → d.extract 0 l.length = d := fun d hd => by rw [← hd]; simp
  have hperm := hp.2.2
  rw [full _ hsz, full _ hsz0] at hperm
  refine ⟨by simpa using hperm, ?_⟩
  rw [List.pairwise_iff_getElem]
  intro i j hi hj hij
  rw [Array.length_toList, hsz] at hi hj
  have := hs i j (Nat.zero_le _) hij hj
  rw [getElem!_pos _ i (by rw [hsz]; exact hi), getElem!_pos _ j (by rw [hsz]; exact hj)] at this
  simpa using this
theorem stab_perm (h : SWO lt) (l : List α) : (stab lt l).Perm l := by
  have := (stab_ok h l).1.map Prod.fst
  simpa [stab] using this
theorem stab_len (h : SWO lt) (l : List α) : (stab lt l).length = l.length := (stab_perm h l).length_eq
theorem stab_sorted (h : SWO lt) (l : List α) : (stab lt l).Pairwise fun x y => lt y x = false := by
  unfold stab
  rw [List.pairwise_map]
  refine (stab_ok h l).2.imp fun {u v} h1 => ?_
  unfold byTag at h1
  simp only [Bool.or_eq_false_iff] at h1
  exact h1.1
/-- what is alike stays in its order -/
theorem stab_filter (h : SWO lt) (l : List α) (P : α → Bool) (hP : ∀ x y, P x = true → P y = true → lt x y = false) : (stab lt l).filter P = l.filter P := by
  obtain ⟨h1, h2⟩ := stab_ok h l
  have h3 : (stable (fun u v : α × Nat => lt u.1 v.1) l.length l.zipIdx.toArray).toList.filter (fun u => P u.1) = l.zipIdx.filter (fun u => P u.1) := by
    refine (h1.filter _).eq_of_pairwise (le := fun u v => u.2 ≤ v.2) ?_ ?_ ?_
    · intro u v hu hv a b
      have hu' := (List.mem_filter.1 hu).1
      have hv' := (List.mem_filter.1 hv).1
      have e1 : u ∈ l.zipIdx := h1.mem_iff.1 hu'
      have hab : u.2 = v.2 := by omega
      have m1 := List.mem_zipIdx_iff_getElem?.1 e1
      have m2 := List.mem_zipIdx_iff_getElem?.1 hv'
      rw [hab, m2] at m1
      injection m1 with m1
      exact Prod.ext m1.symm hab
    · have h4 := h2.filter (fun u => P u.1)
      refine List.Pairwise.imp_of_mem (fun {u v} hu hv a => ?_) h4
      have pu := (List.mem_filter.1 hu).2
      have pv := (List.mem_filter.1 hv).2
      unfold byTag at a
      rw [hP _ _ pv pu, hP _ _ pu pv] at a
      simp only [Bool.false_or, Bool.not_false, Bool.true_and, decide_eq_false_iff_not] at a
      omega
    · have h5 : l.zipIdx.Pairwise fun u v => u.2 ≤ v.2 := by
        rw [List.pairwise_iff_getElem]
        intro i j hi hj hij
        simp
        omega
      exact h5.filter _
  have h4 := congrArg (List.map Prod.fst) h3
  have e : ∀ M : List (α × Nat), (M.filter (fun u => P u.1)).map Prod.fst = (M.map Prod.fst).filter P := fun M => by rw [List.filter_map]; rfl
  rw [e, e] at h4
  simpa [stab] using h4
end

theorem holdsK_of_cells' {α : Type} [Inhabited α] {enc : α → List Value} {k : Nat} (hk : ∀ x, (enc x).length = k) {w : World} {g off : Nat} {d : Array α} (h : ∀ j, j < d.size * k → w.cell? ⟨g, off + j, none⟩ = (d.toList.flatMap enc)[j]? ∧ w.frozen? ⟨g, off + j, none⟩ = false) : HoldsK enc k w g off d := by
  intro j hj
  have hs : (flatK enc k d).size = d.size * k := size_flatK enc k d
  rw [hs] at hj
  obtain ⟨h1, h2⟩ := h j hj
  refine ⟨?_, h2⟩
  have hk0 : 0 < k := by
    rcases Nat.eq_zero_or_pos k with h0 | h0
    · subst h0; omega
    · exact h0
  have hi : j / k < d.size := (Nat.div_lt_iff_lt_mul hk0).2 hj
  have hm : j % k < k := Nat.mod_lt _ hk0
  have hd : j / k * k + j % k = j := Nat.div_add_mod' j k
  have h3 := fm_at hk d.toList (j / k) d[j / k] (j % k) (by simp [hi]) hm
  rw [hd] at h3
  rw [h1, h3]
  have h4 : (flatK enc k d)[j]! = (enc d[j / k]!)[j % k]! := by
    unfold flatK
    rw [getElem!_pos _ j (by simpa using hj)]
    simp
  show _ = some (id (flatK enc k d)[j]!)
  rw [id, h4, getElem!_pos d (j / k) hi, getElem!_pos _ (j % k) (by rw [hk]; exact hm), List.getElem?_eq_getElem (by rw [hk]; exact hm)]

/-! a world of the sort's -/
section
variable {α : Type} [Inhabited α] {enc : α → List Value} {k : Nat} {w0 W : World} {blk : Nat} {dk : Array α}
theorem sw_gb {off : Nat} (h : SWK enc k w0 blk off dk W) : w0.grownBy W (some blk) := by
  obtain ⟨n, os, rfl⟩ := h
  refine ⟨rfl, rfl, rfl, by unfold sortWorldK; rw [size_grow, size_putRowK]; exact Nat.le_add_right _ _, fun i hi hne => ?_⟩
  unfold sortWorldK grow putRowK putRow mapBlock
  simp only
  have hne' : blk ≠ i := fun h => hne (by rw [h])
  rw [Array.getElem?_append_left (by simpa using hi), Array.getElem?_modify, if_neg hne']
  rfl
theorem sw_whole {T : TypeId} {cs : Array Value} (h : SWK enc k w0 blk 0 dk W) (hw : Whole1 w0 blk T cs) : ∃ cs', Whole1 W blk T cs' ∧ cs'.size = cs.size := by
  obtain ⟨n, os, rfl⟩ := h
  refine ⟨putCells id 0 (flatK enc k dk) cs, ?_, by simp [putCells]⟩
  have hlt := hw.lt
  unfold Whole1 at hw ⊢
  unfold sortWorldK grow putRowK putRow mapBlock
  simp only
  rw [Array.getElem?_append_left (by simpa using hlt), Array.getElem?_modify, if_pos rfl]
  have : (Sort.ahead w0 n).heap[blk]? = w0.heap[blk]? := rfl
  rw [this, hw]
  rfl
theorem sw_cells {d0 : Array α} (h : SWK enc k w0 blk 0 dk W) (R : RowK enc k w0 blk 0 d0) (hs : dk.size = d0.size) (j : Nat) (hj : j < dk.size * k) : W.cell? ⟨blk, j, none⟩ = (dk.toList.flatMap enc)[j]? := by
  have hH := h.holds R.hblk R.hH hs
  have hk0 : 0 < k := by
    rcases Nat.eq_zero_or_pos k with h0 | h0
    · subst h0; omega
    · exact h0
  have hi : j / k < dk.size := (Nat.div_lt_iff_lt_mul hk0).2 hj
  have hm : j % k < k := Nat.mod_lt _ hk0
  have hd : j / k * k + j % k = j := Nat.div_add_mod' j k
  have h3 := fm_at R.hk dk.toList (j / k) dk[j / k] (j % k) (by simp [hi]) hm
  have h4 := (HoldsK.cell hH hi hm).1
  rw [show 0 + j / k * k + j % k = j from by omega] at h4
  rw [hd] at h3
  rw [h3, h4, getElem!_pos dk (j / k) hi, getElem!_pos _ (j % k) (by rw [R.hk]; exact hm), List.getElem?_eq_getElem (by rw [R.hk]; exact hm)]
/-- the block holds the sorted row, and as many cells as before -/
theorem sw_block {T : TypeId} {l : List α} {rest : List Value} {m : Nat} {d0 : Array α} (h : SWK enc k w0 blk 0 dk W) (R : RowK enc k w0 blk 0 d0) (hs : dk.size = d0.size) (hw : Whole1 w0 blk T (l.flatMap enc ++ rest).toArray) (hm : (l.flatMap enc ++ rest).length = m) (hl : l.length = dk.size) :
    ∃ rest', Whole1 W blk T (dk.toList.flatMap enc ++ rest').toArray ∧ (dk.toList.flatMap enc ++ rest').length = m := by
  obtain ⟨cs', h1, h2⟩ := sw_whole h hw
  have hsz : cs'.toList.length = m := by rw [Array.length_toList, h2]; simpa using hm
  have hle : dk.size * k ≤ m := by rw [← hm, List.length_append, fm_len R.hk, hl]; omega
  have hfl : (dk.toList.flatMap enc).length = dk.size * k := by rw [fm_len R.hk]; simp
  have htake : cs'.toList.take (dk.size * k) = dk.toList.flatMap enc := by
    apply List.ext_getElem?
    intro j
    rw [List.getElem?_take]
    by_cases hj : j < dk.size * k
    · rw [if_pos hj, Array.getElem?_toList, ← h1.cell, sw_cells h R hs j hj]
    · rw [if_neg hj, List.getElem?_eq_none (by omega)]
  refine ⟨cs'.toList.drop (dk.size * k), ?_, ?_⟩
  · rw [← htake, List.take_append_drop]; exact h1
  · rw [← htake, List.take_append_drop]; exact hsz
end
end Go.Proofs.Ytalnndenncnbdaa

namespace Go.Proofs.Ytalnndenncnbdaa
set_option maxRecDepth 100000
open Go.RowKit Go.Sort

def cmpZ (x y : Int) : Int := if x < y then -1 else if y < x then 1 else 0
theorem cmpZ_lt (x y : Int) : decide (cmpZ x y < 0) = decide (x < y) := by
  unfold cmpZ
  by_cases h : x < y
  · simp [h]
  · rw [if_neg h]
    by_cases h2 : y < x
    · simp [h, h2]
    · simp [h, h2]
theorem swo_at {α : Type} (f : α → Int) : SWO fun x y => decide (cmpZ (f x) (f y) < 0) where
  irrefl x := by rw [cmpZ_lt]; simp
  trans x y z h1 h2 := by
    rw [cmpZ_lt] at *
    simp only [decide_eq_true_eq] at *
    omega
  ntrans x y z h1 h2 := by
    rw [cmpZ_lt] at *
    simp only [decide_eq_false_iff_not] at *
    omega
end Go.Proofs.Ytalnndenncnbdaa
