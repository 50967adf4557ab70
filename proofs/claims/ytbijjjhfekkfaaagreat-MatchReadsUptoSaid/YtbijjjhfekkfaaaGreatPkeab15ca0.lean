/- The stable sort of a list, plainly: a permutation, in order, stable; and a world of the sort's as a block. No condition. cmp.Compare at int64. No condition. slices.SortFunc at labels, whatever order: what it leaves. Condition: the order has a contract, the row is within the reach. 'append(s[:0:0], s...)': a copy. No condition but the reach. slices.Clone at labels: a copy of the call's own. Condition: the row is within the reach. slices.Clone at labels: a copy of the call's own. Condition: the row is within the reach. labels.Make, walked: the sorted set of labels, or its error. Condition: the row is within the reach. -/
import Derived.Test.YtbijjjhfekkfaaaGreatStable
import Derived.Test.YtbijjjhfekkfaaaGreatBase
import Derived.Shelf.SlSortCmp.KitK
import Derived.Test.YtbijjjhfekkfaaaGreatPkc787b734
import Derived.Shelf.SlSortCmp.WholeK
import Derived.ArgAppend
import Derived.Test.YtbijjjhfekkfaaaGreatPk3512f865
namespace Go.Proofs.YtbijjjhfekkfaaaGreat
set_option maxRecDepth 100000
open Go.Shelf Go.RowKit Go.Lib Go.Sort

section
variable {α : Type} {lt : α → α → Bool}
/-- first by lt, then by the place -/
def byTag (lt : α → α → Bool) (u v : α × Nat) : Bool := lt u.1 v.1 || (!lt v.1 u.1 && decide (u.2 < v.2))
theorem swo_byTag (h : SWO lt) : SWO (byTag lt) where
  irrefl x := by simp [byTag, h.irrefl]
  trans x y z h1 h2 := by
    unfold byTag at *
    have a1 := h.trans x.1 y.1 z.1
    have a2 := h.ntrans z.1 y.1 x.1
    have a3 := h.ntrans x.1 z.1 y.1
    have a4 := h.ntrans y.1 x.1 z.1
    have b1 := h.trans x.1 y.1 x.1
    have b2 := h.trans y.1 z.1 y.1
    have b3 := h.irrefl x.1
    have b4 := h.irrefl y.1
    cases e1 : lt x.1 y.1 <;> cases e2 : lt y.1 z.1 <;> cases e3 : lt x.1 z.1 <;> cases e4 : lt y.1 x.1 <;> cases e5 : lt z.1 y.1 <;> cases e6 : lt z.1 x.1 <;> simp_all <;> omega
  ntrans x y z h1 h2 := by
    unfold byTag at *
    have a1 := h.ntrans x.1 y.1 z.1
    have a2 := h.trans z.1 y.1 x.1
    have a3 := h.ntrans z.1 x.1 y.1
    have a4 := h.ntrans y.1 z.1 x.1
    have a5 := h.trans y.1 x.1 z.1
    have a6 := h.trans x.1 z.1 y.1
    cases e1 : lt x.1 y.1 <;> cases e2 : lt y.1 z.1 <;> cases e3 : lt x.1 z.1 <;> cases e4 : lt y.1 x.1 <;> cases e5 : lt z.1 y.1 <;> cases e6 : lt z.1 x.1 <;> simp_all <;> omega
end

section
variable {α : Type} [Inhabited α] (lt : α → α → Bool)
/-- the stable sort -/
def stab (l : List α) : List α := (stable (fun u v => lt u.1 v.1) l.length l.zipIdx.toArray).toList.map Prod.fst
variable {lt}
theorem stab_ok (h : SWO lt) (l : List α) : (stable (fun u v : α × Nat => lt u.1 v.1) l.length l.zipIdx.toArray).toList.Perm l.zipIdx ∧ (stable (fun u v : α × Nat => lt u.1 v.1) l.length l.zipIdx.toArray).toList.Pairwise fun u v => byTag lt v u = false := by
  have hsz0 : l.zipIdx.toArray.size = l.length := by simp
  have hat : ∀ i (hi : i < l.length), l.zipIdx.toArray[i]! = (l[i], i) := fun i hi => by
    rw [getElem!_pos _ i (by rw [hsz0]; exact hi)]; simp
  obtain ⟨hp, hs⟩ := stable_ok (lt := fun u v : α × Nat => lt u.1 v.1) (R := byTag lt) (swo_byTag h) l.zipIdx.toArray (fun i j hij hj => by
    rw [hsz0] at hj
    rw [hat i (by omega), hat j hj]
    have : decide (j < i) = false := decide_eq_false (by omega)
    simp [byTag, this])
  rw [hsz0] at hp hs
  have hsz := hp.1
  rw [hsz0] at hsz
  have full : ∀ d : Array (α × Nat), d.size = l.length → d.extract 0 l.length = d := fun d hd => by rw [← hd]; simp
  have hperm := hp.2.2
  rw [full _ hsz, full _ hsz0] at hperm
  refine ⟨by simpa using hperm, ?_⟩
  rw [List.pairwise_iff_getElem]
  intro i j hi hj hij
  rw [Array.length_toList, hsz] at hi hj
  have := hs i j (Nat.zero_le _) hij hj
  rw [getElem!_pos _ i (by rw [hsz]; exact hi), getElem!_pos _ j (by rw [hsz]; exact hj)] at this
  simpa using this
theorem stab_perm (h : SWO lt) (l : List α) : (stab lt l).Perm l := by
  have := (stab_ok h l).1.map Prod.fst
  simpa [stab] using this
theorem stab_len (h : SWO lt) (l : List α) : (stab lt l).length = l.length := (stab_perm h l).length_eq
theorem stab_sorted (h : SWO lt) (l : List α) : (stab lt l).Pairwise fun x y => lt y x = false := by
  unfold stab
  rw [List.pairwise_map]
  refine (stab_ok h l).2.imp fun {u v} h1 => ?_
  unfold byTag at h1
  simp only [Bool.or_eq_false_iff] at h1
  exact h1.1
/-- what is alike stays in its order -/
theorem stab_filter (h : SWO lt) (l : List α) (P : α → Bool) (hP : ∀ x y, P x = true → P y = true → lt x y = false) : (stab lt l).filter P = l.filter P := by
  obtain ⟨h1, h2⟩ := stab_ok h l
  have h3 : (stable (fun u v : α × Nat => lt u.1 v.1) l.length l.zipIdx.toArray).toList.filter (fun u => P u.1) = l.zipIdx.filter (fun u => P u.1) := by
    refine (h1.filter _).eq_of_pairwise (le := fun u v => u.2 ≤ v.2) ?_ ?_ ?_
    · intro u v hu hv a b
      have hu' := (List.mem_filter.1 hu).1
      have hv' := (List.mem_filter.1 hv).1
      have e1 : u ∈ l.zipIdx := h1.mem_iff.1 hu'
      have hab : u.2 = v.2 := by omega
      have m1 := List.mem_zipIdx_iff_getElem?.1 e1
      have m2 := List.mem_zipIdx_iff_getElem?.1 hv'
      rw [hab, m2] at m1
      injection m1 with m1
      exact Prod.ext m1.symm hab
    · have h4 := h2.filter (fun u => P u.1)
      refine List.Pairwise.imp_of_mem (fun {u v} hu hv a => ?_) h4
      have pu := (List.mem_filter.1 hu).2
      have pv := (List.mem_filter.1 hv).2
      unfold byTag at a
      rw [hP _ _ pv pu, hP _ _ pu pv] at a
      simp only [Bool.false_or, Bool.not_false, Bool.true_and, decide_eq_false_iff_not] at a
      omega
    · have h5 : l.zipIdx.Pairwise fun u v => u.2 ≤ v.2 := by
        rw [List.pairwise_iff_getElem]
        intro i j hi hj hij
        simp
        omega
      exact h5.filter _
  have h4 := congrArg (List.map Prod.fst) h3
  have e : ∀ M : List (α × Nat), (M.filter (fun u => P u.1)).map Prod.fst = (M.map Prod.fst).filter P := fun M => by rw [List.filter_map]; rfl
  rw [e, e] at h4
  simpa [stab] using h4
end

theorem holdsK_of_cells' {α : Type} [Inhabited α] {enc : α → List Value} {k : Nat} (hk : ∀ x, (enc x).length = k) {w : World} {g off : Nat} {d : Array α} (h : ∀ j, j < d.size * k → w.cell? ⟨g, off + j, none⟩ = (d.toList.flatMap enc)[j]? ∧ w.frozen? ⟨g, off + j, none⟩ = false) : HoldsK enc k w g off d := by
  intro j hj
  have hs : (flatK enc k d).size = d.size * k := size_flatK enc k d
  rw [hs] at hj
  obtain ⟨h1, h2⟩ := h j hj
  refine ⟨?_, h2⟩
  have hk0 : 0 < k := by
    rcases Nat.eq_zero_or_pos k with h0 | h0
    · subst h0; omega
    · exact h0
  have hi : j / k < d.size := (Nat.div_lt_iff_lt_mul hk0).2 hj
  have hm : j % k < k := Nat.mod_lt _ hk0
  have hd : j / k * k + j % k = j := Nat.div_add_mod' j k
  have h3 := fm_at hk d.toList (j / k) d[j / k] (j % k) (by simp [hi]) hm
  rw [hd] at h3
  rw [h1, h3]
  have h4 : (flatK enc k d)[j]! = (enc d[j / k]!)[j % k]! := by
    unfold flatK
    rw [getElem!_pos _ j (by simpa using hj)]
    simp
  show _ = some (id (flatK enc k d)[j]!)
  rw [id, h4, getElem!_pos d (j / k) hi, getElem!_pos _ (j % k) (by rw [hk]; exact hm), List.getElem?_eq_getElem (by rw [hk]; exact hm)]

/-! a world of the sort's -/
section
variable {α : Type} [Inhabited α] {enc : α → List Value} {k : Nat} {w0 W : World} {blk : Nat} {dk : Array α}
theorem sw_gb {off : Nat} (h : SWK enc k w0 blk off dk W) : w0.grownBy W (some blk) := by
  obtain ⟨n, os, rfl⟩ := h
  refine ⟨rfl, rfl, rfl, by unfold sortWorldK; rw [size_grow, size_putRowK]; exact Nat.le_add_right _ _, fun i hi hne => ?_⟩
  unfold sortWorldK grow putRowK putRow mapBlock
  simp only
  have hne' : blk ≠ i := fun h => hne (by rw [h])
  rw [Array.getElem?_append_left (by simpa using hi), Array.getElem?_modify, if_neg hne']
  rfl
theorem sw_whole {T : TypeId} {cs : Array Value} (h : SWK enc k w0 blk 0 dk W) (hw : Whole1 w0 blk T cs) : ∃ cs', Whole1 W blk T cs' ∧ cs'.size = cs.size := by
  obtain ⟨n, os, rfl⟩ := h
  refine ⟨putCells id 0 (flatK enc k dk) cs, ?_, by simp [putCells]⟩
  have hlt := hw.lt
  unfold Whole1 at hw ⊢
  unfold sortWorldK grow putRowK putRow mapBlock
  simp only
  rw [Array.getElem?_append_left (by simpa using hlt), Array.getElem?_modify, if_pos rfl]
  have : (Sort.ahead w0 n).heap[blk]? = w0.heap[blk]? := rfl
  rw [this, hw]
  rfl
theorem sw_cells {d0 : Array α} (h : SWK enc k w0 blk 0 dk W) (R : RowK enc k w0 blk 0 d0) (hs : dk.size = d0.size) (j : Nat) (hj : j < dk.size * k) : W.cell? ⟨blk, j, none⟩ = (dk.toList.flatMap enc)[j]? := by
  have hH := h.holds R.hblk R.hH hs
  have hk0 : 0 < k := by
    rcases Nat.eq_zero_or_pos k with h0 | h0
    · subst h0; omega
    · exact h0
  have hi : j / k < dk.size := (Nat.div_lt_iff_lt_mul hk0).2 hj
  have hm : j % k < k := Nat.mod_lt _ hk0
  have hd : j / k * k + j % k = j := Nat.div_add_mod' j k
  have h3 := fm_at R.hk dk.toList (j / k) dk[j / k] (j % k) (by simp [hi]) hm
  have h4 := (HoldsK.cell hH hi hm).1
  rw [show 0 + j / k * k + j % k = j from by omega] at h4
  rw [hd] at h3
  rw [h3, h4, getElem!_pos dk (j / k) hi, getElem!_pos _ (j % k) (by rw [R.hk]; exact hm), List.getElem?_eq_getElem (by rw [R.hk]; exact hm)]
/-- the block holds the sorted row, and as many cells as before -/
theorem sw_block {T : TypeId} {l : List α} {rest : List Value} {m : Nat} {d0 : Array α} (h : SWK enc k w0 blk 0 dk W) (R : RowK enc k w0 blk 0 d0) (hs : dk.size = d0.size) (hw : Whole1 w0 blk T (l.flatMap enc ++ rest).toArray) (hm : (l.flatMap enc ++ rest).length = m) (hl : l.length = dk.size) :
    ∃ rest', Whole1 W blk T (dk.toList.flatMap enc ++ rest').toArray ∧ (dk.toList.flatMap enc ++ rest').length = m := by
  obtain ⟨cs', h1, h2⟩ := sw_whole h hw
  have hsz : cs'.toList.length = m := by rw [Array.length_toList, h2]; simpa using hm
  have hle : dk.size * k ≤ m := by rw [← hm, List.length_append, fm_len R.hk, hl]; omega
  have hfl : (dk.toList.flatMap enc).length = dk.size * k := by rw [fm_len R.hk]; simp
  have htake : cs'.toList.take (dk.size * k) = dk.toList.flatMap enc := by
    apply List.ext_getElem?
    intro j
    rw [List.getElem?_take]
    by_cases hj : j < dk.size * k
    · rw [if_pos hj, Array.getElem?_toList, ← h1.cell, sw_cells h R hs j hj]
    · rw [if_neg hj, List.getElem?_eq_none (by omega)]
  refine ⟨cs'.toList.drop (dk.size * k), ?_, ?_⟩
  · rw [← htake, List.take_append_drop]; exact h1
  · rw [← htake, List.take_append_drop]; exact hsz
end
end Go.Proofs.YtbijjjhfekkfaaaGreat

namespace Go.Proofs.YtbijjjhfekkfaaaGreat
set_option maxRecDepth 100000
open Go.RowKit Go.Sort

def cmpZ (x y : Int) : Int := if x < y then -1 else if y < x then 1 else 0
theorem cmpZ_lt (x y : Int) : decide (cmpZ x y < 0) = decide (x < y) := by
  unfold cmpZ
  by_cases h : x < y
  · simp [h]
  · rw [if_neg h]
    by_cases h2 : y < x
    · simp [h, h2]
    · simp [h, h2]
theorem swo_at {α : Type} (f : α → Int) : SWO fun x y => decide (cmpZ (f x) (f y) < 0) where
  irrefl x := by rw [cmpZ_lt]; simp
  trans x y z h1 h2 := by
    rw [cmpZ_lt] at *
    simp only [decide_eq_true_eq] at *
    omega
  ntrans x y z h1 h2 := by
    rw [cmpZ_lt] at *
    simp only [decide_eq_false_iff_not] at *
    omega
set_option maxHeartbeats 400000 in
theorem isNaN64_z (x : Int) (w : World) : Calls Tryz.prog 212 #[.int .i64 x] w fun e w' => e = .returned (.bool false) ∧ w' = w := by
  have h : ((x != x) : Bool) = false := by simp
  go_enter Tryz.func212, Tryz.ntmps212
  go_wp2
  go_ret
  exact ⟨rfl, rfl⟩
set_option maxHeartbeats 800000 in
theorem cmp64_z (x y : Int) (w : World) : Calls Tryz.prog 144 #[.int .i64 x, .int .i64 y] w fun e w' => e = .returned (.int .i64 (cmpZ x y)) ∧ w' = w := by
  rcases Int.lt_trichotomy x y with h | h | h
  · have hc := hidden (show cmpZ x y = -1 from if_pos h)
    go_enter Tryz.func144, Tryz.ntmps144
    go_wp2_with (go_at_call 212; refine (isNaN64_z _ _).mono ?_; rintro e w' ⟨rfl, rfl⟩)
    go_ret
    exact ⟨ret_int hc.out.symm, rfl⟩
  · subst h
    have hc := hidden (show cmpZ x x = 0 by simp [cmpZ])
    go_enter Tryz.func144, Tryz.ntmps144
    go_wp2_with (go_at_call 212; refine (isNaN64_z _ _).mono ?_; rintro e w' ⟨rfl, rfl⟩)
    go_ret
    exact ⟨ret_int hc.out.symm, rfl⟩
  · have hc := hidden (show cmpZ x y = 1 by unfold cmpZ; rw [if_neg (by omega), if_pos h])
    have h2 : ¬ x < y := by omega
    go_enter Tryz.func144, Tryz.ntmps144
    go_wp2_with (go_at_call 212; refine (isNaN64_z _ _).mono ?_; rintro e w' ⟨rfl, rfl⟩)
    go_ret
    exact ⟨ret_int hc.out.symm, rfl⟩
end Go.Proofs.YtbijjjhfekkfaaaGreat

namespace Go.Proofs.YtbijjjhfekkfaaaGreat.SrfLbl
set_option maxRecDepth 100000
open Go.Shelf Go.RowKit Go.Lib Go.Sort

def ren : Ren := { f := fun n => if n = 6 then 189 else if n = 14 then 243 else if n = 15 then 179 else if n = 20 then 278 else if n = 21 then 279 else if n = 22 then 280 else if n = 23 then 281 else if n = 24 then 282 else if n = 25 then 283 else if n = 26 then 284 else if n = 27 then 285 else if n = 28 then 239 else if n = 29 then 240 else if n = 46 then 308 else if n = 47 then 274 else if n = 48 then 275 else if n = 49 then 309 else if n = 50 then 310 else if n = 57 then 320 else 0, t := fun n => if n = 0 then 0 else if n = 3 then 3 else if n = 4 then 4 else if n = 5 then 5 else if n = 9 then 9 else if n = 22 then 53 else if n = 24 then 114 else if n = 25 then 284 else if n = 39 then 256 else if n = 45 then 389 else if n = 46 then 390 else if n = 50 then 202 else if n = 53 then 396 else if n = 55 then 110 else if n = 66 then 431 else if n = 70 then 435 else if n = 76 then 453 else if n = 77 then 137 else 0, g := fun _ => 0 }
theorem lays : SlLaysF0.n6 Tryz.prog ren where
  mixed := by kernel_rfl
  f6 := ⟨_, by kernel_rfl, Tryz.func189⟩
  f14 := ⟨_, by kernel_rfl, Tryz.func243⟩
  f15 := Tryz.func179
  f20 := ⟨_, by kernel_rfl, Tryz.func278⟩
  f21 := ⟨_, by kernel_rfl, Tryz.func279⟩
  f22 := ⟨_, by kernel_rfl, Tryz.func280⟩
  f23 := ⟨_, by kernel_rfl, Tryz.func281⟩
  f24 := ⟨_, by kernel_rfl, Tryz.func282⟩
  f25 := ⟨_, by kernel_rfl, Tryz.func283⟩
  f26 := ⟨_, by kernel_rfl, Tryz.func284⟩
  f27 := ⟨_, by kernel_rfl, Tryz.func285⟩
  f28 := Tryz.func239
  f29 := Tryz.func240
  f46 := ⟨_, by kernel_rfl, Tryz.func308⟩
  f47 := Tryz.func274
  f48 := Tryz.func275
  f49 := ⟨_, by kernel_rfl, Tryz.func309⟩
  f50 := ⟨_, by kernel_rfl, Tryz.func310⟩
  f57 := ⟨_, by kernel_rfl, Tryz.func320⟩
  t0 := by kernel_rfl
  a0 := fun w => by kernel_rfl
  z0 := fun w => by kernel_rfl
  v0 := fun w => by kernel_rfl
  t3 := by kernel_rfl
  a3 := fun w => by kernel_rfl
  z3 := fun w => by kernel_rfl
  v3 := fun w => by kernel_rfl
  t4 := by kernel_rfl
  a4 := fun w => by kernel_rfl
  z4 := fun w => by kernel_rfl
  v4 := fun w => by kernel_rfl
  t5 := by kernel_rfl
  a5 := fun w => by kernel_rfl
  z5 := fun w => by kernel_rfl
  v5 := fun w => by kernel_rfl
  t9 := by kernel_rfl
  a9 := fun w => by kernel_rfl
  z9 := fun w => by kernel_rfl
  v9 := fun w => by kernel_rfl
  t22 := by kernel_rfl
  a22 := fun w => by kernel_rfl
  z22 := fun w => by kernel_rfl
  v22 := fun w => by kernel_rfl
  t25 := by kernel_rfl
  a25 := fun w => by kernel_rfl
  z25 := fun w => by kernel_rfl
  v25 := fun w => by kernel_rfl
  t39 := by kernel_rfl
  a39 := fun w => by kernel_rfl
  z39 := fun w => by kernel_rfl
  v39 := fun w => by kernel_rfl
  t45 := by kernel_rfl
  a45 := fun w => by kernel_rfl
  z45 := fun w => by kernel_rfl
  v45 := fun w => by kernel_rfl
  t46 := by kernel_rfl
  a46 := fun w => by kernel_rfl
  z46 := fun w => by kernel_rfl
  v46 := fun w => by kernel_rfl
  t50 := by kernel_rfl
  a50 := fun w => by kernel_rfl
  z50 := fun w => by kernel_rfl
  v50 := fun w => by kernel_rfl
  t53 := by kernel_rfl
  a53 := fun w => by kernel_rfl
  z53 := fun w => by kernel_rfl
  v53 := fun w => by kernel_rfl
  t55 := by kernel_rfl
  a55 := fun w => by kernel_rfl
  z55 := fun w => by kernel_rfl
  v55 := fun w => by kernel_rfl
  t66 := by kernel_rfl
  a66 := fun w => by kernel_rfl
  z66 := fun w => by kernel_rfl
  v66 := fun w => by kernel_rfl
  t70 := by kernel_rfl
  a70 := fun w => by kernel_rfl
  z70 := fun w => by kernel_rfl
  v70 := fun w => by kernel_rfl
  t76 := by kernel_rfl
  a76 := fun w => by kernel_rfl
  z76 := fun w => by kernel_rfl
  v76 := fun w => by kernel_rfl
  t77 := by kernel_rfl
  a77 := fun w => by kernel_rfl
  z77 := fun w => by kernel_rfl
  v77 := fun w => by kernel_rfl

theorem hk (x : Lbl) : x.cells.length = 2 := rfl
theorem one (x : Lbl) : ∀ u ∈ x.cells, u.oneCell' = true := by
  intro u hu
  simp only [Lbl.cells, List.mem_cons, List.not_mem_nil, or_false] at hu
  rcases hu with rfl | rfl <;> rfl

/-- what is asked of an order -/
def CmpOk (f : FuncId) (cb : Array Value) (cf : Lbl → Lbl → Int) (l : List Lbl) (ok : World → Prop) : Prop :=
  ∀ x ∈ l, ∀ y ∈ l, ∀ W, ok W → Calls Tryz.prog f (#[.agg #[.string x.name, .string x.value], .agg #[.string y.name, .string y.value]] ++ cb) W fun e w2 => e = .returned (.int .i64 (cf x y)) ∧ ∃ q os', w2 = grow (W.drewN q) os'

/-- elements of the list -/
abbrev El (l : List Lbl) := {x : Lbl // x ∈ l}
def eenc (l : List Lbl) (u : El l) : List Value := u.1.cells
def ecf (l : List Lbl) (cf : Lbl → Lbl → Int) (u v : El l) : Int := cf u.1 v.1
theorem attach_cells (l : List Lbl) : (l.attach.toArray.toList).flatMap (eenc l) = l.flatMap Lbl.cells := by
  have h : l.attach.toArray.toList.map Subtype.val = l := by rw [List.toList_toArray, List.attach_map_subtype_val]
  have h3 := List.flatMap_map (Subtype.val (p := fun x => x ∈ l)) Lbl.cells l.attach.toArray.toList
  rw [h] at h3
  exact h3.symm
/-- a sort of l -/
def SrtRes (lt : Lbl → Lbl → Bool) (l S : List Lbl) : Prop := S.Perm l ∧ (S.Pairwise fun x y => lt y x = false)
theorem swo_el {l : List Lbl} {cf : Lbl → Lbl → Int} (h : SWO fun x y => decide (cf x y < 0)) : SWO (ltOf (ecf l cf)) where
  irrefl x := h.irrefl x.1
  trans x y z := h.trans x.1 y.1 z.1
  ntrans x y z := h.ntrans x.1 y.1 z.1

set_option maxHeartbeats 1600000 in
/-- THE SORT: the block holds what it held, in order. -/
theorem sort_any (g c n m : Nat) (l : List Lbl) (rest : List Value) (f : FuncId) (cb : Array Value) (cf : Lbl → Lbl → Int) (w : World) (eg : ∀ args w, (callFunc f args).run Tryz.prog w = .ok (.enter f args) w) (hlt : SWO fun x y => decide (cf x y < 0)) (hC : CmpOk f cb cf l (fun W => w.grownBy W (some g)))
    (hw : Whole1 w g 114 (l.flatMap Lbl.cells ++ rest).toArray) (hm : (l.flatMap Lbl.cells ++ rest).length = m) (hl : l.length = n) (hn : n < 1152921504606846976) (h0 : 0 < n) :
    Calls Tryz.prog 189 #[.slice (some ⟨g, 0, none⟩) n c, .func (.func f) #[] cb] w
      fun e w' => e = .returned (.tuple #[]) ∧ ∃ S rest', SrtRes (fun x y => decide (cf x y < 0)) l S ∧ Whole1 w' g 114 (S.flatMap Lbl.cells ++ rest').toArray ∧ (S.flatMap Lbl.cells ++ rest').length = m ∧ w.grownBy w' (some g) := by
  have hne : l ≠ [] := by intro h; rw [h] at hl; simp at hl; omega
  haveI : Inhabited (El l) := ⟨⟨l.head hne, List.head_mem hne⟩⟩
  obtain ⟨d0, hd0⟩ : ∃ d0 : Array (El l), d0 = l.attach.toArray := ⟨_, rfl⟩
  have hcs : d0.toList.flatMap (eenc l) = l.flatMap Lbl.cells := by rw [hd0]; exact attach_cells l
  have hsz : d0.size = n := by rw [hd0]; simpa using hl
  have R : RowK (eenc l) 2 w g 0 d0 := by
    refine ⟨fun _ => rfl, fun x v hv => one x.1 v hv, holdsK_of_cells' (enc := (eenc l)) (k := 2) (off := 0) (d := d0) (fun _ => rfl) fun j hj => ⟨?_, hw.free _⟩, hw.lt⟩
    rw [hcs, Nat.zero_add, hw.cell, List.getElem?_toArray, List.getElem?_append_left (by rw [fm_len hk, hl, ← hsz]; exact hj)]
  have hL : CmpLays Tryz.prog f cb (eenc l) 2 (ecf l cf) g 0 d0.size w := by
    intro mm os dk hdk x y
    exact hC x.1 x.2 y.1 y.2 _ (sw_gb (enc := (eenc l)) (k := 2) ⟨mm, os, rfl⟩)
  have hcon := AnyQ.slices_SortFunc lays 2 (fun w => by kernel_rfl) (fun w => by kernel_rfl) (eenc l) R.hk R.h1 (ecf l cf) (swo_el hlt) f cb g 0 c d0 w eg hL R.hH R.hblk (by omega)
  rw [hsz] at hcon
  refine hcon.mono ?_
  rintro e w' ⟨rfl, d', nq, os, hp, hs, hw'⟩
  refine ⟨rfl, ?_⟩
  have hS : SWK (eenc l) 2 w g 0 d' w' := ⟨nq, os, hw'⟩
  have hsz' : d'.size = n := by rw [hp.1, hsz]
  have full : ∀ d : Array (El l), d.size = n → d.extract 0 n = d := fun d hd => by rw [← hd]; simp
  have hperm := hp.2.2
  rw [full _ hsz', full _ hsz, hd0] at hperm
  obtain ⟨rest', h1, h2⟩ := sw_block (l := d0.toList) (rest := rest) (m := m) hS R (by rw [hsz', hsz]) (by rw [hcs]; exact hw) (by rw [hcs]; exact hm) (by rw [hsz', ← hsz]; simp)
  have e : d'.toList.flatMap (eenc l) = (d'.toList.map Subtype.val).flatMap Lbl.cells := by rw [List.flatMap_map]; rfl
  rw [e] at h1 h2
  refine ⟨_, rest', ⟨?_, ?_⟩, h1, h2, sw_gb hS⟩
  · have := hperm.map Subtype.val
    rwa [List.toList_toArray, List.attach_map_subtype_val] at this
  · rw [List.pairwise_map, List.pairwise_iff_getElem]
    intro i j hi hj hij
    rw [Array.length_toList, hsz'] at hi hj
    have := hs i j (Nat.zero_le _) hij hj
    rw [getElem!_pos _ i (by rw [hsz']; exact hi), getElem!_pos _ j (by rw [hsz']; exact hj)] at this
    exact this
/-- the sort, at none -/
theorem ins0_any (A : Option Addr) (c : Nat) (fv : Value) (w : World) : Calls Tryz.prog 278 #[.slice A 0 c, .int .i64 0, .int .i64 0, fv] w fun e w' => e = .returned (.tuple #[]) ∧ w = w' := by
  go_enter Tryz.func278, Tryz.ntmps278
  go_wp2
  refine wp_loop_rounds 1 ?_
  rw [rounds_succ]
  go_wp2
  go_end0
  exact ⟨rfl, rfl⟩
theorem pdq0_any (A : Option Addr) (c : Nat) (lim : Int) (fv : Value) (w : World) : Calls Tryz.prog 243 #[.slice A 0 c, .int .i64 0, .int .i64 0, .int .i64 lim, fv] w fun e w' => e = .returned (.tuple #[]) ∧ w = w' := by
  go_enter Tryz.func243, Tryz.ntmps243
  go_wp2_with fail
  refine wp_loop_rounds 1 ?_
  rw [rounds_succ]
  go_wp2_with fail
  refine (ins0_any A c fv _).mono ?_
  rintro e w' ⟨rfl, rfl⟩
  go_wp2_with fail
  exact bodyPost_ret (v := .tuple #[]) (by simp [results, Tryz.results243, go_sem]) rfl ⟨rfl, rfl⟩
theorem sort0_any (A : Option Addr) (c : Nat) (fv : Value) (w : World) : Calls Tryz.prog 189 #[.slice A 0 c, fv] w fun e w' => e = .returned (.tuple #[]) ∧ w = w' := by
  have hl : Calls Tryz.prog 179 #[.int .u64 0] w fun e w' => e = .returned (.int .i64 (Lib.bitLen 0 : Nat)) ∧ w' = w :=
    Any.bits_Len (SlLaysF0.n15.bits (P := Tryz.prog) (ρ := ren) { lays with }) 0 w (by omega) (by omega)
  have HL := hidden hl
  clear hl
  go_enter Tryz.func189, Tryz.ntmps189
  go_wp2_with fail
  refine HL.out.mono ?_
  rintro e w' ⟨rfl, rfl⟩
  go_wp2_with fail
  refine (pdq0_any A c _ fv _).mono ?_
  rintro e w' ⟨rfl, rfl⟩
  go_wp2_with fail
  go_end0
  exact ⟨rfl, rfl⟩
/-- the sort at a row of the call's own -/
theorem sortAll_any (v : Value) (n base : Nat) (l : List Lbl) (f : FuncId) (cb : Array Value) (cf : Lbl → Lbl → Int) (w : World) (eg : ∀ args w, (callFunc f args).run Tryz.prog w = .ok (.enter f args) w) (hlt : SWO fun x y => decide (cf x y < 0)) (hC : ∀ g, base ≤ g → CmpOk f cb cf l (fun W => w.grownBy W (some g)))
    (hown : w.ownsRow base 114 2 v n (l.flatMap Lbl.cells)) (hl : l.length = n) (hn : n < 1152921504606846976) :
    Calls Tryz.prog 189 #[v, .func (.func f) #[] cb] w
      fun e w' => e = .returned (.tuple #[]) ∧ ∃ S, SrtRes (fun x y => decide (cf x y < 0)) l S ∧ w'.ownsRow base 114 2 v n (S.flatMap Lbl.cells) ∧ w.grownBy w' v.ownBlock := by
  rcases Nat.eq_zero_or_pos n with h0 | h0
  · subst h0
    obtain rfl : l = [] := List.eq_nil_of_length_eq_zero hl
    obtain ⟨A, c, rfl, _, _⟩ := own_shape hown
    refine (sort0_any A c _ w).mono ?_
    rintro e w' ⟨rfl, rfl⟩
    exact ⟨rfl, [], ⟨List.Perm.refl _, List.Pairwise.nil⟩, hown, gb_refl _ _⟩
  · obtain ⟨g, c, rest, rfl, hg, hw, hnc, hc, _, hm⟩ := own_whole_g hk hown h0
    refine (sort_any g c n (c * 2) l rest f cb cf w eg hlt (hC g hg) hw hm hl hn h0).mono ?_
    rintro e w' ⟨rfl, S, rest', hS, hw', hm', hgb⟩
    exact ⟨rfl, S, hS, own_of_whole_g hk hg hw' hnc hc (by rw [hS.1.length_eq]; exact hl) hm', hgb⟩
end Go.Proofs.YtbijjjhfekkfaaaGreat.SrfLbl

namespace Go.Proofs.YtbijjjhfekkfaaaGreat
set_option maxRecDepth 100000
open Go.RowKit

section
variable {P : Program} (w : World)
theorem run_app_zero (t ty e : TypeId) (i : TypeInfo) (ht : P.underlying t = some (.slice e)) (hi : P.info? e = some i) (D A : Option Addr) (c k : Nat) :
    (Builtin.append_ #[t, t] ty #[.slice D 0 k, .slice A 0 c]).run P w = .ok (.slice D 0 k) w := by
  cases D <;> cases A <;> simp [Builtin.append_, run_underlying ht, sizeOf, typeInfo, hi, Builtin.lenOf, Builtin.firstCells, storeCells, loadCells, loadCellsFrom]

theorem run_clone (t ty e : TypeId) (i : TypeInfo) (z : Value) (size bytes : Nat) (ht : P.underlying t = some (.slice e)) (hi : P.info? e = some i) (hz : i.zero = some z)
    (hsize : i.size = size) (hby : i.bytes = bytes) (hzs : z.cells.size = size) (hsz : 0 < size) (D : Option Addr)
    (B : Nat) (A : Option Addr) (m c : Nat) (news : List Value) (hr : Row w B size A m news) (h1 : ∀ u ∈ news, u.oneCell' = true)
    (h63 : m ≤ maxLen) (hbytes : m * bytes ≤ 140737488355328) :
    ∃ v' w', (Builtin.append_ #[t, t] ty #[.slice D 0 0, .slice A m c]).run P w = .ok v' w' ∧ w.grownBy w' none ∧ ((m = 0 ∧ v' = .slice D 0 0) ∨ w'.ownsRow w.heap.size e size v' m news) := by
  rcases Nat.eq_zero_or_pos m with h0 | h0
  · subst h0
    exact ⟨_, w, run_app_zero w t ty e i ht hi D A c 0, gb_refl w _, .inl ⟨rfl, rfl⟩⟩
  · cases D with
    | none =>
      obtain ⟨v', w', hrun, h2, h3, _⟩ := run_app (P := P) w w.heap.size t ty e i z size bytes ht hi hz hsize hby hzs hsz (.slice none 0 0) 0 [] (World.ownsRow_nil _ _ _ _) B A m c news hr h1 (by omega) (by rw [Nat.zero_add]; exact hbytes) (Nat.le_refl _)
      exact ⟨v', w', hrun, h3, .inr (by simpa using h2)⟩
    | some b =>
      obtain ⟨g, o, rfl, _, hc⟩ := hr.at_ h0
      obtain ⟨v', w', hrun, h2, h3⟩ := run_append_arg_grows (P := P) w t ty e i z size bytes ht hi hz hsize hby hzs hsz b 0 0 [] (by simp) (by simp) ⟨g, o, none⟩ m c news hr.len
        (fun j u hu => by
          have hj : j < news.length := by
            rcases Nat.lt_or_ge j news.length with h | h
            · exact h
            · rw [List.getElem?_eq_none h] at hu; cases hu
          rw [Addr.add_lit, hc j (by rw [← hr.len]; exact hj)]; exact hu) (by omega) (by omega) (by rw [Nat.zero_add]; exact hbytes)
      exact ⟨v', w', hrun, h3, .inr (by simpa using h2)⟩
end

theorem wp_clone {P : Program} (w : World) {o : Oper} {a : Act} {K : Act → World → Prop} {Q : Exit → Act → World → Prop} (s x : Operand) (t : TypeId)
    (ho : o.op = .call { callee := .builtin .append, args := #[s, x], argTypes := #[t, t] })
    (e : TypeId) (i : TypeInfo) (z : Value) (size bytes : Nat) (ht : P.underlying t = some (.slice e)) (hi : P.info? e = some i) (hz : i.zero = some z)
    (hsize : i.size = size) (hby : i.bytes = bytes) (hzs : z.cells.size = size) (hsz : 0 < size) (D : Option Addr) (hs : a.eval s = .slice D 0 0)
    (B : Nat) (A : Option Addr) (m c : Nat) (news : List Value) (hx : a.eval x = .slice A m c) (hr : Row w B size A m news) (h1 : ∀ u ∈ news, u.oneCell' = true)
    (h63 : m ≤ maxLen) (hbytes : m * bytes ≤ 140737488355328)
    (h : ∀ v' w', w.grownBy w' none → ((m = 0 ∧ v' = .slice D 0 0) ∨ w'.ownsRow w.heap.size e size v' m news) → K (a.put o.dst v') w') : o.wp P a w K Q := by
  obtain ⟨v', w', hrun, h2, h3⟩ := run_clone (P := P) w t o.type e i z size bytes ht hi hz hsize hby hzs hsz D B A m c news hr h1 h63 hbytes
  unfold Oper.wp execOp
  simp only [ho, resolve, invoke, builtin, Sem.run_bind, Sem.run_pure, Result.andThen_ok, List.map_toArray, List.map_cons, List.map_nil, hs, hx, hrun]
  exact h v' w' h2 h3

theorem wpList_clone {P : Program} (w : World) {ops : Array Oper} {rest : List Oper} {o : Oper} {a : Act} {Q : Exit → Act → World → Prop} (hgd : o.guard = none) (s x : Operand) (t : TypeId)
    (ho : o.op = .call { callee := .builtin .append, args := #[s, x], argTypes := #[t, t] })
    (e : TypeId) (i : TypeInfo) (z : Value) (size bytes : Nat) (ht : P.underlying t = some (.slice e)) (hi : P.info? e = some i) (hz : i.zero = some z)
    (hsize : i.size = size) (hby : i.bytes = bytes) (hzs : z.cells.size = size) (hsz : 0 < size) (D : Option Addr) (hs : a.eval s = .slice D 0 0)
    (B : Nat) (A : Option Addr) (m c : Nat) (news : List Value) (hx : a.eval x = .slice A m c) (hr : Row w B size A m news) (h1 : ∀ u ∈ news, u.oneCell' = true)
    (h63 : m ≤ maxLen) (hbytes : m * bytes ≤ 140737488355328)
    (h : ∀ v' w', w.grownBy w' none → ((m = 0 ∧ v' = .slice D 0 0) ∨ w'.ownsRow w.heap.size e size v' m news) → wpList P ops Q rest (a.put o.dst v') w') : wpList P ops Q (o :: rest) a w :=
  wpList_plain hgd fun _ hK => wp_clone w s x t ho e i z size bytes ht hi hz hsize hby hzs hsz D hs B A m c news hx hr h1 h63 hbytes fun v' w' h2 h3 => hK _ _ (h v' w' h2 h3)
end Go.Proofs.YtbijjjhfekkfaaaGreat

namespace Go.Proofs.YtbijjjhfekkfaaaGreat
set_option maxRecDepth 100000
open Go.RowKit

/-! slices.Clone at labels -/
theorem info_lbl : (Tryz.prog.info? 114).map (fun i => (i.zero, i.size, i.bytes)) = some (some (.agg #[.string ByteArray.empty, .string ByteArray.empty]), 2, 32) := by kernel_rfl
theorem lblCells_one (l : List Lbl) : ∀ u ∈ lblCells l, u.oneCell' = true := by
  intro u hu
  simp only [lblCells, Lbl.cells, List.mem_flatMap, List.mem_cons, List.not_mem_nil, or_false] at hu
  obtain ⟨s, _, rfl | rfl⟩ := hu <;> rfl

set_option maxHeartbeats 1600000 in
theorem cloneLO_any (A : Option Addr) (n c : Nat) (l : List Lbl) (w : World) (hr : Row w w.heap.size 2 A n (lblCells l)) (hl : l.length = n) (hn : n * 32 ≤ 140737488351232) :
    Calls Tryz.prog 69 #[.slice A n c] w fun e w' => ∃ s : Sl Lbl, e = .returned s.val ∧ s.l = l ∧ s.n = n ∧ s.At w' w'.heap.size 2 Lbl.cells ∧ (∀ j, j < w.heap.size → s.Off (some j)) ∧ Below w.heap.size w w' ∧ (0 < n → w'.ownsRow w.heap.size 114 2 s.val n (lblCells l)) := by
  obtain ⟨i0, hi, hz0, hz1, hz2⟩ := info_parts info_lbl
  have hL := hidden hl
  clear hl
  cases A with
  | none =>
    have hn0 : n = 0 := by
      rcases Nat.eq_zero_or_pos n with h | h
      · exact h
      · obtain ⟨_, _, h', _⟩ := hr.at_ h
        cases h'
    subst hn0
    have h1 := fun w : World => Lib.run_eql_slice_nil (P := Tryz.prog) w 53 114 none 0 c 0 0 Tryz.underlying53
    go_enter Tryz.func69, Tryz.ntmps69
    go_wp2
    go_ret
    exact ⟨⟨none, 0, 0, l⟩, rfl, rfl, rfl, ⟨Nat.le_refl _, hL.out, hr⟩, fun j _ hn => by simp at hn, Below.refl _ _, fun h => absurd h (by omega)⟩
  | some a =>
    have h1 := fun w : World => Lib.run_eql_slice_nil (P := Tryz.prog) w 53 114 (some a) n c 0 0 Tryz.underlying53
    go_enter Tryz.func69, Tryz.ntmps69
    go_wp2_with (at_builtin; refine wpList_clone _ rfl _ _ 53 rfl 114 i0 _ 2 32 Tryz.underlying53 hi hz0 hz1 hz2 rfl (by decide) _ rfl w.heap.size _ _ _ _ rfl (hr.alloc (Nat.le_refl _) _) (lblCells_one l) (by unfold maxLen; omega) (by omega) ?_; intro v1 w1 hg1 hown1)
    go_ret
    have hb1 : Below w.heap.size w w1 := ((Below.refl _ _).alloc (Nat.le_refl _) _).grown hg1 (by simp) (fun j hj => by cases hj)
    rcases hown1 with ⟨rfl, rfl⟩ | hown1
    · have hl0 : l = [] := List.eq_nil_of_length_eq_zero hL.out
      subst hl0
      exact ⟨⟨_, 0, 0, []⟩, rfl, rfl, rfl, ⟨Nat.le_refl _, rfl, ⟨rfl, fun h => absurd h (by simp)⟩⟩, fun j _ hn => by simp at hn, hb1, fun h => absurd h (by omega)⟩
    · obtain ⟨A1, c1, rfl, hc1, hr1⟩ := own_shape hown1
      exact ⟨⟨A1, n, c1, l⟩, rfl, rfl, rfl, ⟨hc1, hL.out, hr1⟩, fun j hj => Sl.off_own hown1 (by simp; omega), hb1, fun _ => ⟨hown1.1, hown1.2.imp id fun ⟨g, cap, cur, h1, h2, h3⟩ => ⟨g, cap, cur, h1, by simp at h2; omega, h3⟩⟩⟩
theorem cloneL_any (A : Option Addr) (n c : Nat) (l : List Lbl) (w : World) (hr : Row w w.heap.size 2 A n (lblCells l)) (hl : l.length = n) (hn : n * 32 ≤ 140737488351232) :
    Calls Tryz.prog 69 #[.slice A n c] w fun e w' => ∃ s : Sl Lbl, e = .returned s.val ∧ s.l = l ∧ s.n = n ∧ s.At w' w'.heap.size 2 Lbl.cells ∧ (∀ j, j < w.heap.size → s.Off (some j)) ∧ Below w.heap.size w w' := by
  refine (cloneLO_any A n c l w hr hl hn).mono ?_
  rintro e w' ⟨s, h1, h2, h3, h4, h5, h6, _⟩
  exact ⟨s, h1, h2, h3, h4, h5, h6⟩
end Go.Proofs.YtbijjjhfekkfaaaGreat

namespace Go.Proofs.YtbijjjhfekkfaaaGreat.ClnLbl
set_option maxRecDepth 100000
open Go.RowKit

theorem info : (Tryz.prog.info? 114).map (fun i => (i.zero, i.size, i.bytes)) = some (some (.agg #[.string ByteArray.empty, .string ByteArray.empty]), 2, 32) := by kernel_rfl
theorem cells_one (l : List Lbl) : ∀ u ∈ l.flatMap Lbl.cells, u.oneCell' = true := by
  intro u hu
  simp only [Lbl.cells, List.mem_flatMap, List.mem_cons, List.not_mem_nil, or_false] at hu
  obtain ⟨s, _, rfl | rfl⟩ := hu <;> rfl

set_option maxHeartbeats 1600000 in
theorem cloneO_any (A : Option Addr) (n c : Nat) (l : List Lbl) (w : World) (hr : Row w w.heap.size 2 A n (l.flatMap Lbl.cells)) (hl : l.length = n) (hn : n * 32 ≤ 140737488351232) :
    Calls Tryz.prog 69 #[.slice A n c] w fun e w' => ∃ s : Sl Lbl, e = .returned s.val ∧ s.l = l ∧ s.n = n ∧ s.At w' w'.heap.size 2 Lbl.cells ∧ (∀ j, j < w.heap.size → s.Off (some j)) ∧ Below w.heap.size w w' ∧ (0 < n → w'.ownsRow w.heap.size 114 2 s.val n (l.flatMap Lbl.cells)) := by
  obtain ⟨i0, hi, hz0, hz1, hz2⟩ := info_parts info
  have hL := hidden hl
  clear hl
  cases A with
  | none =>
    have hn0 : n = 0 := by
      rcases Nat.eq_zero_or_pos n with h | h
      · exact h
      · obtain ⟨_, _, h', _⟩ := hr.at_ h
        cases h'
    subst hn0
    have h1 := fun w : World => Lib.run_eql_slice_nil (P := Tryz.prog) w 53 114 none 0 c 0 0 Tryz.underlying53
    go_enter Tryz.func69, Tryz.ntmps69
    go_wp2
    go_ret
    exact ⟨⟨none, 0, 0, l⟩, rfl, rfl, rfl, ⟨Nat.le_refl _, hL.out, hr⟩, fun j _ hn => by simp at hn, Below.refl _ _, fun h => absurd h (by omega)⟩
  | some a =>
    have h1 := fun w : World => Lib.run_eql_slice_nil (P := Tryz.prog) w 53 114 (some a) n c 0 0 Tryz.underlying53
    go_enter Tryz.func69, Tryz.ntmps69
    go_wp2_with (at_builtin; refine wpList_clone _ rfl _ _ 53 rfl 114 i0 _ 2 32 Tryz.underlying53 hi hz0 hz1 hz2 rfl (by decide) _ rfl w.heap.size _ _ _ _ rfl (hr.alloc (Nat.le_refl _) _) (cells_one l) (by unfold maxLen; omega) (by omega) ?_; intro v1 w1 hg1 hown1)
    go_ret
    have hb1 : Below w.heap.size w w1 := ((Below.refl _ _).alloc (Nat.le_refl _) _).grown hg1 (by simp) (fun j hj => by cases hj)
    rcases hown1 with ⟨rfl, rfl⟩ | hown1
    · have hl0 : l = [] := List.eq_nil_of_length_eq_zero hL.out
      subst hl0
      exact ⟨⟨_, 0, 0, []⟩, rfl, rfl, rfl, ⟨Nat.le_refl _, rfl, ⟨rfl, fun h => absurd h (by simp)⟩⟩, fun j _ hn => by simp at hn, hb1, fun h => absurd h (by omega)⟩
    · obtain ⟨A1, c1, rfl, hc1, hr1⟩ := own_shape hown1
      exact ⟨⟨A1, n, c1, l⟩, rfl, rfl, rfl, ⟨hc1, hL.out, hr1⟩, fun j hj => Sl.off_own hown1 (by simp; omega), hb1, fun _ => ⟨hown1.1, hown1.2.imp id fun ⟨g, cap, cur, h1, h2, h3⟩ => ⟨g, cap, cur, h1, by simp at h2; omega, h3⟩⟩⟩
theorem clone_any (A : Option Addr) (n c : Nat) (l : List Lbl) (w : World) (hr : Row w w.heap.size 2 A n (l.flatMap Lbl.cells)) (hl : l.length = n) (hn : n * 32 ≤ 140737488351232) :
    Calls Tryz.prog 69 #[.slice A n c] w fun e w' => ∃ s : Sl Lbl, e = .returned s.val ∧ s.l = l ∧ s.n = n ∧ s.At w' w'.heap.size 2 Lbl.cells ∧ (∀ j, j < w.heap.size → s.Off (some j)) ∧ Below w.heap.size w w' := by
  refine (cloneO_any A n c l w hr hl hn).mono ?_
  rintro e w' ⟨s, h1, h2, h3, h4, h5, h6, _⟩
  exact ⟨s, h1, h2, h3, h4, h5, h6⟩
end Go.Proofs.YtbijjjhfekkfaaaGreat.ClnLbl

namespace Go.Proofs.YtbijjjhfekkfaaaGreat
set_option maxRecDepth 100000
open Go.RowKit Go.Shelf Go.Sort

theorem mkp_any (x : Lbl) (g : Nat) (nm : ByteArray) (w : World) (hg : w.cell? ⟨g, 0, none⟩ = some (.string nm)) :
    Calls Tryz.prog 188 #[.agg #[.string x.name, .string x.value], .pointer (some ⟨g, 0, none⟩)] w fun e w' => e = .returned (.bool (decide (x.name = nm))) ∧ Below w.heap.size w w' := by
  have hg1 := gr_alloc_cell (.cells #[.string x.name, .string x.value] 114) hg
  have hb : Below w.heap.size w (w.alloc (.cells #[.string x.name, .string x.value] 114)) := (Below.refl _ _).alloc (Nat.le_refl _) _
  have hd : (x.name.toList == nm.toList) = decide (x.name = nm) := str_eq x.name nm
  have HB := hidden hb
  clear hb
  go_enter Tryz.func188, Tryz.ntmps188
  go_wp2_with fail
  go_ret
  exact ⟨rfl, HB.out⟩

theorem e51 : ∀ args w, (callFunc 140 args).run Tryz.prog w = .ok (.enter 140 args) w := enters_of Tryz.func140 (by kernel_rfl) rfl
theorem swoN : SWO fun x y : Lbl => decide (cmpB x.name y.name < 0) where
  irrefl x := tri_B.swo.irrefl x.name
  trans x y z := tri_B.swo.trans x.name y.name z.name
  ntrans x y z := tri_B.swo.ntrans x.name y.name z.name
theorem e48 : ∀ args w, (callFunc 188 args).run Tryz.prog w = .ok (.enter 188 args) w := enters_of Tryz.func188 (by kernel_rfl) rfl
set_option maxHeartbeats 3200000 in
theorem lmake_any (A : Option Addr) (n c : Nat) (l : List Lbl) (w : World) (h : LbF w A n l) (hnc : n ≤ c) :
    Calls Tryz.prog 118 #[.slice A n c] w fun e w' => ∃ v, e = .returned (.tuple #[v, .int .i64 (makeErr l)]) ∧ w'.ownsRow w.heap.size 114 2 v (makeL l).length ((makeL l).flatMap Lbl.cells) ∧ Below w.heap.size w w' := by
  have hfit := h.fit
  by_cases h0 : n = 0
  · subst h0
    obtain rfl : l = [] := List.eq_nil_of_length_eq_zero h.len
    go_enter Tryz.func118, Tryz.ntmps118
    go_wp2_with fail
    go_ret2
    exact ⟨_, rfl, World.ownsRow_nil _ _ _ _, Below.refl _ _⟩
  · have n0 : ((n : Int) == 0) = false := by simp; omega
    by_cases h8 : 8 < n
    · have n8 : (8 : Int) < (n : Int) := by omega
      have HE : Hid (makeErr l = 44) := by rw [Hid, makeErr, if_neg (by rw [h.len]; omega), if_pos (by rw [h.len]; omega)]
      have HL : Hid (makeL l = []) := by rw [Hid, makeL, if_neg (by rw [HE.out]; decide)]
      clear h
      go_enter Tryz.func118, Tryz.ntmps118
      go_wp2_with fail
      go_ret2
      rw [HE.out, HL.out]
      exact ⟨_, rfl, World.ownsRow_nil _ _ _ _, Below.refl _ _⟩
    · have n8 : ¬ (8 : Int) < (n : Int) := by omega
      have H := hidden h
      have HM : Hid (makeErr l = errUpto l n) := by rw [Hid, makeErr, if_neg (by rw [h.len]; omega), if_neg (by rw [h.len]; omega), h.len]
      clear h
      go_enter Tryz.func118, Tryz.ntmps118
      go_wp2_with fail
      go_loopw [17] (fun vi wr => ∃ k : Nat, k ≤ n ∧ vi = .int .i64 k ∧ Hid (errUpto l k = 0) ∧ Below w.heap.size w wr) (fun vi _ => n - (intOf vi).toNat)
      case atStart => exact ⟨0, Nat.zero_le _, rfl, rfl, Below.refl _ _⟩
      case round =>
        obtain ⟨k, hk, rfl, he, hb⟩ := hrel
        have k0 : (0 : Int) ≤ (k : Int) := by omega
        by_cases hlt : k < n
        · have k1 : (k : Int) < (n : Int) := by omega
          obtain ⟨g, o, x, rfl, hg, hx, d0, d1, hxm⟩ := lb_cells (H.out.on hb) hlt
          obtain ⟨hz1, hz2⟩ := H.out.sz x hxm
          have HX := hidden hx
          have HB := hidden hb
          have hbs := hb.size
          have HEA := hidden (errAt_of hx)
          have HBa := hidden (hb.alloc hbs (.cells #[.string x.name, .string x.value] 114))
          have HST := hidden (fun he' : errAt l k ≠ 0 => errUpto_stop he.out he' n (by omega))
          have S1 := hidden (fitName_any x.name (wr.alloc (.cells #[.string x.name, .string x.value] 114)) (by omega))
          have S2 := hidden (fitValue_any x.value (wr.alloc (.cells #[.string x.name, .string x.value] 114)) (by omega))
          clear hx hxm hb
          cases hf1 : fitN x.name with
          | false =>
            rw [hf1] at S1 HEA
            have HE : Hid (makeErr l = 40) := by
              have h40 : errAt l k = 40 := by rw [HEA.out]; rfl
              rw [Hid, HM.out, HST.out (by rw [h40]; decide), h40]
            have HL : Hid (makeL l = []) := by rw [Hid, makeL, if_neg (by rw [HE.out]; decide)]
            go_wp2_with fail
            refine S1.out.mono ?_
            rintro e w2 ⟨rfl, rfl⟩
            go_wp2_with fail
            go_ret2
            rw [HE.out, HL.out]
            exact ⟨_, rfl, World.ownsRow_nil _ _ _ _, HBa.out⟩
          | true =>
            rw [hf1] at S1 HEA
            cases hf2 : fitV x.value with
            | false =>
              rw [hf2] at S2 HEA
              have HE : Hid (makeErr l = 41) := by
                have h40 : errAt l k = 41 := by rw [HEA.out]; rfl
                rw [Hid, HM.out, HST.out (by rw [h40]; decide), h40]
              have HL : Hid (makeL l = []) := by rw [Hid, makeL, if_neg (by rw [HE.out]; decide)]
              go_wp2_with fail
              refine S1.out.mono ?_
              rintro e w2 ⟨rfl, rfl⟩
              go_wp2_with fail
              refine S2.out.mono ?_
              rintro e w2 ⟨rfl, rfl⟩
              go_wp2_with fail
              go_ret2
              rw [HE.out, HL.out]
              exact ⟨_, rfl, World.ownsRow_nil _ _ _ _, HBa.out⟩
            | true =>
              rw [hf2] at S2 HEA
              go_wp2_with fail
              refine S1.out.mono ?_
              rintro e w2 ⟨rfl, rfl⟩
              go_wp2_with fail
              refine S2.out.mono ?_
              rintro e w2 ⟨rfl, rfl⟩
              have kc : (k : Int) ≤ (c : Int) := by omega
              go_wp2_with fail
              have hrT := (H.out.on HBa.out).first hk
              have S3 := hidden (IdxLbl.contains_any (some ⟨g, o, none⟩) k c (l.take k) 188 #[.pointer (some ⟨wr.heap.size, 0, none⟩)] (fun y => decide (y.name = x.name)) _ e48 (fun y hy W hW => mkp_any y wr.heap.size x.name W ((hW.cell (p := ⟨wr.heap.size, 0, none⟩) (by simp)).trans ((Whole1.new wr _ _).cell 0))) hrT (by rw [List.length_take, H.out.len]; omega) (by omega))
              have hany : ((l.take k).any fun y => decide (y.name = x.name)) = decide (∃ y ∈ l.take k, y.name = x.name) := by
                rw [Bool.eq_iff_iff, List.any_eq_true, decide_eq_true_eq]; simp
              rw [hany] at S3
              by_cases htw : ∃ y ∈ l.take k, y.name = x.name
              · have HE : Hid (makeErr l = 42) := by
                  have h40 : errAt l k = 42 := by rw [HEA.out, if_neg (by decide), if_neg (by decide), if_pos htw]
                  rw [Hid, HM.out, HST.out (by rw [h40]; decide), h40]
                have HL : Hid (makeL l = []) := by rw [Hid, makeL, if_neg (by rw [HE.out]; decide)]
                rw [decide_eq_true htw] at S3
                clear hrT hany htw
                refine S3.out.mono ?_
                rintro e w3 ⟨rfl, b3⟩
                have HB3 := hidden (HBa.out.trans (b3.mono HBa.out.size))
                clear b3 S3
                go_wp2_with fail
                go_ret2
                rw [HE.out, HL.out]
                exact ⟨_, rfl, World.ownsRow_nil _ _ _ _, HB3.out⟩
              · have HN : Hid (errUpto l (k + 1) = 0) := errUpto_next he.out (by rw [HEA.out, if_neg (by decide), if_neg (by decide), if_neg htw])
                rw [decide_eq_false htw] at S3
                clear hrT hany htw
                refine S3.out.mono ?_
                rintro e w3 ⟨rfl, b3⟩
                have HB3 := hidden (HBa.out.trans (b3.mono HBa.out.size))
                clear b3 S3
                go_wp2_with fail
                go_roundw
                case rel => exact ⟨k + 1, by omega, by go_num, HN, HB3.out⟩
                case measure => simp [intOf]; omega
        · obtain rfl : n = k := by omega
          have k1 : ¬ (n : Int) < (n : Int) := by omega
          have HE : Hid (makeErr l = 0) := by rw [Hid, HM.out, he.out]
          have HL : Hid (makeL l = sortN l) := by rw [Hid, makeL, if_pos HE.out]
          have hap := make_apart (l := l) (by rw [H.out.len]; exact he.out)
          have HAP := hidden hap
          have HB := hidden hb
          have S1 := hidden (ClnLbl.cloneO_any A n c l wr (H.out.on hb).row H.out.len hfit)
          clear hb hap he
          go_wp2_with fail
          refine S1.out.mono ?_
          rintro e w2 ⟨⟨sA, sn, sc, sl⟩, rfl, hsl, hsn, _, _, hb2, hown⟩
          simp only at hsl hsn
          subst hsl hsn
          have HB2 := hidden (HB.out.trans (hb2.mono HB.out.size))
          have S2 := hidden (SrfLbl.sortAll_any _ sn wr.heap.size sl 140 #[] (fun x y => cmpB x.name y.name) w2 e51 swoN (fun g _ x _ y _ W _ => (byName_any x y W).mono fun _ _ k => k) (hown (by omega)) H.out.len (by omega))
          have HSN := hidden hown
          clear hb2 hown S1
          go_wp2_with fail
          refine S2.out.mono ?_
          rintro e w3 ⟨rfl, S, ⟨hp, hs⟩, hown3, hg3⟩
          have hap2 : S.Pairwise fun x y => x.name ≠ y.name := hp.symm.pairwise HAP.out fun h e => h e.symm
          have hup : upN S := (hs.and hap2).imp fun {x y} ⟨a, b⟩ => by
            simp only [decide_eq_false_iff_not] at a
            have t := tri_B.turn x.name y.name
            have z := tri_B.zero x.name y.name
            unfold ltN
            rcases tri_B.range x.name y.name with h | h | h
            · omega
            · exact absurd (z.1 h) b
            · omega
          have hS := hidden (sortN_uniq HAP.out hup hp)
          have hSl := hidden hp.length_eq
          have HB3 := hidden (HB2.out.grown hg3 HB2.out.size (fun j hj => by
            have h1 := (HSN.out (by omega)).lt j hj
            have := HB.out.size
            omega))
          have HO3 := hidden (own_more hown3 HB.out.size)
          clear hp hs hown3 hg3 hap2 hup S2
          go_wp2_with fail
          go_ret2
          have e1 := H.out.len
          rw [HE.out, HL.out, ← hS.out, hSl.out, e1]
          exact ⟨_, rfl, HO3.out, HB3.out⟩
end Go.Proofs.YtbijjjhfekkfaaaGreat
