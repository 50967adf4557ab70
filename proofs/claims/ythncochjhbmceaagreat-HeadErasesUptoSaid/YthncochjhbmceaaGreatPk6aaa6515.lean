/- The stable sort of a list, plainly: a permutation, in order, stable; and a world of the sort's as a block. No condition. cmp.Compare at int64. No condition. slices.SortFunc at labels, whatever order: what it leaves. Condition: the order has a contract, the row is within the reach. -/
import Derived.Test.YthncochjhbmceaaGreatStable
import Derived.Test.YthncochjhbmceaaGreatBase
import Derived.Shelf.SlSortCmp.KitK
import Derived.Test.YthncochjhbmceaaGreatPkbc8588bb
import Derived.Shelf.SlSortCmp.WholeK
namespace Go.Proofs.YthncochjhbmceaaGreat
set_option maxRecDepth 100000
open Go.Shelf Go.RowKit Go.Lib Go.Sort

section
variable {α : Type} {lt : α → α → Bool}
/-- first by lt, then by the place -/
def byTag (lt : α → α → Bool) (u v : α × Nat) : Bool := lt u.1 v.1 || (!lt v.1 u.1 && decide (u.2 < v.2))
end

section
variable {α : Type} [Inhabited α] (lt : α → α → Bool)
/-- the stable sort -/
def stab (l : List α) : List α := (stable (fun u v => lt u.1 v.1) l.length l.zipIdx.toArray).toList.map Prod.fst
variable {lt}
end

theorem holdsK_of_cells' {α : Type} [Inhabited α] {enc : α → List Value} {k : Nat} (hk : ∀ x, (enc x).length = k) {w : World} {g off : Nat} {d : Array α} (h : ∀ j, j < d.size * k → w.cell? ⟨g, off + j, none⟩ = (d.toList.flatMap enc)[j]? ∧ w.frozen? ⟨g, off + j, none⟩ = false) : HoldsK enc k w g off d := by
  intro j hj
  have hs : (flatK enc k d).size = d.size * k := size_flatK enc k d
  rw [hs] at hj
  obtain ⟨h1, h2⟩ := h j hj
  refine ⟨?_, h2⟩
  have hk0 : 0 < k := by
    rcases Nat.eq_zero_or_pos k with h0 | h0
    · subst h0; omega
    · exact h0
  have hi : j / k < d.size := (Nat.div_lt_iff_lt_mul hk0).2 hj
  have hm : j % k < k := Nat.mod_lt _ hk0
  have hd : j / k * k + j % k = j := Nat.div_add_mod' j k
  have h3 := fm_at hk d.toList (j / k) d[j / k] (j % k) (by simp [hi]) hm
  rw [hd] at h3
  rw [h1, h3]
  have h4 : (flatK enc k d)[j]! = (enc d[j / k]!)[j % k]! := by
    unfold flatK
    rw [getElem!_pos _ j (by simpa using hj)]
    simp
  show _ = some (id (flatK enc k d)[j]!)
  rw [id, h4, getElem!_pos d (j / k) hi, getElem!_pos _ (j % k) (by rw [hk]; exact hm), List.getElem?_eq_getElem (by rw [hk]; exact hm)]

/-! a world of the sort's -/
section
variable {α : Type} [Inhabited α] {enc : α → List Value} {k : Nat} {w0 W : World} {blk : Nat} {dk : Array α}
theorem sw_gb {off : Nat} (h : SWK enc k w0 blk off dk W) : w0.grownBy W (some blk) := by
  obtain ⟨n, os, rfl⟩ := h
  refine ⟨rfl, rfl, rfl, by unfold sortWorldK; rw [size_grow, size_putRowK]; exact Nat.le_add_right _ _, fun i hi hne => ?_⟩
  unfold sortWorldK grow putRowK putRow mapBlock
  simp only
  have hne' : blk ≠ i := fun h => hne (by rw [h])
  rw [Array.getElem?_append_left (by simpa using hi), Array.getElem?_modify, if_neg hne']
  rfl
theorem sw_whole {T : TypeId} {cs : Array Value} (h : SWK enc k w0 blk 0 dk W) (hw : Whole1 w0 blk T cs) : ∃ cs', Whole1 W blk T cs' ∧ cs'.size = cs.size := by
  obtain ⟨n, os, rfl⟩ := h
  refine ⟨putCells id 0 (flatK enc k dk) cs, ?_, by simp [putCells]⟩
  have hlt := hw.lt
  unfold Whole1 at hw ⊢
  unfold sortWorldK grow putRowK putRow mapBlock
  simp only
  rw [Array.getElem?_append_left (by simpa using hlt), Array.getElem?_modify, if_pos rfl]
  have : (Sort.ahead w0 n).heap[blk]? = w0.heap[blk]? := rfl
  rw [this, hw]
  rfl
theorem sw_cells {d0 : Array α} (h : SWK enc k w0 blk 0 dk W) (R : RowK enc k w0 blk 0 d0) (hs : dk.size = d0.size) (j : Nat) (hj : j < dk.size * k) : W.cell? ⟨blk, j, none⟩ = (dk.toList.flatMap enc)[j]? := by
  have hH := h.holds R.hblk R.hH hs
  have hk0 : 0 < k := by
    rcases Nat.eq_zero_or_pos k with h0 | h0
    · subst h0; omega
    · exact h0
  have hi : j / k < dk.size := (Nat.div_lt_iff_lt_mul hk0).2 hj
  have hm : j % k < k := Nat.mod_lt _ hk0
  have hd : j / k * k + j % k = j := Nat.div_add_mod' j k
  have h3 := fm_at R.hk dk.toList (j / k) dk[j / k] (j % k) (by simp [hi]) hm
  have h4 := (HoldsK.cell hH hi hm).1
  rw [show 0 + j / k * k + j % k = j from by omega] at h4
  rw [hd] at h3
  rw [h3, h4, getElem!_pos dk (j / k) hi, getElem!_pos _ (j % k) (by rw [R.hk]; exact hm), List.getElem?_eq_getElem (by rw [R.hk]; exact hm)]
/-- the block holds the sorted row, and as many cells as before -/
theorem sw_block {T : TypeId} {l : List α} {rest : List Value} {m : Nat} {d0 : Array α} (h : SWK enc k w0 blk 0 dk W) (R : RowK enc k w0 blk 0 d0) (hs : dk.size = d0.size) (hw : Whole1 w0 blk T (l.flatMap enc ++ rest).toArray) (hm : (l.flatMap enc ++ rest).length = m) (hl : l.length = dk.size) :
    ∃ rest', Whole1 W blk T (dk.toList.flatMap enc ++ rest').toArray ∧ (dk.toList.flatMap enc ++ rest').length = m := by
  obtain ⟨cs', h1, h2⟩ := sw_whole h hw
  have hsz : cs'.toList.length = m := by rw [Array.length_toList, h2]; simpa using hm
  have hle : dk.size * k ≤ m := by rw [← hm, List.length_append, fm_len R.hk, hl]; omega
  have hfl : (dk.toList.flatMap enc).length = dk.size * k := by rw [fm_len R.hk]; simp
  have htake : cs'.toList.take (dk.size * k) = dk.toList.flatMap enc := by
    apply List.ext_getElem?
    intro j
    rw [List.getElem?_take]
    by_cases hj : j < dk.size * k
    · rw [if_pos hj, Array.getElem?_toList, ← h1.cell, sw_cells h R hs j hj]
    · rw [if_neg hj, List.getElem?_eq_none (by omega)]
  refine ⟨cs'.toList.drop (dk.size * k), ?_, ?_⟩
  · rw [← htake, List.take_append_drop]; exact h1
  · rw [← htake, List.take_append_drop]; exact hsz
end
end Go.Proofs.YthncochjhbmceaaGreat

namespace Go.Proofs.YthncochjhbmceaaGreat
set_option maxRecDepth 100000
open Go.RowKit Go.Sort

def cmpZ (x y : Int) : Int := if x < y then -1 else if y < x then 1 else 0
theorem cmpZ_lt (x y : Int) : decide (cmpZ x y < 0) = decide (x < y) := by
  unfold cmpZ
  by_cases h : x < y
  · simp [h]
  · rw [if_neg h]
    by_cases h2 : y < x
    · simp [h, h2]
    · simp [h, h2]
theorem swo_at {α : Type} (f : α → Int) : SWO fun x y => decide (cmpZ (f x) (f y) < 0) where
  irrefl x := by rw [cmpZ_lt]; simp
  trans x y z h1 h2 := by
    rw [cmpZ_lt] at *
    simp only [decide_eq_true_eq] at *
    omega
  ntrans x y z h1 h2 := by
    rw [cmpZ_lt] at *
    simp only [decide_eq_false_iff_not] at *
    omega
set_option maxHeartbeats 400000 in
theorem isNaN64_z (x : Int) (w : World) : Calls Tryz.prog 117 #[.int .i64 x] w fun e w' => e = .returned (.bool false) ∧ w' = w := by
  have h : ((x != x) : Bool) = false := by simp
  go_enter Tryz.func117, Tryz.ntmps117
  go_wp2
  go_ret
  exact ⟨rfl, rfl⟩
set_option maxHeartbeats 800000 in
theorem cmp64_z (x y : Int) (w : World) : Calls Tryz.prog 73 #[.int .i64 x, .int .i64 y] w fun e w' => e = .returned (.int .i64 (cmpZ x y)) ∧ w' = w := by
  rcases Int.lt_trichotomy x y with h | h | h
  · have hc := hidden (show cmpZ x y = -1 from if_pos h)
    go_enter Tryz.func73, Tryz.ntmps73
    go_wp2_with (go_at_call 117; refine (isNaN64_z _ _).mono ?_; rintro e w' ⟨rfl, rfl⟩)
    go_ret
    exact ⟨ret_int hc.out.symm, rfl⟩
  · subst h
    have hc := hidden (show cmpZ x x = 0 by simp [cmpZ])
    go_enter Tryz.func73, Tryz.ntmps73
    go_wp2_with (go_at_call 117; refine (isNaN64_z _ _).mono ?_; rintro e w' ⟨rfl, rfl⟩)
    go_ret
    exact ⟨ret_int hc.out.symm, rfl⟩
  · have hc := hidden (show cmpZ x y = 1 by unfold cmpZ; rw [if_neg (by omega), if_pos h])
    have h2 : ¬ x < y := by omega
    go_enter Tryz.func73, Tryz.ntmps73
    go_wp2_with (go_at_call 117; refine (isNaN64_z _ _).mono ?_; rintro e w' ⟨rfl, rfl⟩)
    go_ret
    exact ⟨ret_int hc.out.symm, rfl⟩
end Go.Proofs.YthncochjhbmceaaGreat

namespace Go.Proofs.YthncochjhbmceaaGreat.SrfLbl
set_option maxRecDepth 100000
open Go.Shelf Go.RowKit Go.Lib Go.Sort

def ren : Ren := { f := fun n => if n = 6 then 106 else if n = 14 then 150 else if n = 15 then 86 else if n = 20 then 180 else if n = 21 then 181 else if n = 22 then 182 else if n = 23 then 183 else if n = 24 then 184 else if n = 25 then 185 else if n = 26 then 186 else if n = 27 then 187 else if n = 28 then 139 else if n = 29 then 140 else if n = 46 then 200 else if n = 47 then 168 else if n = 48 then 169 else if n = 49 then 201 else if n = 50 then 202 else if n = 57 then 215 else 0, t := fun n => if n = 0 then 0 else if n = 3 then 3 else if n = 4 then 4 else if n = 5 then 5 else if n = 9 then 9 else if n = 22 then 61 else if n = 24 then 70 else if n = 25 then 220 else if n = 39 then 214 else if n = 45 then 260 else if n = 46 then 261 else if n = 50 then 103 else if n = 53 then 267 else if n = 55 then 66 else if n = 66 then 311 else if n = 70 then 315 else if n = 76 then 341 else if n = 77 then 342 else 0, g := fun _ => 0 }
theorem lays : SlLaysF0.n6 Tryz.prog ren where
  mixed := by kernel_rfl
  f6 := ⟨_, by kernel_rfl, Tryz.func106⟩
  f14 := ⟨_, by kernel_rfl, Tryz.func150⟩
  f15 := Tryz.func86
  f20 := ⟨_, by kernel_rfl, Tryz.func180⟩
  f21 := ⟨_, by kernel_rfl, Tryz.func181⟩
  f22 := ⟨_, by kernel_rfl, Tryz.func182⟩
  f23 := ⟨_, by kernel_rfl, Tryz.func183⟩
  f24 := ⟨_, by kernel_rfl, Tryz.func184⟩
  f25 := ⟨_, by kernel_rfl, Tryz.func185⟩
  f26 := ⟨_, by kernel_rfl, Tryz.func186⟩
  f27 := ⟨_, by kernel_rfl, Tryz.func187⟩
  f28 := Tryz.func139
  f29 := Tryz.func140
  f46 := ⟨_, by kernel_rfl, Tryz.func200⟩
  f47 := Tryz.func168
  f48 := Tryz.func169
  f49 := ⟨_, by kernel_rfl, Tryz.func201⟩
  f50 := ⟨_, by kernel_rfl, Tryz.func202⟩
  f57 := ⟨_, by kernel_rfl, Tryz.func215⟩
  t0 := by kernel_rfl
  a0 := fun w => by kernel_rfl
  z0 := fun w => by kernel_rfl
  v0 := fun w => by kernel_rfl
  t3 := by kernel_rfl
  a3 := fun w => by kernel_rfl
  z3 := fun w => by kernel_rfl
  v3 := fun w => by kernel_rfl
  t4 := by kernel_rfl
  a4 := fun w => by kernel_rfl
  z4 := fun w => by kernel_rfl
  v4 := fun w => by kernel_rfl
  t5 := by kernel_rfl
  a5 := fun w => by kernel_rfl
  z5 := fun w => by kernel_rfl
  v5 := fun w => by kernel_rfl
  t9 := by kernel_rfl
  a9 := fun w => by kernel_rfl
  z9 := fun w => by kernel_rfl
  v9 := fun w => by kernel_rfl
  t22 := by kernel_rfl
  a22 := fun w => by kernel_rfl
  z22 := fun w => by kernel_rfl
  v22 := fun w => by kernel_rfl
  t25 := by kernel_rfl
  a25 := fun w => by kernel_rfl
  z25 := fun w => by kernel_rfl
  v25 := fun w => by kernel_rfl
  t39 := by kernel_rfl
  a39 := fun w => by kernel_rfl
  z39 := fun w => by kernel_rfl
  v39 := fun w => by kernel_rfl
  t45 := by kernel_rfl
  a45 := fun w => by kernel_rfl
  z45 := fun w => by kernel_rfl
  v45 := fun w => by kernel_rfl
  t46 := by kernel_rfl
  a46 := fun w => by kernel_rfl
  z46 := fun w => by kernel_rfl
  v46 := fun w => by kernel_rfl
  t50 := by kernel_rfl
  a50 := fun w => by kernel_rfl
  z50 := fun w => by kernel_rfl
  v50 := fun w => by kernel_rfl
  t53 := by kernel_rfl
  a53 := fun w => by kernel_rfl
  z53 := fun w => by kernel_rfl
  v53 := fun w => by kernel_rfl
  t55 := by kernel_rfl
  a55 := fun w => by kernel_rfl
  z55 := fun w => by kernel_rfl
  v55 := fun w => by kernel_rfl
  t66 := by kernel_rfl
  a66 := fun w => by kernel_rfl
  z66 := fun w => by kernel_rfl
  v66 := fun w => by kernel_rfl
  t70 := by kernel_rfl
  a70 := fun w => by kernel_rfl
  z70 := fun w => by kernel_rfl
  v70 := fun w => by kernel_rfl
  t76 := by kernel_rfl
  a76 := fun w => by kernel_rfl
  z76 := fun w => by kernel_rfl
  v76 := fun w => by kernel_rfl
  t77 := by kernel_rfl
  a77 := fun w => by kernel_rfl
  z77 := fun w => by kernel_rfl
  v77 := fun w => by kernel_rfl

theorem hk (x : Lbl) : x.cells.length = 2 := rfl
theorem one (x : Lbl) : ∀ u ∈ x.cells, u.oneCell' = true := by
  intro u hu
  simp only [Lbl.cells, List.mem_cons, List.not_mem_nil, or_false] at hu
  rcases hu with rfl | rfl <;> rfl

/-- what is asked of an order -/
def CmpOk (f : FuncId) (cb : Array Value) (cf : Lbl → Lbl → Int) (l : List Lbl) (ok : World → Prop) : Prop :=
  ∀ x ∈ l, ∀ y ∈ l, ∀ W, ok W → Calls Tryz.prog f (#[.agg #[.string x.name, .string x.value], .agg #[.string y.name, .string y.value]] ++ cb) W fun e w2 => e = .returned (.int .i64 (cf x y)) ∧ ∃ q os', w2 = grow (W.drewN q) os'

/-- elements of the list -/
abbrev El (l : List Lbl) := {x : Lbl // x ∈ l}
def eenc (l : List Lbl) (u : El l) : List Value := u.1.cells
def ecf (l : List Lbl) (cf : Lbl → Lbl → Int) (u v : El l) : Int := cf u.1 v.1
theorem attach_cells (l : List Lbl) : (l.attach.toArray.toList).flatMap (eenc l) = l.flatMap Lbl.cells := by
  have h : l.attach.toArray.toList.map Subtype.val = l := by rw [List.toList_toArray, List.attach_map_subtype_val]
  have h3 := List.flatMap_map (Subtype.val (p := fun x => x ∈ l)) Lbl.cells l.attach.toArray.toList
  rw [h] at h3
  exact h3.symm
/-- a sort of l -/
def SrtRes (lt : Lbl → Lbl → Bool) (l S : List Lbl) : Prop := S.Perm l ∧ (S.Pairwise fun x y => lt y x = false)
theorem swo_el {l : List Lbl} {cf : Lbl → Lbl → Int} (h : SWO fun x y => decide (cf x y < 0)) : SWO (ltOf (ecf l cf)) where
  irrefl x := h.irrefl x.1
  trans x y z := h.trans x.1 y.1 z.1
  ntrans x y z := h.ntrans x.1 y.1 z.1

set_option maxHeartbeats 1600000 in
/-- THE SORT: the block holds what it held, in order. -/
theorem sort_any (g c n m : Nat) (l : List Lbl) (rest : List Value) (f : FuncId) (cb : Array Value) (cf : Lbl → Lbl → Int) (w : World) (eg : ∀ args w, (callFunc f args).run Tryz.prog w = .ok (.enter f args) w) (hlt : SWO fun x y => decide (cf x y < 0)) (hC : CmpOk f cb cf l (fun W => w.grownBy W (some g)))
    (hw : Whole1 w g 70 (l.flatMap Lbl.cells ++ rest).toArray) (hm : (l.flatMap Lbl.cells ++ rest).length = m) (hl : l.length = n) (hn : n < 1152921504606846976) (h0 : 0 < n) :
    Calls Tryz.prog 106 #[.slice (some ⟨g, 0, none⟩) n c, .func (.func f) #[] cb] w
      fun e w' => e = .returned (.tuple #[]) ∧ ∃ S rest', SrtRes (fun x y => decide (cf x y < 0)) l S ∧ Whole1 w' g 70 (S.flatMap Lbl.cells ++ rest').toArray ∧ (S.flatMap Lbl.cells ++ rest').length = m ∧ w.grownBy w' (some g) := by
  have hne : l ≠ [] := by intro h; rw [h] at hl; simp at hl; omega
  haveI : Inhabited (El l) := ⟨⟨l.head hne, List.head_mem hne⟩⟩
  obtain ⟨d0, hd0⟩ : ∃ d0 : Array (El l), d0 = l.attach.toArray := ⟨_, rfl⟩
  have hcs : d0.toList.flatMap (eenc l) = l.flatMap Lbl.cells := by rw [hd0]; exact attach_cells l
  have hsz : d0.size = n := by rw [hd0]; simpa using hl
  have R : RowK (eenc l) 2 w g 0 d0 := by
    refine ⟨fun _ => rfl, fun x v hv => one x.1 v hv, holdsK_of_cells' (enc := (eenc l)) (k := 2) (off := 0) (d := d0) (fun _ => rfl) fun j hj => ⟨?_, hw.free _⟩, hw.lt⟩
    rw [hcs, Nat.zero_add, hw.cell, List.getElem?_toArray, List.getElem?_append_left (by rw [fm_len hk, hl, ← hsz]; exact hj)]
  have hL : CmpLays Tryz.prog f cb (eenc l) 2 (ecf l cf) g 0 d0.size w := by
    intro mm os dk hdk x y
    exact hC x.1 x.2 y.1 y.2 _ (sw_gb (enc := (eenc l)) (k := 2) ⟨mm, os, rfl⟩)
  have hcon := AnyQ.slices_SortFunc lays 2 (fun w => by kernel_rfl) (fun w => by kernel_rfl) (eenc l) R.hk R.h1 (ecf l cf) (swo_el hlt) f cb g 0 c d0 w eg hL R.hH R.hblk (by omega)
  rw [hsz] at hcon
  refine hcon.mono ?_
  rintro e w' ⟨rfl, d', nq, os, hp, hs, hw'⟩
  refine ⟨rfl, ?_⟩
  have hS : SWK (eenc l) 2 w g 0 d' w' := ⟨nq, os, hw'⟩
  have hsz' : d'.size = n := by rw [hp.1, hsz]
  have full : ∀ d : Array (El l), d.size = n → d.extract 0 n = d := fun d hd => by rw [← hd]; simp
  have hperm := hp.2.2
  rw [full _ hsz', full _ hsz, hd0] at hperm
  obtain ⟨rest', h1, h2⟩ := sw_block (l := d0.toList) (rest := rest) (m := m) hS R (by rw [hsz', hsz]) (by rw [hcs]; exact hw) (by rw [hcs]; exact hm) (by rw [hsz', ← hsz]; simp)
  have e : d'.toList.flatMap (eenc l) = (d'.toList.map Subtype.val).flatMap Lbl.cells := by rw [List.flatMap_map]; rfl
  rw [e] at h1 h2
  refine ⟨_, rest', ⟨?_, ?_⟩, h1, h2, sw_gb hS⟩
  · have := hperm.map Subtype.val
    rwa [List.toList_toArray, List.attach_map_subtype_val] at this
  · rw [List.pairwise_map, List.pairwise_iff_getElem]
    intro i j hi hj hij
    rw [Array.length_toList, hsz'] at hi hj
    have := hs i j (Nat.zero_le _) hij hj
    rw [getElem!_pos _ i (by rw [hsz']; exact hi), getElem!_pos _ j (by rw [hsz']; exact hj)] at this
    exact this
/-- the sort, at none -/
theorem ins0_any (A : Option Addr) (c : Nat) (fv : Value) (w : World) : Calls Tryz.prog 180 #[.slice A 0 c, .int .i64 0, .int .i64 0, fv] w fun e w' => e = .returned (.tuple #[]) ∧ w = w' := by
  go_enter Tryz.func180, Tryz.ntmps180
  go_wp2
  refine wp_loop_rounds 1 ?_
  rw [rounds_succ]
  go_wp2
  go_end0
  exact ⟨rfl, rfl⟩
theorem pdq0_any (A : Option Addr) (c : Nat) (lim : Int) (fv : Value) (w : World) : Calls Tryz.prog 150 #[.slice A 0 c, .int .i64 0, .int .i64 0, .int .i64 lim, fv] w fun e w' => e = .returned (.tuple #[]) ∧ w = w' := by
  go_enter Tryz.func150, Tryz.ntmps150
  go_wp2_with fail
  refine wp_loop_rounds 1 ?_
  rw [rounds_succ]
  go_wp2_with fail
  refine (ins0_any A c fv _).mono ?_
  rintro e w' ⟨rfl, rfl⟩
  go_wp2_with fail
  exact bodyPost_ret (v := .tuple #[]) (by simp [results, Tryz.results150, go_sem]) rfl ⟨rfl, rfl⟩
theorem sort0_any (A : Option Addr) (c : Nat) (fv : Value) (w : World) : Calls Tryz.prog 106 #[.slice A 0 c, fv] w fun e w' => e = .returned (.tuple #[]) ∧ w = w' := by
  have hl : Calls Tryz.prog 86 #[.int .u64 0] w fun e w' => e = .returned (.int .i64 (Lib.bitLen 0 : Nat)) ∧ w' = w :=
    Any.bits_Len (SlLaysF0.n15.bits (P := Tryz.prog) (ρ := ren) { lays with }) 0 w (by omega) (by omega)
  have HL := hidden hl
  clear hl
  go_enter Tryz.func106, Tryz.ntmps106
  go_wp2_with fail
  refine HL.out.mono ?_
  rintro e w' ⟨rfl, rfl⟩
  go_wp2_with fail
  refine (pdq0_any A c _ fv _).mono ?_
  rintro e w' ⟨rfl, rfl⟩
  go_wp2_with fail
  go_end0
  exact ⟨rfl, rfl⟩
/-- the sort at a row of the call's own -/
theorem sortAll_any (v : Value) (n base : Nat) (l : List Lbl) (f : FuncId) (cb : Array Value) (cf : Lbl → Lbl → Int) (w : World) (eg : ∀ args w, (callFunc f args).run Tryz.prog w = .ok (.enter f args) w) (hlt : SWO fun x y => decide (cf x y < 0)) (hC : ∀ g, base ≤ g → CmpOk f cb cf l (fun W => w.grownBy W (some g)))
    (hown : w.ownsRow base 70 2 v n (l.flatMap Lbl.cells)) (hl : l.length = n) (hn : n < 1152921504606846976) :
    Calls Tryz.prog 106 #[v, .func (.func f) #[] cb] w
      fun e w' => e = .returned (.tuple #[]) ∧ ∃ S, SrtRes (fun x y => decide (cf x y < 0)) l S ∧ w'.ownsRow base 70 2 v n (S.flatMap Lbl.cells) ∧ w.grownBy w' v.ownBlock := by
  rcases Nat.eq_zero_or_pos n with h0 | h0
  · subst h0
    obtain rfl : l = [] := List.eq_nil_of_length_eq_zero hl
    obtain ⟨A, c, rfl, _, _⟩ := own_shape hown
    refine (sort0_any A c _ w).mono ?_
    rintro e w' ⟨rfl, rfl⟩
    exact ⟨rfl, [], ⟨List.Perm.refl _, List.Pairwise.nil⟩, hown, gb_refl _ _⟩
  · obtain ⟨g, c, rest, rfl, hg, hw, hnc, hc, _, hm⟩ := own_whole_g hk hown h0
    refine (sort_any g c n (c * 2) l rest f cb cf w eg hlt (hC g hg) hw hm hl hn h0).mono ?_
    rintro e w' ⟨rfl, S, rest', hS, hw', hm', hgb⟩
    exact ⟨rfl, S, hS, own_of_whole_g hk hg hw' hnc hc (by rw [hS.1.length_eq]; exact hl) hm', hgb⟩
end Go.Proofs.YthncochjhbmceaaGreat.SrfLbl
