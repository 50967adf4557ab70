/- slices.SortStableFunc at samples, whatever order: what it leaves. Condition: the order has a contract, the row is within the reach. slices.CompactFunc at samples, whatever equality: what it leaves. Condition: the equality has a contract, the row is within the reach. -/
import Derived.Test.YtbijjjhfekkfaaaGreatStabSmp
import Derived.Test.YtbijjjhfekkfaaaGreatPkeab15ca0
import Derived.Test.YtbijjjhfekkfaaaGreatPkc787b734
import Derived.Test.YtbijjjhfekkfaaaGreatBase
import Derived.Lib.QuietBelow
import Derived.Shelf.SlSortCmp.KitK
namespace Go.Proofs.YtbijjjhfekkfaaaGreat.SrtSmp
set_option maxRecDepth 100000
open Go.Shelf Go.RowKit Go.Lib Go.Sort

theorem bears : StabSmp.Bears Tryz.prog 2 where
  mixed := by kernel_rfl
  fsw := Tryz.func313
  frot := Tryz.func293
  fsym := Tryz.func257
  fstab := Tryz.func211
  fsort := Tryz.func142
  esw := enters_of Tryz.func313 (by kernel_rfl) rfl
  erot := enters_of Tryz.func293 (by kernel_rfl) rfl
  esym := enters_of Tryz.func257 (by kernel_rfl) rfl
  estab := enters_of Tryz.func211 (by kernel_rfl) rfl
  eins := enters_of Tryz.func256 (by kernel_rfl) rfl
  t0 := by kernel_rfl
  a0 := fun w => by kernel_rfl
  z0 := fun w => by kernel_rfl
  v0 := fun w => by kernel_rfl
  t3 := by kernel_rfl
  a3 := fun w => by kernel_rfl
  z3 := fun w => by kernel_rfl
  v3 := fun w => by kernel_rfl
  t4 := by kernel_rfl
  a4 := fun w => by kernel_rfl
  z4 := fun w => by kernel_rfl
  v4 := fun w => by kernel_rfl
  tu := by kernel_rfl
  au := fun w => by kernel_rfl
  zu := fun w => by kernel_rfl
  vu := fun w => by kernel_rfl
  ts := by kernel_rfl
  as_ := fun w => by kernel_rfl
  zs := fun w => by kernel_rfl
  vs := fun w => by kernel_rfl
  tf := by kernel_rfl
  af := fun w => by kernel_rfl
  zf := fun w => by kernel_rfl
  vf := fun w => by kernel_rfl
  aE := fun w => by kernel_rfl
  zE := fun w => by kernel_rfl

def ren : Ren := { f := fun n => if n = 20 then 256 else 0, t := fun n => if n = 0 then 0 else if n = 3 then 3 else if n = 4 then 4 else if n = 22 then 54 else if n = 24 then 112 else if n = 25 then 287 else 0, g := fun _ => 0 }
theorem lays : SlLaysF0.n20 Tryz.prog ren where
  mixed := by kernel_rfl
  f20 := ⟨_, by kernel_rfl, Tryz.func256⟩
  t0 := by kernel_rfl
  a0 := fun w => by kernel_rfl
  z0 := fun w => by kernel_rfl
  v0 := fun w => by kernel_rfl
  t3 := by kernel_rfl
  a3 := fun w => by kernel_rfl
  z3 := fun w => by kernel_rfl
  v3 := fun w => by kernel_rfl
  t4 := by kernel_rfl
  a4 := fun w => by kernel_rfl
  z4 := fun w => by kernel_rfl
  v4 := fun w => by kernel_rfl
  t22 := by kernel_rfl
  a22 := fun w => by kernel_rfl
  z22 := fun w => by kernel_rfl
  v22 := fun w => by kernel_rfl
  t25 := by kernel_rfl
  a25 := fun w => by kernel_rfl
  z25 := fun w => by kernel_rfl
  v25 := fun w => by kernel_rfl

theorem hk (x : Smp) : x.cells.length = 2 := rfl
theorem one (x : Smp) : ∀ u ∈ x.cells, u.oneCell' = true := by
  intro u hu
  simp only [Smp.cells, List.mem_cons, List.not_mem_nil, or_false] at hu
  rcases hu with rfl | rfl <;> rfl

/-- what is asked of an order -/
def CmpOk (f : FuncId) (cb : Array Value) (cf : Smp → Smp → Int) (l : List Smp) (ok : World → Prop) : Prop :=
  ∀ x ∈ l, ∀ y ∈ l, ∀ W, ok W → Calls Tryz.prog f (#[.agg #[.int .i64 x.t, .int .u64 ((x.v : Nat) : Int)], .agg #[.int .i64 y.t, .int .u64 ((y.v : Nat) : Int)]] ++ cb) W fun e w2 => e = .returned (.int .i64 (cf x y)) ∧ ∃ q os', w2 = grow (W.drewN q) os'

/-- elements of the list -/
abbrev El (l : List Smp) := {x : Smp // x ∈ l}
def eenc (l : List Smp) (u : El l × Nat) : List Value := u.1.1.cells
def ecf (l : List Smp) (cf : Smp → Smp → Int) (u v : El l × Nat) : Int := cf u.1.1 v.1.1
theorem attach_cells (l : List Smp) : (l.attach.zipIdx.toArray.toList).flatMap (eenc l) = l.flatMap Smp.cells := by
  have h : l.attach.zipIdx.toArray.toList.map (fun u : El l × Nat => u.1.1) = l := by
    have h1 : l.attach.zipIdx.map Prod.fst = l.attach := by simp
    have h2 := congrArg (List.map Subtype.val) h1
    rw [List.map_map, List.attach_map_subtype_val] at h2
    exact h2
  have h3 := List.flatMap_map (fun u : El l × Nat => u.1.1) Smp.cells l.attach.zipIdx.toArray.toList
  rw [h] at h3
  exact h3.symm

section
variable (f : FuncId) (cb : Array Value) (cf : Smp → Smp → Int) (g c : Nat) (l : List Smp) (rest : List Value)
theorem ins_ok [Inhabited (El l)] (cap : Nat) (d0 : Array (El l × Nat)) (w0 : World) (eg : ∀ args w, (callFunc f args).run Tryz.prog w = .ok (.enter f args) w) (hC : CmpLays Tryz.prog f cb (eenc l) 2 (ecf l cf) g 0 d0.size w0) (R : RowK (eenc l) 2 w0 g 0 d0) (hsz : d0.size < 4611686018427387904) :
    StabSmp.InsOk (P := Tryz.prog) 2 (eenc l) (ecf l cf) f cb g 0 cap d0 w0 := by
  intro a b d w hab hb hs S
  have hC' : CmpLays Tryz.prog f cb (eenc l) 2 (ecf l cf) g 0 d.size w := by
    intro m os dk hdk x y
    obtain ⟨n0, os0, rfl⟩ := S
    have h2 := hC (n0 + m) (os0 ++ os) dk (hdk.trans hs) x y
    rw [sortWorldK_on (eenc l) 2 w0 g 0 n0 m d dk os0 os R.hblk hdk]
    exact h2
  have h := AnyQ.insertionSortCmpFunc lays 2 (fun w => by kernel_rfl) (fun w => by kernel_rfl) (eenc l) R.hk R.h1 (ecf l cf) f cb g 0 cap a b d w eg hC' (S.holds R.hblk R.hH hs) (S.lt R.hblk) hab (by omega) (by omega)
  rw [hs] at h
  refine h.mono ?_
  rintro e w' ⟨rfl, n, os, rfl⟩
  exact ⟨rfl, S.on R.hblk n _ os (insertionSort_size (ltOf (ecf l cf)) d a b)⟩
end

/-- a stable sort of l -/
def SrtRes (lt : Smp → Smp → Bool) (l S : List Smp) : Prop := S.Perm l ∧ (S.Pairwise fun x y => lt y x = false) ∧ ∀ P : Smp → Bool, (∀ x y, P x = true → P y = true → lt x y = false) → S.filter P = l.filter P
theorem swo_el {l : List Smp} {cf : Smp → Smp → Int} (h : SWO fun x y => decide (cf x y < 0)) : SWO fun x y : El l => decide (cf x.1 y.1 < 0) where
  irrefl x := h.irrefl x.1
  trans x y z := h.trans x.1 y.1 z.1
  ntrans x y z := h.ntrans x.1 y.1 z.1

/-- the sort, at none -/
theorem ins0_any (A : Option Addr) (c : Nat) (fv : Value) (w : World) : Calls Tryz.prog 256 #[.slice A 0 c, .int .i64 0, .int .i64 0, fv] w fun e w' => e = .returned (.tuple #[]) ∧ w = w' := by
  go_enter Tryz.func256, Tryz.ntmps256
  go_wp2
  refine wp_loop_rounds 1 ?_
  rw [rounds_succ]
  go_wp2
  go_end0
  exact ⟨rfl, rfl⟩
theorem stable0_any (A : Option Addr) (c : Nat) (fv : Value) (w : World) : Calls Tryz.prog 211 #[.slice A 0 c, .int .i64 0, fv] w fun e w' => e = .returned (.tuple #[]) ∧ w = w' := by
  go_enter Tryz.func211, Tryz.ntmps211
  go_wp2_with fail
  refine wp_loop_rounds 1 ?_
  rw [rounds_succ]
  go_wp2_with fail
  refine (ins0_any A c fv _).mono ?_
  rintro e w' ⟨rfl, rfl⟩
  go_wp2_with fail
  refine wp_loop_rounds 1 ?_
  rw [rounds_succ]
  go_wp2
  go_end0
  exact ⟨rfl, rfl⟩
theorem sort0_any (A : Option Addr) (c : Nat) (fv : Value) (w : World) : Calls Tryz.prog 142 #[.slice A 0 c, fv] w fun e w' => e = .returned (.tuple #[]) ∧ w = w' := by
  go_enter Tryz.func142, Tryz.ntmps142
  go_wp2_with fail
  refine (stable0_any A c fv _).mono ?_
  rintro e w' ⟨rfl, rfl⟩
  go_wp2
  go_end0
  exact ⟨rfl, rfl⟩

set_option maxHeartbeats 1600000 in
/-- THE SORT: the block holds a stable sort of what it held. -/
theorem sort_any (g c n m : Nat) (l : List Smp) (rest : List Value) (f : FuncId) (cb : Array Value) (cf : Smp → Smp → Int) (w : World) (eg : ∀ args w, (callFunc f args).run Tryz.prog w = .ok (.enter f args) w) (hlt : SWO fun x y => decide (cf x y < 0)) (hC : CmpOk f cb cf l (fun W => w.grownBy W (some g)))
    (hw : Whole1 w g 112 (l.flatMap Smp.cells ++ rest).toArray) (hm : (l.flatMap Smp.cells ++ rest).length = m) (hl : l.length = n) (hn : n < 1152921504606846976) (h0 : 0 < n) :
    Calls Tryz.prog 142 #[.slice (some ⟨g, 0, none⟩) n c, .func (.func f) #[] cb] w
      fun e w' => e = .returned (.tuple #[]) ∧ ∃ S rest', SrtRes (fun x y => decide (cf x y < 0)) l S ∧ Whole1 w' g 112 (S.flatMap Smp.cells ++ rest').toArray ∧ (S.flatMap Smp.cells ++ rest').length = m ∧ w.grownBy w' (some g) := by
  have hne : l ≠ [] := by intro h; rw [h] at hl; simp at hl; omega
  haveI : Inhabited (El l) := ⟨⟨l.head hne, List.head_mem hne⟩⟩
  obtain ⟨d0, hd0⟩ : ∃ d0 : Array (El l × Nat), d0 = l.attach.zipIdx.toArray := ⟨_, rfl⟩
  have hcs : d0.toList.flatMap (eenc l) = l.flatMap Smp.cells := by rw [hd0]; exact attach_cells l
  have hsz : d0.size = n := by rw [hd0]; simpa using hl
  have R : RowK (eenc l) 2 w g 0 d0 := by
    refine ⟨fun _ => rfl, fun x v hv => one x.1.1 v hv, holdsK_of_cells' (enc := (eenc l)) (k := 2) (off := 0) (d := d0) (fun _ => rfl) fun j hj => ⟨?_, hw.free _⟩, hw.lt⟩
    rw [hcs, Nat.zero_add, hw.cell, List.getElem?_toArray, List.getElem?_append_left (by rw [fm_len hk, hl, ← hsz]; exact hj)]
  have hL : CmpLays Tryz.prog f cb (eenc l) 2 (ecf l cf) g 0 d0.size w := by
    intro mm os dk hdk x y
    exact hC x.1.1 x.1.2 y.1.1 y.1.2 _ (sw_gb (enc := (eenc l)) (k := 2) ⟨mm, os, rfl⟩)
  have hcon := hidden (StabSmp.stable_any 2 bears (eenc l) (ecf l cf) f cb g 0 c d0 w eg hL R (ins_ok f cb cf g l c d0 w eg hL R (by omega)) (by omega) w (SWK.start R.hH))
  have hstab := stab_ok (lt := fun x y : El l => decide (cf x.1 y.1 < 0)) (swo_el hlt) l.attach
  have hfin : ∀ w', SWK (eenc l) 2 w g 0 (stable (ltOf (ecf l cf)) d0.size d0) w' → ∃ S rest', SrtRes (fun x y => decide (cf x y < 0)) l S ∧ Whole1 w' g 112 (S.flatMap Smp.cells ++ rest').toArray ∧ (S.flatMap Smp.cells ++ rest').length = m ∧ w.grownBy w' (some g) := by
    intro w' hS
    have hsl : (stable (ltOf (ecf l cf)) n d0).toList.length = n := by
      have := hstab.1.length_eq
      rw [List.length_zipIdx, List.length_attach, hl] at this
      rw [hd0]
      exact this
    have hss : (stable (ltOf (ecf l cf)) d0.size d0).size = d0.size := by
      rw [hsz, ← Array.length_toList]
      exact hsl
    obtain ⟨rest', h1, h2⟩ := sw_block (l := d0.toList) (rest := rest) (m := m) hS R hss (by rw [hcs]; exact hw) (by rw [hcs]; exact hm) (by rw [hss]; simp)
    have e : (stable (ltOf (ecf l cf)) d0.size d0).toList.flatMap (eenc l) = ((stab (fun x y : El l => decide (cf x.1 y.1 < 0)) l.attach).map Subtype.val).flatMap Smp.cells := by
      unfold stab
      rw [List.flatMap_map, List.flatMap_map, List.length_attach, hl, hsz, hd0]
      rfl
    rw [e] at h1 h2
    refine ⟨_, rest', ⟨?_, ?_, ?_⟩, h1, h2, sw_gb hS⟩
    · have := (stab_perm (swo_el hlt) l.attach).map Subtype.val
      rwa [List.attach_map_subtype_val] at this
    · rw [List.pairwise_map]
      exact stab_sorted (swo_el hlt) l.attach
    · intro P hP
      have h3 := stab_filter (swo_el hlt) l.attach (fun x => P x.1) (fun x y hx hy => hP x.1 y.1 hx hy)
      have h4 := congrArg (List.map Subtype.val) h3
      have e2 : ∀ M : List (El l), (M.filter (fun x => P x.1)).map Subtype.val = (M.map Subtype.val).filter P := fun M => by rw [List.filter_map]; rfl
      rw [e2, e2, List.attach_map_subtype_val] at h4
      exact h4
  have HF := hidden hfin
  rw [hsz] at hcon
  clear hfin hstab hL R hcs hC eg hw hm
  go_enter Tryz.func142, Tryz.ntmps142
  go_wp2_with fail
  refine hcon.out.mono ?_
  rintro e w' ⟨rfl, hS⟩
  have HS := hidden (HF.out w' (by rw [hsz]; exact hS))
  clear hS
  go_wp2
  go_end0
  exact ⟨rfl, HS.out⟩
end Go.Proofs.YtbijjjhfekkfaaaGreat.SrtSmp

namespace Go.Proofs.YtbijjjhfekkfaaaGreat.CmpSmp
set_option maxRecDepth 100000
open Go.RowKit

theorem hk (x : Smp) : x.cells.length = 2 := rfl

/-- what is asked of an equality -/
def EqOk (f : FuncId) (cb : Array Value) (p : Smp → Smp → Bool) (l : List Smp) (ok : World → Prop) : Prop :=
  ∀ x ∈ l, ∀ y ∈ l, ∀ W, ok W → Calls Tryz.prog f (#[.agg #[.int .i64 x.t, .int .u64 ((x.v : Nat) : Int)], .agg #[.int .i64 y.t, .int .u64 ((y.v : Nat) : Int)]] ++ cb) W fun e w2 => e = .returned (.bool (p x y)) ∧ Below W.heap.size W w2

/-- of several in a row that are equal the first one -/
def cmpFrom (p : Smp → Smp → Bool) : Option Smp → List Smp → List Smp
  | _, [] => []
  | none, x :: r => [x] ++ cmpFrom p (some x) r
  | some y, x :: r => (if p x y = true then [] else [x]) ++ cmpFrom p (some x) r
def cmpct (p : Smp → Smp → Bool) (l : List Smp) : List Smp := cmpFrom p none l
theorem cmpFrom_snoc (p : Smp → Smp → Bool) (x y : Smp) : ∀ (l : List Smp) (o : Option Smp), l.getLast? = some y → cmpFrom p o (l ++ [x]) = cmpFrom p o l ++ (if p x y = true then [] else [x])
  | [], _, h => by simp at h
  | [a], o, h => by
    simp only [List.getLast?_singleton, Option.some.injEq] at h
    subst h
    cases o <;> simp [cmpFrom]
  | a :: b :: r, o, h => by
    have h2 : (b :: r).getLast? = some y := by rw [List.getLast?_cons_cons] at h; exact h
    have ih := cmpFrom_snoc p x y (b :: r) (some a) h2
    cases o with
    | none =>
      show [a] ++ cmpFrom p (some a) (b :: r ++ [x]) = _
      rw [ih, ← List.append_assoc]; rfl
    | some z =>
      show (if p a z = true then [] else [a]) ++ cmpFrom p (some a) (b :: r ++ [x]) = _
      rw [ih, ← List.append_assoc]; rfl
theorem getLast_take {l : List Smp} {j : Nat} {y : Smp} (h : l[j]? = some y) : (l.take (j + 1)).getLast? = some y := by
  rw [take_snoc? h, List.getLast?_concat]
theorem cmpct_step (p : Smp → Smp → Bool) {l : List Smp} {j : Nat} {x y : Smp} (hx : l[j + 1]? = some x) (hy : l[j]? = some y) : cmpct p (l.take (j + 2)) = if p x y = true then cmpct p (l.take (j + 1)) else cmpct p (l.take (j + 1)) ++ [x] := by
  unfold cmpct
  rw [take_snoc? hx, cmpFrom_snoc p x y _ none (getLast_take hy)]
  split <;> simp
theorem cmpct_len (p : Smp → Smp → Bool) : ∀ (l : List Smp) (o : Option Smp), (cmpFrom p o l).length ≤ l.length
  | [], _ => Nat.le_refl _
  | x :: r, o => by
    have := cmpct_len p r (some x)
    cases o with
    | none =>
      show ([x] ++ cmpFrom p (some x) r).length ≤ _
      simp only [List.length_append, List.length_cons, List.length_nil]; omega
    | some y =>
      show ((if p x y = true then [] else [x]) ++ cmpFrom p (some x) r).length ≤ _
      rw [List.length_append, List.length_cons]
      split
      · simp only [List.length_nil]; omega
      · simp only [List.length_singleton]; omega
theorem cmp_set (F q : List Smp) (y x : Smp) (r : List Smp) : ∃ q', (F ++ (q ++ [y]) ++ x :: r).set F.length x = (F ++ [x]) ++ (q' ++ [x]) ++ r ∧ q'.length = q.length := by
  cases q with
  | nil =>
    refine ⟨[], ?_, rfl⟩
    rw [List.append_assoc, List.set_append_right _ _ (Nat.le_refl _), Nat.sub_self]
    simp
  | cons a q =>
    refine ⟨q ++ [y], ?_, by simp⟩
    rw [List.append_assoc, List.set_append_right _ _ (Nat.le_refl _), Nat.sub_self]
    simp

def clearCells (n : Nat) : List Value := (Builtin.zeroCells #[.int .i64 0, .int .u64 0] n).toList
theorem clear_len (n : Nat) : (clearCells n).length = n * 2 := by simp [clearCells, Builtin.zeroCells]
theorem run_clear (w : World) (ty : TypeId) (b o n c : Nat) (hn : 0 < n) (hc : ∀ j, j < n * 2 → (w.cell? ⟨b, o + j, none⟩).isSome = true) (hf : ∀ j, j < n * 2 → w.frozen? ⟨b, o + j, none⟩ = false) :
    (Builtin.clear_ #[54] ty #[.slice (some ⟨b, o, none⟩) n c]).run Tryz.prog w = .ok (.tuple #[]) (w.setCells b o (clearCells n)) := by
  have hl := clear_len n
  unfold clearCells at hl ⊢
  have hst := run_storeCells_cells (P := Tryz.prog) b o (Builtin.zeroCells #[.int .i64 0, .int .u64 0] n).toList 0 w (by rw [hl]; simpa using hc) (by rw [hl]; simpa using hf) (by
    intro v hv
    simp only [Builtin.zeroCells, Array.toList_map, List.mem_map] at hv
    obtain ⟨q, _, rfl⟩ := hv
    have : q % 2 < 2 := Nat.mod_lt _ (by decide)
    match q % 2, this with
    | 0, _ => rfl
    | 1, _ => rfl)
  simp only [Nat.add_zero] at hst
  obtain ⟨m, rfl⟩ : ∃ m, n = m + 1 := ⟨n - 1, by omega⟩
  simp [Builtin.clear_, run_underlying Tryz.underlying54, Value.cells, hst]

/-- what CompactFunc leaves: the head of the same block -/
def CmpRes (g c m : Nat) (F : List Smp) (w w' : World) (v : Value) : Prop :=
  ∃ rest, v = .slice (some ⟨g, 0, none⟩) F.length c ∧ F.length ≤ c ∧ Whole1 w' g 112 (F.flatMap Smp.cells ++ rest).toArray ∧ (F.flatMap Smp.cells ++ rest).length = m ∧ w.grownBy w' (some g)

/-- fewer than two: as they were -/
theorem compact0_any (A : Option Addr) (n c : Nat) (fv : Value) (w : World) (hn : n < 2) :
    Calls Tryz.prog 145 #[.slice A n c, fv] w fun e w' => e = .returned (.slice A n c) ∧ w = w' := by
  have hz : (n : Int) < 2 := by omega
  go_enter Tryz.func145, Tryz.ntmps145
  go_wp2
  go_ret
  exact ⟨rfl, rfl⟩

set_option maxHeartbeats 12800000 in
theorem compact_any (g n c : Nat) (l : List Smp) (rest : List Value) (m : Nat) (f : FuncId) (cb : Array Value) (p : Smp → Smp → Bool) (w : World) (eg : ∀ args w, (callFunc f args).run Tryz.prog w = .ok (.enter f args) w) (hp : EqOk f cb p l (fun W => w.grownBy W (some g))) (hw : Whole1 w g 112 (l.flatMap Smp.cells ++ rest).toArray) (hl : l.length = n) (hm : (l.flatMap Smp.cells ++ rest).length = m) (hnc : n ≤ c) (hc : c ≤ 9223372036854775807) (hn : n ≤ 4611686018427387904) (hn2 : 2 ≤ n) :
    Calls Tryz.prog 145 #[.slice (some ⟨g, 0, none⟩) n c, .func (.func f) #[] cb] w
      fun e w' => ∃ v, e = .returned v ∧ CmpRes g c m (cmpct p l) w w' v := by
  have hglt := hw.lt
  have HW := hidden hw
  have HL := hidden hl
  have HP := hidden hp
  have HM := hidden hm
  clear hm
  have hlz : ¬ (n : Int) < 2 := by omega
  clear hw hl hp
  go_enter Tryz.func145, Tryz.ntmps145
  go_wp2
  go_loopw [5] (fun vi wr => ∃ k : Nat, vi = .int .i64 ((k + 1 : Nat) : Int) ∧ k + 1 ≤ n ∧ Hid (cmpct p (l.take (k + 1)) = l.take (k + 1)) ∧ Below w.heap.size w wr) (fun vi _ => n - (intOf vi).toNat)
  case atStart =>
    refine ⟨0, rfl, by omega, ?_, Below.refl _ _⟩
    cases l with
    | nil => exact hidden rfl
    | cons a r => exact hidden rfl
  case round =>
    obtain ⟨k, rfl, hkn, hsame, hb⟩ := hrel
    by_cases hlt : k + 1 < n
    · obtain ⟨wo, rfl⟩ : ∃ wo : World, wo = wr := ⟨_, rfl⟩
      obtain ⟨x, hx⟩ : ∃ x, l[k + 1]? = some x := ⟨l[k + 1]'(by rw [HL.out]; exact hlt), List.getElem?_eq_getElem _⟩
      obtain ⟨y, hy⟩ : ∃ y, l[k]? = some y := ⟨l[k]'(by rw [HL.out]; omega), List.getElem?_eq_getElem _⟩
      have hW := HW.out.below hb hglt
      obtain ⟨k1, hk1⟩ : ∃ k1, k + 1 = k1 := ⟨_, rfl⟩
      have hstep := cmpct_step p hx hy
      rw [hsame.out] at hstep
      rw [hk1] at hlt hx ⊢
      have d0 : wo.cell? ⟨g, k1 * 2, none⟩ = some (.int .i64 x.t) := whole_at hk hW hx 0 (by omega)
      have d1 : wo.cell? ⟨g, k1 * 2 + 1, none⟩ = some (.int .u64 ((x.v : Nat) : Int)) := whole_at hk hW hx 1 (by omega)
      have e0 : wo.cell? ⟨g, k * 2, none⟩ = some (.int .i64 y.t) := whole_at hk hW hy 0 (by omega)
      have e1 : wo.cell? ⟨g, k * 2 + 1, none⟩ = some (.int .u64 ((y.v : Nat) : Int)) := whole_at hk hW hy 1 (by omega)
      have hcon : Hid (∀ D os, Calls Tryz.prog f (#[.agg #[.int .i64 x.t, .int .u64 ((x.v : Nat) : Int)], .agg #[.int .i64 y.t, .int .u64 ((y.v : Nat) : Int)]] ++ cb) (Sort.grow (redrawn wo D) os) fun e w'' => e = .returned (.bool (p x y)) ∧ ∃ q : Regrown, w'' = Sort.grow (redrawn wo q.d) q.os) :=
        hidden fun D os => Calls.regrown_of (HP.out x (List.mem_of_getElem? hx) y (List.mem_of_getElem? hy) _ (gb_below (hb.trans ((below_regrown wo D os).mono hb.size)) _))
      have t1 : IntKind.i64.wrap ((k1 : Int) - 1) = (k : Int) := by rw [IntKind.wrap_i64]; omega
      have t2 : (k1 : Int) < (n : Int) := by omega
      have t3 : (0 : Int) ≤ (k1 : Int) := by omega
      have t4 : (k : Int) < (n : Int) := by omega
      have t5 : (0 : Int) ≤ (k : Int) := by omega
      have hkk1 : k + 1 ≤ k1 := by omega
      have hkk2 : k1 ≤ k + 1 := by omega
      have HX := hidden hx
      have HY := hidden hy
      have HK1 := hidden hk1
      have HST := hidden hstep
      have r0 := cell_regrown d0
      have r1 := cell_regrown d1
      have s0 := cell_regrown e0
      have s1 := cell_regrown e1
      clear hstep hx hy hk1 hW d0 d1 e0 e1
      go_wp2_with fail
      refine wp_region_quiet_below (by kernel_rfl) (by kernel_rfl) ?_
      repeat (first | go_big_quiet_step (first | (go_at_fn f; exact hcon.out _ _)) | quiet_step (first | (go_at_fn f; exact hcon.out _ _)))
      refine wpQuiet_nil ?_
      intro _ hw'
      obtain ⟨⟨dq, osq⟩, hw''⟩ := hw'
      subst hw''
      have hb5 : Below wo.heap.size wo (Sort.grow (redrawn wo (Regrown.mk dq osq).d) (Regrown.mk dq osq).os) := below_regrown _ _ _
      generalize Sort.grow (redrawn wo (Regrown.mk dq osq).d) (Regrown.mk dq osq).os = w5 at hb5 ⊢
      have hB5 := hb.trans (hb5.mono hb.size)
      obtain ⟨b, hv⟩ : ∃ b, p x y = b := ⟨_, rfl⟩
      have hstep := HST.out
      rw [hv] at hstep ⊢
      clear hv hb5 hb r0 r1 s0 s1 hcon
      cases b with
      | false =>
        rw [if_neg (by decide)] at hstep
        have HS2 : Hid (cmpct p (l.take (k + 1 + 1)) = l.take (k + 1 + 1)) := by
          have h1 : l.take (k + 1 + 1) = l.take (k + 1) ++ [x] := take_snoc? (by rw [HK1.out]; exact HX.out)
          exact hstep.trans h1.symm
        clear hstep
        go_wp2_with fail
        go_roundw
        case rel => exact ⟨k + 1, by go_num, by omega, HS2, hB5⟩
        case measure => simp [intOf]; omega
      | true =>
        rw [if_pos rfl] at hstep
        have HCP : Hid (cmpct p (l.take (k1 + 1)) = l.take k1) := by
          rw [← HK1.out]; exact hstep
        have hW5 := HW.out.below hB5 hglt
        have hsp : l = l.take k1 ++ [x] ++ l.drop (k1 + 1) := by
          have hx := HX.out
          rw [List.append_assoc, List.singleton_append, ← (List.getElem?_eq_some_iff.1 hx).2, ← List.drop_eq_getElem_cons, List.take_append_drop]
        have HWS : Hid (Whole1 w5 g 112 ((cmpct p (l.take (k1 + 1)) ++ ([] ++ [x]) ++ l.drop (k1 + 1)).flatMap Smp.cells ++ rest).toArray) := by
          rw [Hid, HCP.out, List.nil_append, ← hsp]; exact hW5
        have hkc : (k1 : Int) ≤ (c : Int) := by omega
        have hkc2 : (k1 : Int) < (c : Int) := by omega
        have hkc3 : k1 < c := by omega
        have HG5 := hidden (gb_below hB5 (some g))
        have HCL : Hid ((cmpct p (l.take (k1 + 1))).length = k1) := by rw [Hid, HCP.out, List.length_take, HL.out]; omega
        clear hstep hW5 hsp hB5
        go_wp2_with fail
        go_loopw [5, 7] (fun vi vj wx => ∃ (j2 i : Nat) (q : List Smp) (y : Smp), vi = .int .i64 i ∧ vj = .int .i64 j2 ∧ 1 ≤ j2 ∧ k1 + j2 ≤ n ∧ Hid ((cmpct p (l.take (k1 + j2))).length = i) ∧ i + q.length + 1 ≤ k1 + j2 ∧ k1 + j2 ≤ i + q.length + 1 ∧ Hid (l[k1 + j2 - 1]? = some y) ∧ Hid (Whole1 wx g 112 ((cmpct p (l.take (k1 + j2)) ++ (q ++ [y]) ++ l.drop (k1 + j2)).flatMap Smp.cells ++ rest).toArray) ∧ Hid (w.grownBy wx (some g))) (fun _ vj _ => n - (intOf vj).toNat)
        case atStart => exact ⟨1, k1, [], x, rfl, rfl, Nat.le_refl _, by omega, HCL, by simp, by simp, HX, HWS, HG5⟩
        case round =>
          obtain ⟨j2, i, q, y2, rfl, rfl, hj1, hjn, hil, hq1, hq2, hy2, hWx, hgx⟩ := hrel
          by_cases hlt2 : k1 + j2 < n
          · obtain ⟨wy, rfl⟩ : ∃ wy : World, wy = wr := ⟨_, rfl⟩
            obtain ⟨x2, hx2⟩ : ∃ x2, l[k1 + j2]? = some x2 := ⟨l[k1 + j2]'(by rw [HL.out]; exact hlt2), List.getElem?_eq_getElem _⟩
            have hdrop : l.drop (k1 + j2) = x2 :: l.drop (k1 + j2 + 1) := by
              obtain ⟨h1, h2⟩ := List.getElem?_eq_some_iff.1 hx2
              rw [List.drop_eq_getElem_cons h1, h2]
            have hW := hWx.out
            rw [hdrop] at hW
            have hstep := cmpct_step p (l := l) (j := k1 + j2 - 1) (x := x2) (y := y2) (by rw [show k1 + j2 - 1 + 1 = k1 + j2 from by omega]; exact hx2) hy2.out
            rw [show k1 + j2 - 1 + 2 = k1 + j2 + 1 from by omega, show k1 + j2 - 1 + 1 = k1 + j2 from by omega] at hstep
            obtain ⟨F, hF⟩ : ∃ F, cmpct p (l.take (k1 + j2)) = F := ⟨_, rfl⟩
            obtain ⟨r, hr⟩ : ∃ r, l.drop (k1 + j2 + 1) = r := ⟨_, rfl⟩
            have hFl := hil.out
            rw [hF] at hstep hW hFl
            rw [hr] at hW
            have hjl : (F ++ (q ++ [y2])).length = k1 + j2 := by simp only [List.length_append, List.length_singleton]; omega
            have hxx : (F ++ (q ++ [y2]) ++ x2 :: r)[k1 + j2]? = some x2 := by
              rw [List.getElem?_append_right (by omega), hjl, Nat.sub_self]; rfl
            obtain ⟨j3, hj3⟩ : ∃ j3, j2 = j3 + 1 := ⟨j2 - 1, by omega⟩
            have hyy : (F ++ (q ++ [y2]) ++ x2 :: r)[k1 + j3]? = some y2 := by
              rw [List.getElem?_append_left (by omega), List.getElem?_append_right (by omega), List.getElem?_append_right (by omega), show k1 + j3 - F.length - q.length = 0 from by omega]; rfl
            have d0 : wy.cell? ⟨g, k1 * 2 + j2 * 2, none⟩ = some (.int .i64 x2.t) := by rw [← Nat.add_mul]; exact whole_at hk hW hxx 0 (by omega)
            have d1 : wy.cell? ⟨g, k1 * 2 + j2 * 2 + 1, none⟩ = some (.int .u64 ((x2.v : Nat) : Int)) := by rw [← Nat.add_mul]; exact whole_at hk hW hxx 1 (by omega)
            have e0 : wy.cell? ⟨g, k1 * 2 + j3 * 2, none⟩ = some (.int .i64 y2.t) := by rw [← Nat.add_mul]; exact whole_at hk hW hyy 0 (by omega)
            have e1 : wy.cell? ⟨g, k1 * 2 + j3 * 2 + 1, none⟩ = some (.int .u64 ((y2.v : Nat) : Int)) := by rw [← Nat.add_mul]; exact whole_at hk hW hyy 1 (by omega)
            have hil2 : i < (F ++ (q ++ [y2]) ++ x2 :: r).length := by simp only [List.length_append, List.length_cons]; omega
            obtain ⟨q', hs1, hs2⟩ := cmp_set F q y2 x2 r
            rw [hFl] at hs1
            have hcon2 : Hid (∀ D os, Calls Tryz.prog f (#[.agg #[.int .i64 x2.t, .int .u64 ((x2.v : Nat) : Int)], .agg #[.int .i64 y2.t, .int .u64 ((y2.v : Nat) : Int)]] ++ cb) (Sort.grow (redrawn wy D) os) fun e w'' => e = .returned (.bool (p x2 y2)) ∧ ∃ q : Regrown, w'' = Sort.grow (redrawn wy q.d) q.os) :=
              hidden fun D os => Calls.regrown_of (HP.out x2 (List.mem_of_getElem? hx2) y2 (List.mem_of_getElem? hy2.out) _ (gb_trans hgx.out (gb_below (below_regrown wy D os) _)))
            have t1 : IntKind.i64.wrap ((j2 : Int) - 1) = (j3 : Int) := by rw [IntKind.wrap_i64]; omega
            have t2 : (j2 : Int) < ((n - k1 : Nat) : Int) := by omega
            have t3 : (0 : Int) ≤ (j2 : Int) := by omega
            have t4 : (j3 : Int) < ((n - k1 : Nat) : Int) := by omega
            have t5 : (0 : Int) ≤ (j3 : Int) := by omega
            have t6 : j2 < n - k1 := by omega
            have t7 : j3 < n - k1 := by omega
            obtain ⟨y3, hy3⟩ : ∃ y3, (F ++ (q ++ [y2]) ++ x2 :: r)[i]? = some y3 := ⟨_, List.getElem?_eq_getElem hil2⟩
            have HY3 := hidden hy3
            have HF := hidden hF
            have HR := hidden hr
            have HST2 := hidden hstep
            have HS1 := hidden hs1
            have HS2 := hidden hs2
            have HX2 := hidden hx2
            have HJ3 := hidden hj3
            have HFL := hidden hFl
            have HWW := hidden hW
            have hglw := hW.lt
            have hin : i < n := by omega
            have hiz : (i : Int) < (n : Int) := by omega
            have r0 := cell_regrown d0
            have r1 := cell_regrown d1
            have s0 := cell_regrown e0
            have s1 := cell_regrown e1
            clear hstep hx2 hdrop hF hr hjl hxx hyy hs1 hs2 hy3 hj3 hFl hW hWx d0 d1 e0 e1
            go_wp2_with fail
            refine wp_region_quiet_below (by kernel_rfl) (by kernel_rfl) ?_
            repeat (first | go_big_quiet_step (first | (go_at_fn f; exact hcon2.out _ _)) | quiet_step (first | (go_at_fn f; exact hcon2.out _ _)))
            refine wpQuiet_nil ?_
            intro _ hw'
            obtain ⟨⟨dq, osq⟩, hw''⟩ := hw'
            subst hw''
            have hb6 : Below wy.heap.size wy (Sort.grow (redrawn wy (Regrown.mk dq osq).d) (Regrown.mk dq osq).os) := below_regrown _ _ _
            generalize Sort.grow (redrawn wy (Regrown.mk dq osq).d) (Regrown.mk dq osq).os = w6 at hb6 ⊢
            have hW6 := HWW.out.below hb6 hglw
            have hG6 := gb_trans hgx.out (gb_below hb6 (some g))
            obtain ⟨b, hv⟩ : ∃ b, p x2 y2 = b := ⟨_, rfl⟩
            have hstep := HST2.out
            rw [hv] at hstep ⊢
            clear hv hb6 hgx HWW r0 r1 s0 s1 hcon2
            cases b with
            | false =>
              rw [if_neg (by decide)] at hstep
              have d0 : w6.cell? ⟨g, k1 * 2 + j2 * 2, none⟩ = some (.int .i64 x2.t) := by rw [← Nat.add_mul]; exact whole_at hk hW6 (i := k1 + j2) (x := x2) (by rw [List.getElem?_append_right (by have := HFL.out; simp only [List.length_append, List.length_singleton]; omega), show k1 + j2 - (F ++ (q ++ [y2])).length = 0 from by have := HFL.out; simp only [List.length_append, List.length_singleton]; omega]; rfl) 0 (by omega)
              have d1 : w6.cell? ⟨g, k1 * 2 + j2 * 2 + 1, none⟩ = some (.int .u64 ((x2.v : Nat) : Int)) := by rw [← Nat.add_mul]; exact whole_at hk hW6 (i := k1 + j2) (x := x2) (by rw [List.getElem?_append_right (by have := HFL.out; simp only [List.length_append, List.length_singleton]; omega), show k1 + j2 - (F ++ (q ++ [y2])).length = 0 from by have := HFL.out; simp only [List.length_append, List.length_singleton]; omega]; rfl) 1 (by omega)
              have yy0 : w6.cell? ⟨g, i * 2, none⟩ = some (.int .i64 y3.t) := whole_at hk hW6 HY3.out 0 (by omega)
              have yy1 : w6.cell? ⟨g, i * 2 + 1, none⟩ = some (.int .u64 ((y3.v : Nat) : Int)) := whole_at hk hW6 HY3.out 1 (by omega)
              have z0 := hW6.free (i * 2)
              have z1 := hW6.free (i * 2 + 1)
              have HST3 := hidden hstep
              have HW6 := hidden hW6
              clear hstep hW6
              go_wp2_with fail
              go_roundw
              case rel =>
                have hwp := puts_elem hk HW6.out hil2 x2
                rw [HS1.out] at hwp
                refine ⟨j2 + 1, i + 1, q', x2, by go_num, by go_num, by omega, by omega, ?_, by rw [HS2.out]; omega, by rw [HS2.out]; omega, ?_, ?_, ?_⟩
                · rw [Hid, show k1 + (j2 + 1) = k1 + j2 + 1 from by omega, HST3.out, List.length_append, HFL.out]; rfl
                · rw [Hid, show k1 + (j2 + 1) - 1 = k1 + j2 from by omega]; exact HX2.out
                · rw [show k1 + (j2 + 1) = k1 + j2 + 1 from by omega, HST3.out, HR.out]; exact hidden hwp
                · exact hidden (gb_trans hG6 (puts_gb x2.cells (i * 2) w6))
              case measure => simp [intOf]; omega
            | true =>
              rw [if_pos rfl] at hstep
              have HST3 := hidden hstep
              have HW6 := hidden hW6
              clear hstep hW6
              go_wp2_with fail
              go_roundw
              case rel =>
                refine ⟨j2 + 1, i, q ++ [y2], x2, rfl, by go_num, by omega, by omega, ?_, by simp; omega, by simp; omega, ?_, ?_, hidden hG6⟩
                · rw [Hid, show k1 + (j2 + 1) = k1 + j2 + 1 from by omega, HST3.out, HFL.out]
                · rw [Hid, show k1 + (j2 + 1) - 1 = k1 + j2 from by omega]; exact HX2.out
                · rw [show k1 + (j2 + 1) = k1 + j2 + 1 from by omega, HST3.out, HR.out]
                  have := HW6.out
                  rw [show F ++ (q ++ [y2]) ++ x2 :: r = F ++ (q ++ [y2] ++ [x2]) ++ r from by simp] at this
                  exact hidden this
              case measure => simp [intOf]; omega
          · have hjn2 : k1 + j2 = n := by omega
            have hd : l.drop (k1 + j2) = [] := List.drop_eq_nil_of_le (by rw [HL.out]; omega)
            have htk : l.take (k1 + j2) = l := List.take_of_length_le (by rw [HL.out]; omega)
            have hW := hWx.out
            have hFl := hil.out
            rw [hd, List.append_nil, htk] at hW
            rw [htk] at hFl
            obtain ⟨F, hF⟩ : ∃ F, cmpct p l = F := ⟨_, rfl⟩
            rw [hF] at hW hFl
            have hin : i < n := by omega
            have hsz : ((F ++ (q ++ [y2])).flatMap Smp.cells ++ rest).length = n * 2 + rest.length := by rw [List.length_append, fm_len hk, show (F ++ (q ++ [y2])).length = n from by simp only [List.length_append, List.length_singleton]; omega]
            have hcl : ∀ ty, (Builtin.clear_ #[54] ty #[.slice (some ⟨g, i * 2, none⟩) (n - i) (c - i)]).run Tryz.prog wr = .ok (.tuple #[]) (wr.setCells g (i * 2) (clearCells (n - i))) := fun ty =>
              run_clear wr ty g (i * 2) (n - i) (c - i) (by omega) (fun q hq => by
                rw [hW.cell, List.getElem?_toArray, List.getElem?_eq_getElem (by rw [hsz]; omega)]; rfl) (fun q hq => hW.free _)
            have hw' := puts_whole (clearCells (n - i)) (i * 2) wr _ hW (by rw [clear_len, hsz]; omega)
            have hg' := puts_gb (g := g) (clearCells (n - i)) (i * 2) wr
            have htake : ((F ++ (q ++ [y2])).flatMap Smp.cells ++ rest).take (i * 2) = F.flatMap Smp.cells := by
              rw [List.flatMap_append, List.append_assoc, List.take_append_of_le_length (by rw [fm_len hk, hFl]; exact Nat.le_refl _), List.take_of_length_le (by rw [fm_len hk, hFl]; exact Nat.le_refl _)]
            rw [htake, List.append_assoc] at hw'
            have hres : CmpRes g c m (cmpct p l) w (wr.setCells g (i * 2) (clearCells (n - i))) (.slice (some ⟨g, 0, none⟩) i c) := by
              rw [hF]
              refine ⟨_, by rw [hFl], by rw [hFl]; omega, hw', ?_, gb_trans hgx.out hg'⟩
              rw [← HM.out, List.length_append, List.length_append, List.length_append, fm_len hk, fm_len hk, clear_len, List.length_drop, hsz, hFl, HL.out]
              omega
            have HRES := hidden hres
            have hiz : (i : Int) < (n : Int) := by omega
            have hic : (i : Int) ≤ (c : Int) := by omega
            have t6 : ¬ (j2 : Int) < ((n - k1 : Nat) : Int) := by omega
            have t7 : ¬ j2 < n - k1 := by omega
            clear hres hw' hg' hW hWx hgx hF hFl hd htk hsz htake
            go_wp2
            go_ret
            exact ⟨_, rfl, HRES.out⟩
    · obtain rfl : n = k + 1 := by omega
      have hs := hsame.out
      rw [List.take_of_length_le (by rw [HL.out]; exact Nat.le_refl _)] at hs
      have HS := hidden hs
      have hW := hidden (HW.out.below hb hglt)
      have hkz : ¬ ((k + 1 : Nat) : Int) < ((k + 1 : Nat) : Int) := by omega
      clear hs
      go_wp2
      go_ret
      refine ⟨_, rfl, ?_⟩
      rw [HS.out]
      exact ⟨rest, by rw [HL.out]; rfl, by rw [HL.out]; exact hnc, hW.out, HM.out, gb_below hb _⟩
end Go.Proofs.YtbijjjhfekkfaaaGreat.CmpSmp
