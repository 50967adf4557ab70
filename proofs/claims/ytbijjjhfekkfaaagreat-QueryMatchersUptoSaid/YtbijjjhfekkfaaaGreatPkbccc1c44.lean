/- slices.SortStableFunc at series, whatever order: what it leaves. Condition: the order has a contract, the row is within the reach. slices.Concat at series: what it leaves. Condition: the lists together are within the reach. A list of series of the call's own whose rows are the call's own, too: what keeps when one of them turns. No condition. merge.Merge's order and its sort at series. Condition: the rows are within the reach. merge.some and the closure that Merge hands to DeleteFunc. Condition: a series' samples and windows are within the reach. -/
import Derived.Test.YtbijjjhfekkfaaaGreatStabSer
import Derived.Test.YtbijjjhfekkfaaaGreatPkeab15ca0
import Derived.Test.YtbijjjhfekkfaaaGreatPkc787b734
import Derived.Test.YtbijjjhfekkfaaaGreatBase
import Derived.Shelf.Spec.SlicesGrow
import Derived.Test.YtbijjjhfekkfaaaGreatPk812191ca
namespace Go.Proofs.YtbijjjhfekkfaaaGreat.SrtSer
set_option maxRecDepth 100000
open Go.Shelf Go.RowKit Go.Lib Go.Sort

theorem bears : StabSer.Bears Tryz.prog 3 where
  mixed := by kernel_rfl
  fsw := Tryz.func292
  frot := Tryz.func254
  fsym := Tryz.func209
  fstab := Tryz.func136
  fsort := Tryz.func66
  esw := enters_of Tryz.func292 (by kernel_rfl) rfl
  erot := enters_of Tryz.func254 (by kernel_rfl) rfl
  esym := enters_of Tryz.func209 (by kernel_rfl) rfl
  estab := enters_of Tryz.func136 (by kernel_rfl) rfl
  eins := enters_of Tryz.func208 (by kernel_rfl) rfl
  t0 := by kernel_rfl
  a0 := fun w => by kernel_rfl
  z0 := fun w => by kernel_rfl
  v0 := fun w => by kernel_rfl
  t3 := by kernel_rfl
  a3 := fun w => by kernel_rfl
  z3 := fun w => by kernel_rfl
  v3 := fun w => by kernel_rfl
  t4 := by kernel_rfl
  a4 := fun w => by kernel_rfl
  z4 := fun w => by kernel_rfl
  v4 := fun w => by kernel_rfl
  tu := by kernel_rfl
  au := fun w => by kernel_rfl
  zu := fun w => by kernel_rfl
  vu := fun w => by kernel_rfl
  ts := by kernel_rfl
  as_ := fun w => by kernel_rfl
  zs := fun w => by kernel_rfl
  vs := fun w => by kernel_rfl
  tf := by kernel_rfl
  af := fun w => by kernel_rfl
  zf := fun w => by kernel_rfl
  vf := fun w => by kernel_rfl
  aE := fun w => by kernel_rfl
  zE := fun w => by kernel_rfl

def ren : Ren := { f := fun n => if n = 20 then 208 else 0, t := fun n => if n = 0 then 0 else if n = 3 then 3 else if n = 4 then 4 else if n = 22 then 43 else if n = 24 then 57 else if n = 25 then 162 else 0, g := fun _ => 0 }
theorem lays : SlLaysF0.n20 Tryz.prog ren where
  mixed := by kernel_rfl
  f20 := ⟨_, by kernel_rfl, Tryz.func208⟩
  t0 := by kernel_rfl
  a0 := fun w => by kernel_rfl
  z0 := fun w => by kernel_rfl
  v0 := fun w => by kernel_rfl
  t3 := by kernel_rfl
  a3 := fun w => by kernel_rfl
  z3 := fun w => by kernel_rfl
  v3 := fun w => by kernel_rfl
  t4 := by kernel_rfl
  a4 := fun w => by kernel_rfl
  z4 := fun w => by kernel_rfl
  v4 := fun w => by kernel_rfl
  t22 := by kernel_rfl
  a22 := fun w => by kernel_rfl
  z22 := fun w => by kernel_rfl
  v22 := fun w => by kernel_rfl
  t25 := by kernel_rfl
  a25 := fun w => by kernel_rfl
  z25 := fun w => by kernel_rfl
  v25 := fun w => by kernel_rfl

theorem hk (x : Ser) : x.cells.length = 3 := rfl
theorem one (x : Ser) : ∀ u ∈ x.cells, u.oneCell' = true := by
  intro u hu
  simp only [Ser.cells, List.mem_cons, List.not_mem_nil, or_false] at hu
  rcases hu with rfl | rfl | rfl <;> rfl

/-- what is asked of an order -/
def CmpOk (f : FuncId) (cb : Array Value) (cf : Ser → Ser → Int) (l : List Ser) (ok : World → Prop) : Prop :=
  ∀ x ∈ l, ∀ y ∈ l, ∀ W, ok W → Calls Tryz.prog f (#[.agg #[.slice x.lab.A x.lab.n x.lab.c, .slice x.smp.A x.smp.n x.smp.c, .slice x.win.A x.win.n x.win.c], .agg #[.slice y.lab.A y.lab.n y.lab.c, .slice y.smp.A y.smp.n y.smp.c, .slice y.win.A y.win.n y.win.c]] ++ cb) W fun e w2 => e = .returned (.int .i64 (cf x y)) ∧ ∃ q os', w2 = grow (W.drewN q) os'

/-- elements of the list -/
abbrev El (l : List Ser) := {x : Ser // x ∈ l}
def eenc (l : List Ser) (u : El l × Nat) : List Value := u.1.1.cells
def ecf (l : List Ser) (cf : Ser → Ser → Int) (u v : El l × Nat) : Int := cf u.1.1 v.1.1
theorem attach_cells (l : List Ser) : (l.attach.zipIdx.toArray.toList).flatMap (eenc l) = l.flatMap Ser.cells := by
  have h : l.attach.zipIdx.toArray.toList.map (fun u : El l × Nat => u.1.1) = l := by
    have h1 : l.attach.zipIdx.map Prod.fst = l.attach := by simp
    have h2 := congrArg (List.map Subtype.val) h1
    rw [List.map_map, List.attach_map_subtype_val] at h2
    exact h2
  have h3 := List.flatMap_map (fun u : El l × Nat => u.1.1) Ser.cells l.attach.zipIdx.toArray.toList
  rw [h] at h3
  exact h3.symm

section
variable (f : FuncId) (cb : Array Value) (cf : Ser → Ser → Int) (g c : Nat) (l : List Ser) (rest : List Value)
theorem ins_ok [Inhabited (El l)] (cap : Nat) (d0 : Array (El l × Nat)) (w0 : World) (eg : ∀ args w, (callFunc f args).run Tryz.prog w = .ok (.enter f args) w) (hC : CmpLays Tryz.prog f cb (eenc l) 3 (ecf l cf) g 0 d0.size w0) (R : RowK (eenc l) 3 w0 g 0 d0) (hsz : d0.size < 4611686018427387904) :
    StabSer.InsOk (P := Tryz.prog) 3 (eenc l) (ecf l cf) f cb g 0 cap d0 w0 := by
  intro a b d w hab hb hs S
  have hC' : CmpLays Tryz.prog f cb (eenc l) 3 (ecf l cf) g 0 d.size w := by
    intro m os dk hdk x y
    obtain ⟨n0, os0, rfl⟩ := S
    have h2 := hC (n0 + m) (os0 ++ os) dk (hdk.trans hs) x y
    rw [sortWorldK_on (eenc l) 3 w0 g 0 n0 m d dk os0 os R.hblk hdk]
    exact h2
  have h := AnyQ.insertionSortCmpFunc lays 3 (fun w => by kernel_rfl) (fun w => by kernel_rfl) (eenc l) R.hk R.h1 (ecf l cf) f cb g 0 cap a b d w eg hC' (S.holds R.hblk R.hH hs) (S.lt R.hblk) hab (by omega) (by omega)
  rw [hs] at h
  refine h.mono ?_
  rintro e w' ⟨rfl, n, os, rfl⟩
  exact ⟨rfl, S.on R.hblk n _ os (insertionSort_size (ltOf (ecf l cf)) d a b)⟩
end

/-- a stable sort of l -/
def SrtRes (lt : Ser → Ser → Bool) (l S : List Ser) : Prop := S.Perm l ∧ (S.Pairwise fun x y => lt y x = false) ∧ ∀ P : Ser → Bool, (∀ x y, P x = true → P y = true → lt x y = false) → S.filter P = l.filter P
theorem swo_el {l : List Ser} {cf : Ser → Ser → Int} (h : SWO fun x y => decide (cf x y < 0)) : SWO fun x y : El l => decide (cf x.1 y.1 < 0) where
  irrefl x := h.irrefl x.1
  trans x y z := h.trans x.1 y.1 z.1
  ntrans x y z := h.ntrans x.1 y.1 z.1

/-- the sort, at none -/
theorem ins0_any (A : Option Addr) (c : Nat) (fv : Value) (w : World) : Calls Tryz.prog 208 #[.slice A 0 c, .int .i64 0, .int .i64 0, fv] w fun e w' => e = .returned (.tuple #[]) ∧ w = w' := by
  go_enter Tryz.func208, Tryz.ntmps208
  go_wp2
  refine wp_loop_rounds 1 ?_
  rw [rounds_succ]
  go_wp2
  go_end0
  exact ⟨rfl, rfl⟩
theorem stable0_any (A : Option Addr) (c : Nat) (fv : Value) (w : World) : Calls Tryz.prog 136 #[.slice A 0 c, .int .i64 0, fv] w fun e w' => e = .returned (.tuple #[]) ∧ w = w' := by
  go_enter Tryz.func136, Tryz.ntmps136
  go_wp2_with fail
  refine wp_loop_rounds 1 ?_
  rw [rounds_succ]
  go_wp2_with fail
  refine (ins0_any A c fv _).mono ?_
  rintro e w' ⟨rfl, rfl⟩
  go_wp2_with fail
  refine wp_loop_rounds 1 ?_
  rw [rounds_succ]
  go_wp2
  go_end0
  exact ⟨rfl, rfl⟩
theorem sort0_any (A : Option Addr) (c : Nat) (fv : Value) (w : World) : Calls Tryz.prog 66 #[.slice A 0 c, fv] w fun e w' => e = .returned (.tuple #[]) ∧ w = w' := by
  go_enter Tryz.func66, Tryz.ntmps66
  go_wp2_with fail
  refine (stable0_any A c fv _).mono ?_
  rintro e w' ⟨rfl, rfl⟩
  go_wp2
  go_end0
  exact ⟨rfl, rfl⟩

set_option maxHeartbeats 1600000 in
/-- THE SORT: the block holds a stable sort of what it held. -/
theorem sort_any (g c n m : Nat) (l : List Ser) (rest : List Value) (f : FuncId) (cb : Array Value) (cf : Ser → Ser → Int) (w : World) (eg : ∀ args w, (callFunc f args).run Tryz.prog w = .ok (.enter f args) w) (hlt : SWO fun x y => decide (cf x y < 0)) (hC : CmpOk f cb cf l (fun W => w.grownBy W (some g)))
    (hw : Whole1 w g 57 (l.flatMap Ser.cells ++ rest).toArray) (hm : (l.flatMap Ser.cells ++ rest).length = m) (hl : l.length = n) (hn : n < 1152921504606846976) (h0 : 0 < n) :
    Calls Tryz.prog 66 #[.slice (some ⟨g, 0, none⟩) n c, .func (.func f) #[] cb] w
      fun e w' => e = .returned (.tuple #[]) ∧ ∃ S rest', SrtRes (fun x y => decide (cf x y < 0)) l S ∧ Whole1 w' g 57 (S.flatMap Ser.cells ++ rest').toArray ∧ (S.flatMap Ser.cells ++ rest').length = m ∧ w.grownBy w' (some g) := by
  have hne : l ≠ [] := by intro h; rw [h] at hl; simp at hl; omega
  haveI : Inhabited (El l) := ⟨⟨l.head hne, List.head_mem hne⟩⟩
  obtain ⟨d0, hd0⟩ : ∃ d0 : Array (El l × Nat), d0 = l.attach.zipIdx.toArray := ⟨_, rfl⟩
  have hcs : d0.toList.flatMap (eenc l) = l.flatMap Ser.cells := by rw [hd0]; exact attach_cells l
  have hsz : d0.size = n := by rw [hd0]; simpa using hl
  have R : RowK (eenc l) 3 w g 0 d0 := by
    refine ⟨fun _ => rfl, fun x v hv => one x.1.1 v hv, holdsK_of_cells' (enc := (eenc l)) (k := 3) (off := 0) (d := d0) (fun _ => rfl) fun j hj => ⟨?_, hw.free _⟩, hw.lt⟩
    rw [hcs, Nat.zero_add, hw.cell, List.getElem?_toArray, List.getElem?_append_left (by rw [fm_len hk, hl, ← hsz]; exact hj)]
  have hL : CmpLays Tryz.prog f cb (eenc l) 3 (ecf l cf) g 0 d0.size w := by
    intro mm os dk hdk x y
    exact hC x.1.1 x.1.2 y.1.1 y.1.2 _ (sw_gb (enc := (eenc l)) (k := 3) ⟨mm, os, rfl⟩)
  have hcon := hidden (StabSer.stable_any 3 bears (eenc l) (ecf l cf) f cb g 0 c d0 w eg hL R (ins_ok f cb cf g l c d0 w eg hL R (by omega)) (by omega) w (SWK.start R.hH))
  have hstab := stab_ok (lt := fun x y : El l => decide (cf x.1 y.1 < 0)) (swo_el hlt) l.attach
  have hfin : ∀ w', SWK (eenc l) 3 w g 0 (stable (ltOf (ecf l cf)) d0.size d0) w' → ∃ S rest', SrtRes (fun x y => decide (cf x y < 0)) l S ∧ Whole1 w' g 57 (S.flatMap Ser.cells ++ rest').toArray ∧ (S.flatMap Ser.cells ++ rest').length = m ∧ w.grownBy w' (some g) := by
    intro w' hS
    have hsl : (stable (ltOf (ecf l cf)) n d0).toList.length = n := by
      have := hstab.1.length_eq
      rw [List.length_zipIdx, List.length_attach, hl] at this
      rw [hd0]
      exact this
    have hss : (stable (ltOf (ecf l cf)) d0.size d0).size = d0.size := by
      rw [hsz, ← Array.length_toList]
      exact hsl
    obtain ⟨rest', h1, h2⟩ := sw_block (l := d0.toList) (rest := rest) (m := m) hS R hss (by rw [hcs]; exact hw) (by rw [hcs]; exact hm) (by rw [hss]; simp)
    have e : (stable (ltOf (ecf l cf)) d0.size d0).toList.flatMap (eenc l) = ((stab (fun x y : El l => decide (cf x.1 y.1 < 0)) l.attach).map Subtype.val).flatMap Ser.cells := by
      unfold stab
      rw [List.flatMap_map, List.flatMap_map, List.length_attach, hl, hsz, hd0]
      rfl
    rw [e] at h1 h2
    refine ⟨_, rest', ⟨?_, ?_, ?_⟩, h1, h2, sw_gb hS⟩
    · have := (stab_perm (swo_el hlt) l.attach).map Subtype.val
      rwa [List.attach_map_subtype_val] at this
    · rw [List.pairwise_map]
      exact stab_sorted (swo_el hlt) l.attach
    · intro P hP
      have h3 := stab_filter (swo_el hlt) l.attach (fun x => P x.1) (fun x y hx hy => hP x.1 y.1 hx hy)
      have h4 := congrArg (List.map Subtype.val) h3
      have e2 : ∀ M : List (El l), (M.filter (fun x => P x.1)).map Subtype.val = (M.map Subtype.val).filter P := fun M => by rw [List.filter_map]; rfl
      rw [e2, e2, List.attach_map_subtype_val] at h4
      exact h4
  have HF := hidden hfin
  rw [hsz] at hcon
  clear hfin hstab hL R hcs hC eg hw hm
  go_enter Tryz.func66, Tryz.ntmps66
  go_wp2_with fail
  refine hcon.out.mono ?_
  rintro e w' ⟨rfl, hS⟩
  have HS := hidden (HF.out w' (by rw [hsz]; exact hS))
  clear hS
  go_wp2
  go_end0
  exact ⟨rfl, HS.out⟩
end Go.Proofs.YtbijjjhfekkfaaaGreat.SrtSer

namespace Go.Proofs.YtbijjjhfekkfaaaGreat
set_option maxRecDepth 100000
open Go.RowKit Go.Shelf

def renGrowS : Ren := { f := fun n => if n = 4 then 135 else 0, t := fun n => if n = 0 then 0 else if n = 3 then 3 else if n = 4 then 4 else if n = 9 then 9 else if n = 20 then 20 else if n = 22 then 43 else if n = 25 then 57 else 0, g := fun _ => 0 }
theorem growS_lays : Lays8.n4 Tryz.prog renGrowS where
  mixed := by kernel_rfl
  f4 := ⟨_, by kernel_rfl, Tryz.func135⟩
  t0 := by kernel_rfl
  a0 := fun w => by kernel_rfl
  z0 := fun w => by kernel_rfl
  v0 := fun w => by kernel_rfl
  t3 := by kernel_rfl
  a3 := fun w => by kernel_rfl
  z3 := fun w => by kernel_rfl
  v3 := fun w => by kernel_rfl
  t4 := by kernel_rfl
  a4 := fun w => by kernel_rfl
  z4 := fun w => by kernel_rfl
  v4 := fun w => by kernel_rfl
  t9 := by kernel_rfl
  a9 := fun w => by kernel_rfl
  z9 := fun w => by kernel_rfl
  v9 := fun w => by kernel_rfl
  t20 := by kernel_rfl
  a20 := fun w => by kernel_rfl
  z20 := fun w => by kernel_rfl
  v20 := fun w => by kernel_rfl
  t22 := by kernel_rfl
  a22 := fun w => by kernel_rfl
  z22 := fun w => by kernel_rfl
  v22 := fun w => by kernel_rfl

/-- slices.Grow at nil: a row of none with room -/
theorem growS_any (n : Nat) (hn : n ≤ 1099511627776) (hp : 0 < n) (w : World) :
    Calls Tryz.prog 135 #[.slice none 0 0, .int .i64 n] w fun e w' => ∃ v, e = .returned v ∧ w'.ownsRow w.heap.size 57 3 v 0 [] ∧ Below w.heap.size w w' := by
  obtain ⟨i0, hi, hz0, hz1, hz2⟩ := info_parts info_ser
  refine (Any8.slices_Grow_grow growS_lays i0 _ hi hz0 (by rw [hz1]; decide) none 0 0 n [] w (Nat.le_refl _) (by omega) (by rw [hz2]; omega) (by omega) (by simp) (fun _ => rfl) (fun a h => by cases h)).mono ?_
  rintro e w' ⟨rfl, rfl⟩
  refine ⟨_, rfl, ⟨rfl, .inr ⟨w.heap.size, _, _, rfl, Nat.le_refl _, Whole1.new w.drew _ _, Nat.zero_le _, grownCap_le_maxLen _ _ _ _ (by unfold maxLen; omega), ?_, by simp⟩⟩, ((Below.refl w.heap.size w).drew).alloc (Nat.le_refl _) _⟩
  have hge := grownCap_ge w (0 + n) 0 57
  show _ = grownCap w (0 + n) 0 57 * 3
  simp only [Builtin.zeroCells, Array.size_append, List.size_toArray, List.length_nil, Array.size_map, Array.size_range]
  show 0 + (0 + n - 0) * 3 + (grownCap w (0 + n) 0 57 - (0 + n)) * 3 = _
  omega

theorem sl_cell {α : Type} {w : World} {B : Nat} {A : Option Addr} {n : Nat} {S : List (Sl α)} (hr : Row w B 1 A n (S.map Sl.val)) (i : Nat) (hi : i < n) :
    ∃ g o s, A = some ⟨g, o, none⟩ ∧ g < B ∧ S[i]? = some s ∧ w.cell? ⟨g, o + i, none⟩ = some s.val := by
  obtain ⟨g, o, rfl, hg, hc⟩ := hr.at_ (by omega)
  have hl := hr.len
  rw [List.length_map, Nat.mul_one] at hl
  refine ⟨g, o, S[i]'(by omega), rfl, hg, List.getElem?_eq_getElem (by omega), ?_⟩
  rw [hc i (by omega), List.getElem?_map, List.getElem?_eq_getElem (by omega)]; rfl
/-- how many there are together -/
def total {α : Type} (S : List (Sl α)) : Nat := (S.map Sl.n).sum
theorem total_snoc {α : Type} (S : List (Sl α)) (s : Sl α) : total (S ++ [s]) = total S + s.n := by simp [total]
theorem total_take {α : Type} (S : List (Sl α)) (k : Nat) : total (S.take k) ≤ total S := by
  unfold total
  have h : (S.map Sl.n).sum = ((S.take k).map Sl.n).sum + ((S.drop k).map Sl.n).sum := by rw [← List.sum_append, ← List.map_append, List.take_append_drop]
  omega
theorem total_len {α : Type} : ∀ (S : List (Sl α)), (∀ s ∈ S, s.l.length = s.n) → (S.flatMap Sl.l).length = total S
  | [], _ => rfl
  | s :: S, h => by
    have := total_len S (fun t ht => h t (List.mem_cons_of_mem _ ht))
    rw [List.flatMap_cons, List.length_append, this, h s (List.mem_cons_self ..)]
    simp [total]
theorem serCells_one (l : List Ser) : ∀ u ∈ serCells l, u.oneCell' = true := by
  intro u hu
  simp only [serCells, Ser.cells, List.mem_flatMap, List.mem_cons, List.not_mem_nil, or_false] at hu
  obtain ⟨s, _, rfl | rfl | rfl⟩ := hu <;> rfl

set_option maxHeartbeats 3200000 in
theorem concat_any (A : Option Addr) (n c : Nat) (LL : List (Sl Ser)) (w : World) (hr : Row w w.heap.size 1 A n (LL.map Sl.val)) (hl : LL.length = n) (hat : ∀ s ∈ LL, s.At w w.heap.size 3 Ser.cells) (ht : total LL ≤ 1099511627776) (hn : n ≤ 4611686018427387904) :
    Calls Tryz.prog 65 #[.slice A n c] w fun e w' => ∃ v, e = .returned v ∧ w'.ownsRow w.heap.size 57 3 v (total LL) (serCells (LL.flatMap Sl.l)) ∧ Below w.heap.size w w' := by
  obtain ⟨i0, hi, hz0, hz1, hz2⟩ := info_parts info_ser
  have hL := hidden hl
  have HR := hidden hr
  have HT := hidden (fun k => total_take LL k)
  clear hl hr
  go_enter Tryz.func65, Tryz.ntmps65
  go_wp2
  go_loop [3, 11] (fun vs vi => ∃ k : Nat, vi = .int .i64 k ∧ k ≤ n ∧ vs = .int .i64 (total (LL.take k) : Nat)) (fun _ vi => n - (intOf vi).toNat)
  case atStart => exact ⟨0, rfl, Nat.zero_le _, rfl⟩
  case round =>
    obtain ⟨k, rfl, hk, rfl⟩ := hrel
    by_cases hlt : k < n
    · obtain ⟨g, o, s, rfl, _, hs, hc⟩ := sl_cell HR.out k hlt
      have hts : total (LL.take (k + 1)) = total (LL.take k) + s.n := by rw [take_snoc? hs, total_snoc]
      have h1 := HT.out (k + 1)
      have HTS := hidden hts
      have h2 : total (LL.take k) + s.n ≤ 1099511627776 := by omega
      obtain ⟨sA, sn, sc, sl⟩ := s
      simp only [Sl.val] at hc h2 HTS
      have hkz : (k : Int) < (n : Int) := by omega
      have hk0 : (0 : Int) ≤ (k : Int) := by omega
      obtain ⟨T, hT⟩ : ∃ T, total (LL.take k) = T := ⟨_, rfl⟩
      rw [hT] at h2 ⊢
      have HTT := hidden hT
      have hz : ¬ ((T : Int) + (sn : Int)) < 0 := by omega
      clear hts h1 hs hT
      go_wp2
      go_round
      case rel => exact ⟨k + 1, by go_num, by omega, by rw [HTS.out, HTT.out]; go_num⟩
      case measure => simp [intOf]; omega
    · obtain rfl : k = n := by omega
      rw [List.take_of_length_le (by rw [hL.out]; exact Nat.le_refl _)]
      have hkz : ¬ (k : Int) < (k : Int) := by omega
      obtain ⟨T, hT⟩ : ∃ T, total LL = T := ⟨_, rfl⟩
      rw [hT] at ht ⊢
      have HTT := hidden hT
      clear hT
      have hgrow : Calls Tryz.prog 135 #[.slice none 0 0, .int .i64 T] w fun e w' => ∃ v, e = .returned v ∧ w'.ownsRow w.heap.size 57 3 v 0 [] ∧ Below w.heap.size w w' := by
        rcases Nat.eq_zero_or_pos T with h0 | h0
        · subst h0
          refine (Any8.slices_Grow_room growS_lays none 0 0 0 w (Nat.le_refl _) (by omega) (by omega) (Nat.le_refl _)).mono ?_
          rintro e w' ⟨rfl, rfl⟩
          exact ⟨_, rfl, World.ownsRow_nil _ _ _ _, Below.refl _ _⟩
        · exact growS_any T ht h0 w
      have HG := hidden hgrow
      clear hgrow
      go_wp2_with fail
      refine HG.out.mono ?_
      rintro e w1 ⟨v1, rfl, ho1, hb1⟩
      have HO1 := hidden ho1
      clear ho1 HG
      go_wp2_with fail
      go_loopw [6, 27] (fun v vi wr => ∃ (j : Nat) (vo : Value), vo = v ∧ vi = .int .i64 j ∧ j ≤ k ∧ wr.ownsRow w.heap.size 57 3 v (total (LL.take j)) (serCells ((LL.take j).flatMap Sl.l)) ∧ Below w.heap.size w wr) (fun _ vi _ => k - (intOf vi).toNat)
      case atStart => exact ⟨0, _, rfl, rfl, Nat.zero_le _, HO1.out, hb1⟩
      case round =>
        obtain ⟨j, vo, rfl, rfl, hj, hown, hb⟩ := hrel
        by_cases hjl : j < k
        · obtain ⟨g, o, s, rfl, _, hs, hc⟩ := sl_cell (HR.out.below hb) j hjl
          have hts : total (LL.take (j + 1)) = total (LL.take j) + s.n := by rw [take_snoc? hs, total_snoc]
          have hfs : serCells ((LL.take (j + 1)).flatMap Sl.l) = serCells ((LL.take j).flatMap Sl.l) ++ serCells s.l := by
            rw [take_snoc? hs, List.flatMap_append]
            simp [serCells]
          have h1 := HT.out (j + 1)
          rw [HTT.out] at h1
          have hsr := ((hat s (List.mem_of_getElem? hs)).below hb).2.2
          have HTS := hidden hts
          have HFS := hidden hfs
          have h2 : total (LL.take j) + s.n ≤ 1099511627776 := by omega
          obtain ⟨sA, sn, sc, sl⟩ := s
          simp only [Sl.val] at hc h2 hsr HTS HFS
          have hjz : (j : Int) < (k : Int) := by omega
          have hj0 : (0 : Int) ≤ (j : Int) := by omega
          have hbs := hb.size
          clear hts hfs h1 hs
          go_wp2_with (at_builtin; refine wpList_app _ rfl _ _ 43 rfl w.heap.size 57 i0 _ 3 72 Tryz.underlying43 hi hz0 hz1 hz2 rfl (by decide) _ _ _ rfl hown _ _ _ _ _ rfl hsr (serCells_one sl) (by unfold maxLen; omega) (by omega) hbs ?_; intro v9 w9 hown9 hg9 hat9)
          go_roundw
          case rel => exact ⟨j + 1, v9, rfl, by go_num, by omega, by rw [HTS.out, HFS.out]; exact hown9, hb.grown hg9 hbs (fun q hq => (hown.lt q hq).1)⟩
          case measure => simp [intOf]; omega
        · obtain rfl : j = k := by omega
          rw [List.take_of_length_le (by rw [hL.out]; exact Nat.le_refl _)] at hown
          have hjz : ¬ (j : Int) < (j : Int) := by omega
          go_wp2_with fail
          go_ret
          exact ⟨_, rfl, by rw [← HTT.out]; exact hown, hb⟩
end Go.Proofs.YtbijjjhfekkfaaaGreat

namespace Go.Proofs.YtbijjjhfekkfaaaGreat
set_option maxRecDepth 100000
open Go.RowKit

def smpT : TypeId := 112
def winT : TypeId := 159
def lblT : TypeId := 114
def serT : TypeId := 57
/-- its own blocks -/
def Ser.blk (y : Ser) (q : Nat) : Prop := y.smp.val.ownBlock = some q ∨ y.win.val.ownBlock = some q

structure SerOwn (w : World) (base : Nat) (y : Ser) : Prop where
  lab : y.lab.At w w.heap.size 2 Lbl.cells
  smp : w.ownsRow base smpT 2 y.smp.val y.smp.n (y.smp.l.flatMap Smp.cells)
  win : w.ownsRow base winT 6 y.win.val y.win.n (y.win.l.flatMap Win.cells)
  lens : y.smp.l.length = y.smp.n ∧ y.win.l.length = y.win.n
  inner : ∀ q, y.smp.val.ownBlock = some q → y.win.val.ownBlock = some q → False
  self : ∀ q, y.blk q → y.lab.Off (some q)
  labown : 0 < y.lab.n → w.ownsRow base lblT 2 y.lab.val y.lab.n (lblCells y.lab.l)
/-- its own block is none of the others' -/
theorem Sl.off_block {α : Type} {s : Sl α} {X : Option Nat} (h : s.Off X) (hn : 0 < s.n) : s.val.ownBlock = none ∨ s.val.ownBlock ≠ X := by
  obtain ⟨A, n, c, l⟩ := s
  cases A with
  | none => exact .inl rfl
  | some a => exact .inr (h hn a rfl)

theorem SerOwn.lt {w : World} {base : Nat} {y : Ser} (h : SerOwn w base y) {q : Nat} (hq : y.blk q) : base ≤ q ∧ q < w.heap.size := by
  rcases hq with hq | hq
  · exact h.smp.lt q hq
  · exact h.win.lt q hq
theorem SerOwn.at_ {w : World} {base : Nat} {y : Ser} (h : SerOwn w base y) : y.At w w.heap.size := by
  obtain ⟨A, c, e, hc, hr⟩ := own_shape h.smp
  obtain ⟨A2, c2, e2, hc2, hr2⟩ := own_shape h.win
  obtain ⟨⟨Al, nl, cl, ll⟩, ⟨As, ns, cs, ls⟩, ⟨Aw, nw, cw, lw⟩⟩ := y
  simp only [Sl.val, Value.slice.injEq] at e e2
  obtain ⟨rfl, _, rfl⟩ := e
  obtain ⟨rfl, _, rfl⟩ := e2
  exact ⟨h.lab, ⟨hc, h.lens.1, hr⟩, ⟨hc2, h.lens.2, hr2⟩⟩
/-- it keeps when a block turns that is none of its own -/
theorem SerOwn.grown {w w' : World} {base : Nat} {y : Ser} {X : Option Nat} (h : SerOwn w base y) (hg : w.grownBy w' X) (hX : ∀ q, X = some q → ¬ y.blk q ∧ y.lab.Off (some q)) : SerOwn w' base y := by
  have hkeep : ∀ (v : Value), (∀ q, v.ownBlock = some q → y.blk q) → (v.ownBlock = none ∨ v.ownBlock ≠ X) := fun v hv => by
    cases hb : v.ownBlock with
    | none => exact .inl rfl
    | some q => exact .inr fun e => (hX q e.symm).1 (hv q hb)
  refine ⟨?_, h.smp.kept hg (hkeep _ fun q hq => .inl hq), h.win.kept hg (hkeep _ fun q hq => .inr hq), h.lens, h.inner, h.self, fun hn => (h.labown hn).kept hg (Sl.off_block ?_ hn)⟩
  · refine (h.lab.grown hg ?_ (Nat.le_refl _)).more hg.size
    cases X with
    | none => exact Sl.off_none _
    | some q => exact (hX q rfl).2
  · cases X with
    | none => exact Sl.off_none _
    | some q => exact (hX q rfl).2

/-- a list of series of the call's own, their rows as well -/
structure MOut (w : World) (base : Nat) (v : Value) (L : List Ser) : Prop where
  row : w.ownsRow base serT 3 v L.length (serCells L)
  own : ∀ y ∈ L, SerOwn w base y
  out : ∀ y ∈ L, ∀ q, v.ownBlock = some q → ¬ y.blk q ∧ y.lab.Off (some q)
  sep : ∀ (i j : Nat) (y z : Ser), L[i]? = some y → L[j]? = some z → i ≠ j → ∀ q, y.blk q → ¬ z.blk q ∧ z.lab.Off (some q)
theorem MOut.nil (w : World) (base : Nat) : MOut w base (.slice none 0 0) [] := ⟨World.ownsRow_nil _ _ _ _, by simp, by simp, by simp⟩
theorem MOut.below {w w' : World} {base : Nat} {v : Value} {L : List Ser} (h : MOut w base v L) (hb : Below w.heap.size w w') : MOut w' base v L :=
  ⟨own_below h.row hb (Nat.le_refl _), fun y hy => (h.own y hy).grown (gb_below hb none) (fun q hq => by cases hq), h.out, h.sep⟩

/-- one of them turned: its rows, then its head -/
theorem MOut.upd {w w' w'' : World} {base i : Nat} {v : Value} {L : List Ser} {y y' : Ser} {X : Option Nat} (h : MOut w base v L) (hi : L[i]? = some y) (hg : w.grownBy w' X) (hX : ∀ q, X = some q → y.blk q) (hy : SerOwn w' base y')
    (hlab : y'.lab = y.lab) (hblk : ∀ q, y'.blk q → y.blk q ∨ w.heap.size ≤ q) (hrow : w''.ownsRow base serT 3 v L.length (serCells (L.set i y'))) (hg2 : w'.grownBy w'' v.ownBlock) : MOut w'' base v (L.set i y') := by
  have hil := (List.getElem?_eq_some_iff.1 hi).1
  have hym := List.mem_of_getElem? hi
  have hv : ∀ q, v.ownBlock = some q → q < w.heap.size := fun q hq => (h.row.lt q hq).2
  -- what each of the new list is
  have hcase : ∀ (j : Nat) (z : Ser), (L.set i y')[j]? = some z → (j = i ∧ z = y') ∨ (j ≠ i ∧ L[j]? = some z) := by
    intro j z hz
    by_cases hj : i = j
    · subst hj
      rw [List.getElem?_set_self hil] at hz
      injection hz with hz
      exact .inl ⟨rfl, hz.symm⟩
    · rw [List.getElem?_set_ne hj] at hz
      exact .inr ⟨fun e => hj e.symm, hz⟩
  have hy'out : ∀ q, v.ownBlock = some q → ¬ y'.blk q ∧ y'.lab.Off (some q) := by
    intro q hq
    refine ⟨fun hb => ?_, by rw [hlab]; exact (h.out y hym q hq).2⟩
    rcases hblk q hb with hb | hb
    · exact (h.out y hym q hq).1 hb
    · have := hv q hq; omega
  refine ⟨by rw [List.length_set]; exact hrow, fun z hz => ?_, fun z hz q hq => ?_, fun j k a b ha hb hjk q hq => ?_⟩
  · obtain ⟨j, hj⟩ := List.getElem?_of_mem hz
    rcases hcase j z hj with ⟨_, rfl⟩ | ⟨hji, hz'⟩
    · exact hy.grown hg2 hy'out
    · refine ((h.own z (List.mem_of_getElem? hz')).grown hg (fun q hq => ?_)).grown hg2 (h.out z (List.mem_of_getElem? hz'))
      exact h.sep i j y z hi hz' (fun e => hji e.symm) q (hX q hq)
  · obtain ⟨j, hj⟩ := List.getElem?_of_mem hz
    rcases hcase j z hj with ⟨_, rfl⟩ | ⟨hji, hz'⟩
    · exact hy'out q hq
    · exact h.out z (List.mem_of_getElem? hz') q hq
  · rcases hcase j a ha with ⟨hji, rfl⟩ | ⟨hji, ha'⟩
    · rcases hcase k b hb with ⟨hki, rfl⟩ | ⟨hki, hb'⟩
      · omega
      · rcases hblk q hq with hq | hq
        · exact h.sep i k y b hi hb' (by omega) q hq
        · have hbo := h.own b (List.mem_of_getElem? hb')
          exact ⟨fun hq2 => by have := (hbo.lt hq2).2; omega, hbo.lab.off hq⟩
    · rcases hcase k b hb with ⟨hki, rfl⟩ | ⟨hki, hb'⟩
      · have := h.sep j i a y ha' hi (by omega) q hq
        refine ⟨fun hq2 => ?_, by rw [hlab]; exact this.2⟩
        rcases hblk q hq2 with hq2 | hq2
        · exact this.1 hq2
        · have := ((h.own a (List.mem_of_getElem? ha')).lt hq).2
          omega
      · exact h.sep j k a b ha' hb' hjk q hq

/-- a new one, with nothing in it yet, appended -/
theorem MOut.snoc {w w' : World} {base : Nat} {v v' : Value} {L : List Ser} {y : Ser} (h : MOut w base v L) (hy : y.lab.At w w.heap.size 2 Lbl.cells) (hlo : 0 < y.lab.n → w.ownsRow base lblT 2 y.lab.val y.lab.n (lblCells y.lab.l)) (hys : y.smp = Sl.nil) (hyw : y.win = Sl.nil) (hoff : ∀ z ∈ L, ∀ q, z.blk q → y.lab.Off (some q)) (hov : ∀ q, v.ownBlock = some q → y.lab.Off (some q))
    (hg : w.grownBy w' v.ownBlock) (hat : v'.ownBlock = v.ownBlock ∨ ∃ q, v'.ownBlock = some q ∧ w.heap.size ≤ q) (hrow : w'.ownsRow base serT 3 v' (L.length + 1) (serCells L ++ [y.lab.val, y.smp.val, y.win.val])) : MOut w' base v' (L ++ [y]) := by
  have hyb : ∀ q, ¬ y.blk q := fun q hq => by
    unfold Ser.blk at hq
    rw [hys, hyw] at hq
    rcases hq with hq | hq <;> cases hq
  have hyo : SerOwn w' base y := by
    refine ⟨(hy.grown hg ?_ (Nat.le_refl _)).more hg.size, ?_, ?_, ?_, fun q hq _ => hyb q (.inl hq), fun q hq => absurd hq (hyb q), fun hn => (hlo hn).kept hg (Sl.off_block ?_ hn)⟩
    · cases hv : v.ownBlock with
      | none => exact Sl.off_none _
      | some q => exact hov q hv
    · rw [hys]; exact World.ownsRow_nil _ _ _ _
    · rw [hyw]; exact World.ownsRow_nil _ _ _ _
    · rw [hys, hyw]; exact ⟨rfl, rfl⟩
    · cases hv : v.ownBlock with
      | none => exact Sl.off_none _
      | some q => exact hov q hv
  have hall : ∀ z ∈ L, SerOwn w' base z := fun z hz => (h.own z hz).grown hg (h.out z hz)
  refine ⟨by rw [List.length_append, serCells_snoc]; exact hrow, fun z hz => ?_, fun z hz q hq => ?_, fun i j a b ha hb hij q hq => ?_⟩
  · rcases List.mem_append.1 hz with hz | hz
    · exact hall z hz
    · rw [List.mem_singleton.1 hz]; exact hyo
  · rcases hat with e | ⟨q2, e, hq2⟩
    · rw [e] at hq
      rcases List.mem_append.1 hz with hz | hz
      · exact h.out z hz q hq
      · rw [List.mem_singleton.1 hz]; exact ⟨hyb q, hov q hq⟩
    · rw [e] at hq
      injection hq with hq
      subst hq
      rcases List.mem_append.1 hz with hz | hz
      · have ho := h.own z hz
        exact ⟨fun hb => by have := (ho.lt hb).2; omega, ho.lab.off hq2⟩
      · rw [List.mem_singleton.1 hz]; exact ⟨hyb _, hy.off hq2⟩
  · have hbd : ∀ (k : Nat) (z : Ser), (L ++ [y])[k]? = some z → L[k]? = some z ∨ z = y := by
      intro k z hz
      rcases Nat.lt_or_ge k L.length with hk | hk
      · rw [List.getElem?_append_left hk] at hz
        exact .inl hz
      · rw [List.getElem?_append_right hk] at hz
        exact .inr (List.mem_singleton.1 (List.mem_of_getElem? hz))
    rcases hbd i a ha with ha' | rfl
    · rcases hbd j b hb with hb' | rfl
      · exact h.sep i j a b ha' hb' hij q hq
      · exact ⟨hyb q, hoff a (List.mem_of_getElem? ha') q hq⟩
    · exact absurd hq (hyb q)
end Go.Proofs.YtbijjjhfekkfaaaGreat

namespace Go.Proofs.YtbijjjhfekkfaaaGreat
set_option maxRecDepth 100000
open Go.RowKit Go.Shelf

set_option maxHeartbeats 1600000 in
theorem mergeCmp_any (x y : Ser) (w : World) (b : Nat) (hx : x.lab.At w b 2 Lbl.cells) (hy : y.lab.At w b 2 Lbl.cells) (hb : b ≤ w.heap.size) (hxn : x.lab.n ≤ 4611686018427387904) (hyn : y.lab.n ≤ 4611686018427387904) :
    Calls Tryz.prog 67 #[.agg #[.slice x.lab.A x.lab.n x.lab.c, .slice x.smp.A x.smp.n x.smp.c, .slice x.win.A x.win.n x.win.c], .agg #[.slice y.lab.A y.lab.n y.lab.c, .slice y.smp.A y.smp.n y.smp.c, .slice y.win.A y.win.n y.win.c]] w
      fun e w' => e = .returned (.int .i64 (cmpLs x.lab.l y.lab.l)) ∧ Gr w w' := by
  have HX := hidden hx
  have HY := hidden hy
  clear hx hy
  go_enter Tryz.func67, Tryz.ntmps67
  go_wp2_with fail
  have hG : Gr w ((w.alloc (.cells #[.slice x.lab.A x.lab.n x.lab.c, .slice x.smp.A x.smp.n x.smp.c, .slice x.win.A x.win.n x.win.c] 57)).alloc (.cells #[.slice y.lab.A y.lab.n y.lab.c, .slice y.smp.A y.smp.n y.smp.c, .slice y.win.A y.win.n y.win.c] 57)) := ((Gr.refl _).alloc _).alloc _
  have hB := hG.below
  have hs := hB.size
  refine (lcompare_any _ _ _ _ _ _ x.lab.l y.lab.l _ b b (HX.out.2.2.keep fun g hg => hB.block g (by omega)) (HY.out.2.2.keep fun g hg => hB.block g (by omega)) (by omega) (by omega) HX.out.2.1 HY.out.2.1 hxn hyn).mono ?_
  rintro e w' ⟨rfl, hG2⟩
  go_wp2
  go_ret
  exact ⟨rfl, hG.trans hG2⟩

theorem swo_lab : Go.Sort.SWO fun x y : Ser => decide (cmpLs x.lab.l y.lab.l < 0) where
  irrefl x := tri_Ls.swo.irrefl x.lab.l
  trans x y z := tri_Ls.swo.trans x.lab.l y.lab.l z.lab.l
  ntrans x y z := tri_Ls.swo.ntrans x.lab.l y.lab.l z.lab.l

/-- the sort of all series by their labels -/
theorem sortAll_any (v : Value) (n base : Nat) (l : List Ser) (w : World) (hown : w.ownsRow base 57 3 v n (serCells l)) (hl : l.length = n) (hn : n ≤ 1099511627776) (hlab : ∀ x ∈ l, x.lab.At w base 2 Lbl.cells) (hbase : base ≤ w.heap.size) (hlabn : ∀ x ∈ l, x.lab.n ≤ 4611686018427387904) :
    Calls Tryz.prog 66 #[v, .func (.func 67) #[] #[]] w
      fun e w' => e = .returned (.tuple #[]) ∧ ∃ S, SrtSer.SrtRes (fun x y => decide (cmpLs x.lab.l y.lab.l < 0)) l S ∧ (∃ A c, v = .slice A n c ∧ n ≤ c ∧ Row w' w'.heap.size 3 A n (serCells S)) ∧ w.grownBy w' v.ownBlock := by
  rcases Nat.eq_zero_or_pos n with h0 | h0
  · subst h0
    obtain rfl : l = [] := List.eq_nil_of_length_eq_zero hl
    obtain ⟨A, c, rfl, hc, _⟩ := own_shape hown
    refine (SrtSer.sort0_any A c _ w).mono ?_
    rintro e w' ⟨rfl, rfl⟩
    exact ⟨rfl, [], ⟨List.Perm.refl _, List.Pairwise.nil, fun _ _ => rfl⟩, ⟨A, c, rfl, hc, Row.nil⟩, gb_refl _ _⟩
  · obtain ⟨g, c, rest, rfl, hg, hw, hnc, hc, _, hm⟩ := own_whole_g SrtSer.hk hown h0
    refine (SrtSer.sort_any g c n (c * 3) l rest _ #[] (fun x y => cmpLs x.lab.l y.lab.l) w (enters_of Tryz.func67 (by kernel_rfl) rfl) swo_lab (fun x hx y hy W hW => ?_) hw hm hl (by omega) h0).mono ?_
    · have hoff : ∀ z ∈ l, z.lab.At W base 2 Lbl.cells := fun z hz => (hlab z hz).grown hW ((hlab z hz).off hg) hbase
      exact mergeCmp_any x y W base (hoff x hx) (hoff y hy) (Nat.le_trans hbase hW.size) (hlabn x hx) (hlabn y hy)
    · rintro e w' ⟨rfl, S, rest', hS, hw', hm', hg'⟩
      exact ⟨rfl, S, hS, ⟨_, c, rfl, hnc, row_of_whole SrtSer.hk hw' (by rw [hS.1.length_eq]; exact hl)⟩, hg'⟩
end Go.Proofs.YtbijjjhfekkfaaaGreat

namespace Go.Proofs.YtbijjjhfekkfaaaGreat
set_option maxRecDepth 100000
open Go.RowKit Go.Shelf

/-- does it hold anything? -/
def full (x : Ser) : Bool := decide (0 < x.smp.n + x.win.n)

theorem some_any (x : Ser) (w : World) (hn : x.smp.n + x.win.n ≤ 1099511627776) : Calls Tryz.prog 76 #[.agg #[.slice x.lab.A x.lab.n x.lab.c, .slice x.smp.A x.smp.n x.smp.c, .slice x.win.A x.win.n x.win.c]] w fun e w' => e = .returned (.bool (full x)) ∧ Below w.heap.size w w' := by
  go_enter Tryz.func76, Tryz.ntmps76
  go_wp2_with fail
  go_ret
  refine ⟨?_, (Below.refl _ _).alloc (Nat.le_refl _) _⟩
  refine ret_bool ?_
  unfold full
  have h : (0 : Int) < (x.smp.n : Int) + (x.win.n : Int) ↔ 0 < x.smp.n + x.win.n := by omega
  exact decide_eq_decide.2 h

theorem gone_any (x : Ser) (w : World) (hn : x.smp.n + x.win.n ≤ 1099511627776) : Calls Tryz.prog 75 #[.agg #[.slice x.lab.A x.lab.n x.lab.c, .slice x.smp.A x.smp.n x.smp.c, .slice x.win.A x.win.n x.win.c]] w fun e w' => e = .returned (.bool (!full x)) ∧ Below w.heap.size w w' := by
  have S := fun W => some_any x W hn
  go_enter Tryz.func75, Tryz.ntmps75
  go_wp2_with fail
  refine (S _).mono ?_
  rintro e w1 ⟨rfl, hb⟩
  have hb1 := ((Below.refl w.heap.size w).alloc (Nat.le_refl _) (.cells #[.slice x.lab.A x.lab.n x.lab.c, .slice x.smp.A x.smp.n x.smp.c, .slice x.win.A x.win.n x.win.c] 57)).trans (hb.mono (by simp))
  clear hb
  go_wp2_with fail
  go_ret
  exact ⟨rfl, hb1⟩
end Go.Proofs.YtbijjjhfekkfaaaGreat
