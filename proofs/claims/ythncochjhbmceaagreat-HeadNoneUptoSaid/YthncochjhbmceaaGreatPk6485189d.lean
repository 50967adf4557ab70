/- slices.SortFunc at series, whatever order: what it leaves. Condition: the order has a contract, the row is within the reach. slices.IndexFunc and slices.ContainsFunc at times that a record takes away, whatever predicate: what they return. Condition: the predicate has a contract, the row is within the reach. A head, plainly: a plan, its record, and what it makes of the head. No program is walked here. What came in, opened, with its bulk in sum. No condition. -/
import Derived.Test.YthncochjhbmceaaGreatPkc251b86b
import Derived.Test.YthncochjhbmceaaGreatPk8f29ada1
import Derived.Shelf.SlSortCmp.WholeK
import Derived.Test.YthncochjhbmceaaGreatPkb5fb2d9c
import Derived.Test.YthncochjhbmceaaGreatPk0d6c2eab
import Derived.Test.YthncochjhbmceaaGreatPkdffa1c1c
import Derived.Test.YthncochjhbmceaaGreatPk5edf48dd
namespace Go.Proofs.YthncochjhbmceaaGreat.SrfSer
set_option maxRecDepth 100000
open Go.Shelf Go.RowKit Go.Lib Go.Sort

def ren : Ren := { f := fun n => if n = 6 then 51 else if n = 14 then 85 else if n = 15 then 86 else if n = 20 then 131 else if n = 21 then 132 else if n = 22 then 133 else if n = 23 then 134 else if n = 24 then 135 else if n = 25 then 136 else if n = 26 then 137 else if n = 27 then 138 else if n = 28 then 139 else if n = 29 then 140 else if n = 46 then 167 else if n = 47 then 168 else if n = 48 then 169 else if n = 49 then 170 else if n = 50 then 171 else if n = 57 then 193 else 0, t := fun n => if n = 0 then 0 else if n = 3 then 3 else if n = 4 then 4 else if n = 5 then 5 else if n = 9 then 9 else if n = 22 then 57 else if n = 24 then 73 else if n = 25 then 148 else if n = 39 then 214 else if n = 45 then 260 else if n = 46 then 261 else if n = 50 then 103 else if n = 53 then 267 else if n = 55 then 66 else if n = 66 then 311 else if n = 70 then 315 else if n = 76 then 341 else if n = 77 then 342 else 0, g := fun _ => 0 }
theorem lays : SlLaysF0.n6 Tryz.prog ren where
  mixed := by kernel_rfl
  f6 := ⟨_, by kernel_rfl, Tryz.func51⟩
  f14 := ⟨_, by kernel_rfl, Tryz.func85⟩
  f15 := Tryz.func86
  f20 := ⟨_, by kernel_rfl, Tryz.func131⟩
  f21 := ⟨_, by kernel_rfl, Tryz.func132⟩
  f22 := ⟨_, by kernel_rfl, Tryz.func133⟩
  f23 := ⟨_, by kernel_rfl, Tryz.func134⟩
  f24 := ⟨_, by kernel_rfl, Tryz.func135⟩
  f25 := ⟨_, by kernel_rfl, Tryz.func136⟩
  f26 := ⟨_, by kernel_rfl, Tryz.func137⟩
  f27 := ⟨_, by kernel_rfl, Tryz.func138⟩
  f28 := Tryz.func139
  f29 := Tryz.func140
  f46 := ⟨_, by kernel_rfl, Tryz.func167⟩
  f47 := Tryz.func168
  f48 := Tryz.func169
  f49 := ⟨_, by kernel_rfl, Tryz.func170⟩
  f50 := ⟨_, by kernel_rfl, Tryz.func171⟩
  f57 := ⟨_, by kernel_rfl, Tryz.func193⟩
  t0 := by kernel_rfl
  a0 := fun w => by kernel_rfl
  z0 := fun w => by kernel_rfl
  v0 := fun w => by kernel_rfl
  t3 := by kernel_rfl
  a3 := fun w => by kernel_rfl
  z3 := fun w => by kernel_rfl
  v3 := fun w => by kernel_rfl
  t4 := by kernel_rfl
  a4 := fun w => by kernel_rfl
  z4 := fun w => by kernel_rfl
  v4 := fun w => by kernel_rfl
  t5 := by kernel_rfl
  a5 := fun w => by kernel_rfl
  z5 := fun w => by kernel_rfl
  v5 := fun w => by kernel_rfl
  t9 := by kernel_rfl
  a9 := fun w => by kernel_rfl
  z9 := fun w => by kernel_rfl
  v9 := fun w => by kernel_rfl
  t22 := by kernel_rfl
  a22 := fun w => by kernel_rfl
  z22 := fun w => by kernel_rfl
  v22 := fun w => by kernel_rfl
  t25 := by kernel_rfl
  a25 := fun w => by kernel_rfl
  z25 := fun w => by kernel_rfl
  v25 := fun w => by kernel_rfl
  t39 := by kernel_rfl
  a39 := fun w => by kernel_rfl
  z39 := fun w => by kernel_rfl
  v39 := fun w => by kernel_rfl
  t45 := by kernel_rfl
  a45 := fun w => by kernel_rfl
  z45 := fun w => by kernel_rfl
  v45 := fun w => by kernel_rfl
  t46 := by kernel_rfl
  a46 := fun w => by kernel_rfl
  z46 := fun w => by kernel_rfl
  v46 := fun w => by kernel_rfl
  t50 := by kernel_rfl
  a50 := fun w => by kernel_rfl
  z50 := fun w => by kernel_rfl
  v50 := fun w => by kernel_rfl
  t53 := by kernel_rfl
  a53 := fun w => by kernel_rfl
  z53 := fun w => by kernel_rfl
  v53 := fun w => by kernel_rfl
  t55 := by kernel_rfl
  a55 := fun w => by kernel_rfl
  z55 := fun w => by kernel_rfl
  v55 := fun w => by kernel_rfl
  t66 := by kernel_rfl
  a66 := fun w => by kernel_rfl
  z66 := fun w => by kernel_rfl
  v66 := fun w => by kernel_rfl
  t70 := by kernel_rfl
  a70 := fun w => by kernel_rfl
  z70 := fun w => by kernel_rfl
  v70 := fun w => by kernel_rfl
  t76 := by kernel_rfl
  a76 := fun w => by kernel_rfl
  z76 := fun w => by kernel_rfl
  v76 := fun w => by kernel_rfl
  t77 := by kernel_rfl
  a77 := fun w => by kernel_rfl
  z77 := fun w => by kernel_rfl
  v77 := fun w => by kernel_rfl

theorem hk (x : Ser) : x.cells.length = 3 := rfl
theorem one (x : Ser) : ∀ u ∈ x.cells, u.oneCell' = true := by
  intro u hu
  simp only [Ser.cells, List.mem_cons, List.not_mem_nil, or_false] at hu
  rcases hu with rfl | rfl | rfl <;> rfl

/-- what is asked of an order -/
def CmpOk (f : FuncId) (cb : Array Value) (cf : Ser → Ser → Int) (l : List Ser) (ok : World → Prop) : Prop :=
  ∀ x ∈ l, ∀ y ∈ l, ∀ W, ok W → Calls Tryz.prog f (#[.agg #[.slice x.lab.A x.lab.n x.lab.c, .slice x.smp.A x.smp.n x.smp.c, .slice x.win.A x.win.n x.win.c], .agg #[.slice y.lab.A y.lab.n y.lab.c, .slice y.smp.A y.smp.n y.smp.c, .slice y.win.A y.win.n y.win.c]] ++ cb) W fun e w2 => e = .returned (.int .i64 (cf x y)) ∧ ∃ q os', w2 = grow (W.drewN q) os'

/-- elements of the list -/
abbrev El (l : List Ser) := {x : Ser // x ∈ l}
def eenc (l : List Ser) (u : El l) : List Value := u.1.cells
def ecf (l : List Ser) (cf : Ser → Ser → Int) (u v : El l) : Int := cf u.1 v.1
theorem attach_cells (l : List Ser) : (l.attach.toArray.toList).flatMap (eenc l) = l.flatMap Ser.cells := by
  have h : l.attach.toArray.toList.map Subtype.val = l := by rw [List.toList_toArray, List.attach_map_subtype_val]
  have h3 := List.flatMap_map (Subtype.val (p := fun x => x ∈ l)) Ser.cells l.attach.toArray.toList
  rw [h] at h3
  exact h3.symm
/-- a sort of l -/
def SrtRes (lt : Ser → Ser → Bool) (l S : List Ser) : Prop := S.Perm l ∧ (S.Pairwise fun x y => lt y x = false)
theorem swo_el {l : List Ser} {cf : Ser → Ser → Int} (h : SWO fun x y => decide (cf x y < 0)) : SWO (ltOf (ecf l cf)) where
  irrefl x := h.irrefl x.1
  trans x y z := h.trans x.1 y.1 z.1
  ntrans x y z := h.ntrans x.1 y.1 z.1

set_option maxHeartbeats 1600000 in
/-- THE SORT: the block holds what it held, in order. -/
theorem sort_any (g c n m : Nat) (l : List Ser) (rest : List Value) (f : FuncId) (cb : Array Value) (cf : Ser → Ser → Int) (w : World) (eg : ∀ args w, (callFunc f args).run Tryz.prog w = .ok (.enter f args) w) (hlt : SWO fun x y => decide (cf x y < 0)) (hC : CmpOk f cb cf l (fun W => w.grownBy W (some g)))
    (hw : Whole1 w g 73 (l.flatMap Ser.cells ++ rest).toArray) (hm : (l.flatMap Ser.cells ++ rest).length = m) (hl : l.length = n) (hn : n < 1152921504606846976) (h0 : 0 < n) :
    Calls Tryz.prog 51 #[.slice (some ⟨g, 0, none⟩) n c, .func (.func f) #[] cb] w
      fun e w' => e = .returned (.tuple #[]) ∧ ∃ S rest', SrtRes (fun x y => decide (cf x y < 0)) l S ∧ Whole1 w' g 73 (S.flatMap Ser.cells ++ rest').toArray ∧ (S.flatMap Ser.cells ++ rest').length = m ∧ w.grownBy w' (some g) := by
  have hne : l ≠ [] := by intro h; rw [h] at hl; simp at hl; omega
  haveI : Inhabited (El l) := ⟨⟨l.head hne, List.head_mem hne⟩⟩
  obtain ⟨d0, hd0⟩ : ∃ d0 : Array (El l), d0 = l.attach.toArray := ⟨_, rfl⟩
  have hcs : d0.toList.flatMap (eenc l) = l.flatMap Ser.cells := by rw [hd0]; exact attach_cells l
  have hsz : d0.size = n := by rw [hd0]; simpa using hl
  have R : RowK (eenc l) 3 w g 0 d0 := by
    refine ⟨fun _ => rfl, fun x v hv => one x.1 v hv, holdsK_of_cells' (enc := (eenc l)) (k := 3) (off := 0) (d := d0) (fun _ => rfl) fun j hj => ⟨?_, hw.free _⟩, hw.lt⟩
    rw [hcs, Nat.zero_add, hw.cell, List.getElem?_toArray, List.getElem?_append_left (by rw [fm_len hk, hl, ← hsz]; exact hj)]
  have hL : CmpLays Tryz.prog f cb (eenc l) 3 (ecf l cf) g 0 d0.size w := by
    intro mm os dk hdk x y
    exact hC x.1 x.2 y.1 y.2 _ (sw_gb (enc := (eenc l)) (k := 3) ⟨mm, os, rfl⟩)
  have hcon := AnyQ.slices_SortFunc lays 3 (fun w => by kernel_rfl) (fun w => by kernel_rfl) (eenc l) R.hk R.h1 (ecf l cf) (swo_el hlt) f cb g 0 c d0 w eg hL R.hH R.hblk (by omega)
  rw [hsz] at hcon
  refine hcon.mono ?_
  rintro e w' ⟨rfl, d', nq, os, hp, hs, hw'⟩
  refine ⟨rfl, ?_⟩
  have hS : SWK (eenc l) 3 w g 0 d' w' := ⟨nq, os, hw'⟩
  have hsz' : d'.size = n := by rw [hp.1, hsz]
  have full : ∀ d : Array (El l), d.size = n → d.extract 0 n = d := fun d hd => by rw [← hd]; simp
  have hperm := hp.2.2
  rw [full _ hsz', full _ hsz, hd0] at hperm
  obtain ⟨rest', h1, h2⟩ := sw_block (l := d0.toList) (rest := rest) (m := m) hS R (by rw [hsz', hsz]) (by rw [hcs]; exact hw) (by rw [hcs]; exact hm) (by rw [hsz', ← hsz]; simp)
  have e : d'.toList.flatMap (eenc l) = (d'.toList.map Subtype.val).flatMap Ser.cells := by rw [List.flatMap_map]; rfl
  rw [e] at h1 h2
  refine ⟨_, rest', ⟨?_, ?_⟩, h1, h2, sw_gb hS⟩
  · have := hperm.map Subtype.val
    rwa [List.toList_toArray, List.attach_map_subtype_val] at this
  · rw [List.pairwise_map, List.pairwise_iff_getElem]
    intro i j hi hj hij
    rw [Array.length_toList, hsz'] at hi hj
    have := hs i j (Nat.zero_le _) hij hj
    rw [getElem!_pos _ i (by rw [hsz']; exact hi), getElem!_pos _ j (by rw [hsz']; exact hj)] at this
    exact this
/-- the sort, at none -/
theorem ins0_any (A : Option Addr) (c : Nat) (fv : Value) (w : World) : Calls Tryz.prog 131 #[.slice A 0 c, .int .i64 0, .int .i64 0, fv] w fun e w' => e = .returned (.tuple #[]) ∧ w = w' := by
  go_enter Tryz.func131, Tryz.ntmps131
  go_wp2
  refine wp_loop_rounds 1 ?_
  rw [rounds_succ]
  go_wp2
  go_end0
  exact ⟨rfl, rfl⟩
theorem pdq0_any (A : Option Addr) (c : Nat) (lim : Int) (fv : Value) (w : World) : Calls Tryz.prog 85 #[.slice A 0 c, .int .i64 0, .int .i64 0, .int .i64 lim, fv] w fun e w' => e = .returned (.tuple #[]) ∧ w = w' := by
  go_enter Tryz.func85, Tryz.ntmps85
  go_wp2_with fail
  refine wp_loop_rounds 1 ?_
  rw [rounds_succ]
  go_wp2_with fail
  refine (ins0_any A c fv _).mono ?_
  rintro e w' ⟨rfl, rfl⟩
  go_wp2_with fail
  exact bodyPost_ret (v := .tuple #[]) (by simp [results, Tryz.results85, go_sem]) rfl ⟨rfl, rfl⟩
theorem sort0_any (A : Option Addr) (c : Nat) (fv : Value) (w : World) : Calls Tryz.prog 51 #[.slice A 0 c, fv] w fun e w' => e = .returned (.tuple #[]) ∧ w = w' := by
  have hl : Calls Tryz.prog 86 #[.int .u64 0] w fun e w' => e = .returned (.int .i64 (Lib.bitLen 0 : Nat)) ∧ w' = w :=
    Any.bits_Len (SlLaysF0.n15.bits (P := Tryz.prog) (ρ := ren) { lays with }) 0 w (by omega) (by omega)
  have HL := hidden hl
  clear hl
  go_enter Tryz.func51, Tryz.ntmps51
  go_wp2_with fail
  refine HL.out.mono ?_
  rintro e w' ⟨rfl, rfl⟩
  go_wp2_with fail
  refine (pdq0_any A c _ fv _).mono ?_
  rintro e w' ⟨rfl, rfl⟩
  go_wp2_with fail
  go_end0
  exact ⟨rfl, rfl⟩
/-- the sort at a row of the call's own -/
theorem sortAll_any (v : Value) (n base : Nat) (l : List Ser) (f : FuncId) (cb : Array Value) (cf : Ser → Ser → Int) (w : World) (eg : ∀ args w, (callFunc f args).run Tryz.prog w = .ok (.enter f args) w) (hlt : SWO fun x y => decide (cf x y < 0)) (hC : ∀ g, base ≤ g → CmpOk f cb cf l (fun W => w.grownBy W (some g)))
    (hown : w.ownsRow base 73 3 v n (l.flatMap Ser.cells)) (hl : l.length = n) (hn : n < 1152921504606846976) :
    Calls Tryz.prog 51 #[v, .func (.func f) #[] cb] w
      fun e w' => e = .returned (.tuple #[]) ∧ ∃ S, SrtRes (fun x y => decide (cf x y < 0)) l S ∧ w'.ownsRow base 73 3 v n (S.flatMap Ser.cells) ∧ w.grownBy w' v.ownBlock := by
  rcases Nat.eq_zero_or_pos n with h0 | h0
  · subst h0
    obtain rfl : l = [] := List.eq_nil_of_length_eq_zero hl
    obtain ⟨A, c, rfl, _, _⟩ := own_shape hown
    refine (sort0_any A c _ w).mono ?_
    rintro e w' ⟨rfl, rfl⟩
    exact ⟨rfl, [], ⟨List.Perm.refl _, List.Pairwise.nil⟩, hown, gb_refl _ _⟩
  · obtain ⟨g, c, rest, rfl, hg, hw, hnc, hc, _, hm⟩ := own_whole_g hk hown h0
    refine (sort_any g c n (c * 3) l rest f cb cf w eg hlt (hC g hg) hw hm hl hn h0).mono ?_
    rintro e w' ⟨rfl, S, rest', hS, hw', hm', hgb⟩
    exact ⟨rfl, S, hS, own_of_whole_g hk hg hw' hnc hc (by rw [hS.1.length_eq]; exact hl) hm', hgb⟩
end Go.Proofs.YthncochjhbmceaaGreat.SrfSer

namespace Go.Proofs.YthncochjhbmceaaGreat.IdxGoR
set_option maxRecDepth 100000
open Go.RowKit

theorem hk (x : GonR) : x.cells.length = 3 := rfl

/-- what is asked of a predicate -/
def PredOk (f : FuncId) (cb : Array Value) (p : GonR → Bool) (l : List GonR) (ok : World → Prop) : Prop :=
  ∀ x ∈ l, ∀ W, ok W → Calls Tryz.prog f (#[.agg #[.int .i64 x.ref, .int .i64 x.res, .slice x.sp.A x.sp.n x.sp.c]] ++ cb) W fun e w2 => e = .returned (.bool (p x)) ∧ Below W.heap.size W w2
/-- where the first one is -/
def IdxRes (p : GonR → Bool) (l : List GonR) (r : Int) : Prop := (r = -1 ∧ ∀ x ∈ l, p x = false) ∨ ∃ (i : Nat) (x : GonR), r = i ∧ l[i]? = some x ∧ p x = true ∧ ∀ y ∈ l.take i, p y = false

set_option maxHeartbeats 1600000 in
theorem index_any (A : Option Addr) (n c : Nat) (l : List GonR) (f : FuncId) (cb : Array Value) (p : GonR → Bool) (w : World) (eg : ∀ args w, (callFunc f args).run Tryz.prog w = .ok (.enter f args) w) (hp : PredOk f cb p l (fun W => Below w.heap.size w W)) (hr : Row w w.heap.size 3 A n (l.flatMap GonR.cells)) (hl : l.length = n) (hn : n ≤ 4611686018427387904) :
    Calls Tryz.prog 114 #[.slice A n c, .func (.func f) #[] cb] w
      fun e w' => ∃ r : Int, e = .returned (.int .i64 r) ∧ IdxRes p l r ∧ Below w.heap.size w w' := by
  have hL := hidden hl
  have HR := hidden hr
  have HP := hidden hp
  clear hl hr hp
  go_enter Tryz.func114, Tryz.ntmps114
  go_wp2
  go_loopw [8] (fun i wr => ∃ k : Nat, k ≤ n ∧ i = .int .i64 k ∧ Hid (∀ y ∈ l.take k, p y = false) ∧ Below w.heap.size w wr) (fun i _ => n - (intOf i).toNat)
  case atStart => exact ⟨0, Nat.zero_le _, rfl, hidden (by simp), Below.refl _ _⟩
  case round =>
    obtain ⟨k, hk1, rfl, hall, hb⟩ := hrel
    by_cases hlt : k < n
    · obtain ⟨gs, o, x, rfl, hgs, hx, hcl⟩ := row_at hk (HR.out.below hb) hL.out k hlt
      have d0 : wr.cell? ⟨gs, o + k * 3, none⟩ = some (.int .i64 x.ref) := hcl 0 (by omega)
      have d1 : wr.cell? ⟨gs, o + k * 3 + 1, none⟩ = some (.int .i64 x.res) := hcl 1 (by omega)
      have d2 : wr.cell? ⟨gs, o + k * 3 + 2, none⟩ = some (.slice x.sp.A x.sp.n x.sp.c) := hcl 2 (by omega)
      have hcon := HP.out x (List.mem_of_getElem? hx) wr hb
      have hT := hidden (take_snoc? hx)
      have HX := hidden hx
      have HCON := hidden hcon
      have hltz : (k : Int) < (n : Int) := by omega
      have hk0 : (0 : Int) ≤ (k : Int) := by omega
      clear hx hcl hcon
      go_wp2_with fail
      refine HCON.out.mono ?_
      rintro e w1 ⟨rfl, hb1⟩
      have hB1 := hb.trans (hb1.mono hb.size)
      clear HCON hb1 d0 d1 d2
      obtain ⟨b, hv⟩ : ∃ b, p x = b := ⟨_, rfl⟩
      rw [hv]
      have HV := hidden hv
      clear hv
      cases b with
      | false =>
        go_wp2_with fail
        go_roundw
        case rel => exact ⟨k + 1, by omega, by go_num, hidden (by
          intro y hy
          rw [hT.out] at hy
          rcases List.mem_append.1 hy with h | h
          · exact hall.out y h
          · rw [List.mem_singleton.1 h]; exact HV.out), hB1⟩
        case measure => simp [intOf]; omega
      | true =>
        go_wp2_with fail
        go_ret
        exact ⟨_, rfl, .inr ⟨k, x, rfl, HX.out, HV.out, hall.out⟩, hB1⟩
    · obtain rfl : n = k := by omega
      have hall2 := hall.out
      rw [List.take_of_length_le (by rw [hL.out]; exact Nat.le_refl _)] at hall2
      have HA := hidden hall2
      clear hall2
      go_wp2
      go_ret
      exact ⟨-1, rfl, .inl ⟨rfl, HA.out⟩, hb⟩


set_option maxHeartbeats 1600000 in
theorem contains_any (A : Option Addr) (n c : Nat) (l : List GonR) (f : FuncId) (cb : Array Value) (p : GonR → Bool) (w : World) (eg : ∀ args w, (callFunc f args).run Tryz.prog w = .ok (.enter f args) w) (hp : PredOk f cb p l (fun W => Below w.heap.size w W)) (hr : Row w w.heap.size 3 A n (l.flatMap GonR.cells)) (hl : l.length = n) (hn : n ≤ 4611686018427387904) :
    Calls Tryz.prog 67 #[.slice A n c, .func (.func f) #[] cb] w
      fun e w' => e = .returned (.bool (l.any p)) ∧ Below w.heap.size w w' := by
  have S1 := hidden (index_any A n c l f cb p w eg hp hr hl hn)
  clear hp hr
  go_enter Tryz.func67, Tryz.ntmps67
  go_wp2_with fail
  refine S1.out.mono ?_
  rintro e w1 ⟨r, rfl, hres, hb⟩
  have HB := hidden hb
  have hd : l.any p = decide (0 ≤ r) := by
    rcases hres with ⟨rfl, h⟩ | ⟨i, x, rfl, hx, hpx, _⟩
    · rw [show decide ((0 : Int) ≤ -1) = false from rfl, List.any_eq_false]
      intro x hx
      rw [h x hx]; simp
    · rw [decide_eq_true (by omega), List.any_eq_true]
      exact ⟨x, List.mem_of_getElem? hx, hpx⟩
  have HD := hidden hd
  clear hb hres hd S1
  go_wp2_with fail
  go_ret
  exact ⟨ret_bool HD.out.symm, HB.out⟩
end Go.Proofs.YthncochjhbmceaaGreat.IdxGoR

namespace Go.Proofs.YthncochjhbmceaaGreat
set_option maxRecDepth 100000

/-- an entry, by what it says -/
structure EntP where
  l : List Lbl
  t : Int
  v : Nat
/-- a plan under way: the sets, each with its greatest time; the new ones; the points; the verdicts -/
structure PlanS where
  T : List (List Lbl × Int)
  N : List (List Lbl)
  P : List PntR
  V : List Int
/-- an entry's own fault -/
def entE (x : EntP) : Int := if (encLb x.l).2 ≠ 0 then (encLb x.l).2 else if x.t < 0 ∨ 1125899906842624 < x.t then 91 else 0
def lastT (T : List (List Lbl × Int)) (n : Nat) : Int := (T.map (·.2)).getD n (-1)
noncomputable def planStep (s : PlanS) (x : EntP) : PlanS :=
  if entE x ≠ 0 then ⟨s.T, s.N, s.P, s.V ++ [entE x]⟩ else
  match atE (s.T.map (·.1)) x.l with
  | none => ⟨s.T ++ [(x.l, x.t)], s.N ++ [x.l], s.P ++ [⟨(s.T.length : Nat), x.t, x.v⟩], s.V ++ [0]⟩
  | some n => if x.t ≤ lastT s.T n then ⟨s.T, s.N, s.P, s.V ++ [270]⟩ else ⟨s.T.set n (x.l, x.t), s.N, s.P ++ [⟨(n : Nat), x.t, x.v⟩], s.V ++ [0]⟩
noncomputable def planB (T : List (List Lbl × Int)) (xs : List EntP) : PlanS := xs.foldl planStep ⟨T, [], [], []⟩
theorem planB_snoc (T : List (List Lbl × Int)) (xs : List EntP) (x : EntP) : planB T (xs ++ [x]) = planStep (planB T xs) x := by simp [planB]

/-! points in their order -/
/-- the greatest times behind these points -/
def afterP (M : List Int) (P : List PntR) : List Int := P.foldl (fun M p => M.set p.ref.toNat p.t) M
def ptsOk : List Int → List PntR → Prop
  | _, [] => True
  | M, p :: r => (0 ≤ p.ref ∧ ∃ m, M[p.ref.toNat]? = some m ∧ m < p.t) ∧ ptsOk (M.set p.ref.toNat p.t) r
theorem afterP_snoc (M : List Int) (P : List PntR) (p : PntR) : afterP M (P ++ [p]) = (afterP M P).set p.ref.toNat p.t := by simp [afterP]
theorem afterP_len (P : List PntR) : ∀ M : List Int, (afterP M P).length = M.length := by
  induction P with
  | nil => intro M; rfl
  | cons p r ih => intro M; show (afterP (M.set p.ref.toNat p.t) r).length = _; rw [ih, List.length_set]
theorem ptsOk_app (P Q : List PntR) : ∀ M : List Int, ptsOk M (P ++ Q) ↔ ptsOk M P ∧ ptsOk (afterP M P) Q := by
  induction P with
  | nil => intro M; simp [ptsOk, afterP]
  | cons p r ih =>
    intro M
    rw [List.cons_append]
    show (_ ∧ ptsOk _ (r ++ Q)) ↔ (_ ∧ ptsOk _ r) ∧ ptsOk (afterP (M.set p.ref.toNat p.t) r) Q
    rw [ih]
    exact and_assoc.symm
theorem ptsOk_snoc (M : List Int) (P : List PntR) (p : PntR) : ptsOk M (P ++ [p]) ↔ ptsOk M P ∧ 0 ≤ p.ref ∧ ∃ m, (afterP M P)[p.ref.toNat]? = some m ∧ m < p.t := by
  rw [ptsOk_app]
  simp [ptsOk]
theorem ptsOk_at {M : List Int} {P : List PntR} (h : ptsOk M P) {k : Nat} {p : PntR} (hk : P[k]? = some p) : 0 ≤ p.ref ∧ ∃ m, (afterP M (P.take k))[p.ref.toNat]? = some m ∧ m < p.t := by
  have e : P = P.take (k + 1) ++ P.drop (k + 1) := (List.take_append_drop _ _).symm
  rw [e, ptsOk_app] at h
  have h1 := h.1
  rw [List.take_add_one, hk, Option.toList_some, ptsOk_snoc] at h1
  exact h1.2
theorem ptsOk_ext (m : Int) (P : List PntR) : ∀ M : List Int, ptsOk M P → ptsOk (M ++ [m]) P ∧ afterP (M ++ [m]) P = afterP M P ++ [m] := by
  induction P with
  | nil => intro M _; exact ⟨trivial, rfl⟩
  | cons p r ih =>
    rintro M ⟨⟨h0, x, hx, hlt⟩, hr⟩
    have hi := (List.getElem?_eq_some_iff.1 hx).1
    have e : (M ++ [m]).set p.ref.toNat p.t = M.set p.ref.toNat p.t ++ [m] := List.set_append_left _ _ hi
    obtain ⟨k1, k2⟩ := ih _ hr
    refine ⟨⟨⟨h0, x, by rw [List.getElem?_append_left hi]; exact hx, hlt⟩, by rw [e]; exact k1⟩, ?_⟩
    show afterP ((M ++ [m]).set p.ref.toNat p.t) r = afterP (M.set p.ref.toNat p.t) r ++ [m]
    rw [e, k2]

/-! what a plan keeps to -/
/-- what is told of an entry that was planned -/
def seenT (T : List (List Lbl × Int)) (x : EntP) : Prop := entE x ≠ 0 ∨ ∃ n, atE (T.map (·.1)) x.l = some n ∧ x.t ≤ lastT T n
structure PlanI (T0 : List (List Lbl × Int)) (xs : List EntP) (s : PlanS) : Prop where
  sets : s.T.map (·.1) = T0.map (·.1) ++ s.N
  nodup : (s.T.map (·.1)).Nodup
  val : ∀ l ∈ s.N, validP l
  pts : ptsOk (T0.map (·.2) ++ List.replicate s.N.length (-1)) s.P
  after : afterP (T0.map (·.2) ++ List.replicate s.N.length (-1)) s.P = s.T.map (·.2)
  fit : ∀ p ∈ s.P, 0 ≤ p.t ∧ p.t ≤ 1125899906842624
  vs : ∀ p ∈ s.P, ∃ x ∈ xs, p.v = x.v
  count : s.V.countP (· == 0) = s.P.length
  few : s.N.length ≤ s.P.length
  len : s.V.length = xs.length
  seen : ∀ x ∈ xs, seenT s.T x
theorem entE_zero {x : EntP} (h : entE x = 0) : validP x.l ∧ 0 ≤ x.t ∧ x.t ≤ 1125899906842624 := by
  unfold entE at h
  split at h
  · rename_i h1; exact absurd h h1
  · rename_i h1
    split at h
    · cases h
    · exact ⟨enc_fit.1 (by simpa using h1), by omega, by omega⟩
theorem lastT_at {T : List (List Lbl × Int)} {n : Nat} {p : List Lbl × Int} (h : T[n]? = some p) : lastT T n = p.2 := by
  unfold lastT
  rw [List.getD_eq_getElem?_getD, List.getElem?_map, h]
  rfl
theorem set_fst {T : List (List Lbl × Int)} {n : Nat} {l : List Lbl} {t : Int} (h : (T.map (·.1))[n]? = some l) : (T.set n (l, t)).map (·.1) = T.map (·.1) := by
  rw [List.map_set]
  apply List.ext_getElem?
  intro i
  rw [List.getElem?_set]
  split
  · rename_i e
    subst e
    rw [h]
    have := (List.getElem?_eq_some_iff.1 h).1
    rw [if_pos this]
  · rfl
theorem seen_more {T : List (List Lbl × Int)} {l : List Lbl} {t : Int} {x : EntP} (h : seenT T x) : seenT (T ++ [(l, t)]) x := by
  rcases h with h | ⟨n, h1, h2⟩
  · exact .inl h
  · have hn := atE_some h1
    have hlt : n < T.length := by have := (List.getElem?_eq_some_iff.1 hn).1; simpa using this
    refine .inr ⟨n, ?_, ?_⟩
    · unfold atE at h1 ⊢
      rw [List.map_append, List.findIdx?_append, h1]
      rfl
    · have e : lastT (T ++ [(l, t)]) n = lastT T n := by
        unfold lastT
        rw [List.getD_eq_getElem?_getD, List.getD_eq_getElem?_getD, List.map_append, List.getElem?_append_left (by simpa using hlt)]
      rw [e]; exact h2
theorem seen_set {T : List (List Lbl × Int)} {n : Nat} {l : List Lbl} {t : Int} {x : EntP} (hl : (T.map (·.1))[n]? = some l) (ht : lastT T n ≤ t) (h : seenT T x) : seenT (T.set n (l, t)) x := by
  rcases h with h | ⟨k, h1, h2⟩
  · exact .inl h
  · refine .inr ⟨k, by rw [set_fst hl]; exact h1, ?_⟩
    by_cases e : k = n
    · subst e
      have hlt : k < T.length := by have := (List.getElem?_eq_some_iff.1 hl).1; simpa using this
      rw [lastT_at (p := (l, t)) (by rw [List.getElem?_set_self hlt])]
      exact Int.le_trans h2 ht
    · have e2 : lastT (T.set n (l, t)) k = lastT T k := by
        unfold lastT
        rw [List.getD_eq_getElem?_getD, List.getD_eq_getElem?_getD, List.map_set, List.getElem?_set_ne (Ne.symm e)]
      rw [e2]; exact h2
theorem planI_start {T0 : List (List Lbl × Int)} (hn : (T0.map (·.1)).Nodup) : PlanI T0 [] ⟨T0, [], [], []⟩ :=
  ⟨by simp, hn, by simp, trivial, by simp [afterP], by simp, by simp, rfl, Nat.le_refl _, rfl, by simp⟩
theorem planI_step {T0 : List (List Lbl × Int)} {xs : List EntP} {s : PlanS} {x : EntP} (h : PlanI T0 xs s) : PlanI T0 (xs ++ [x]) (planStep s x) := by
  have hlen : s.T.length = T0.length + s.N.length := by have := congrArg List.length h.sets; simpa using this
  have haft : (afterP (T0.map (·.2) ++ List.replicate s.N.length (-1)) s.P).length = s.T.length := by rw [h.after, List.length_map]
  have vs' : ∀ p ∈ s.P, ∃ y ∈ xs ++ [x], p.v = y.v := fun p hp => by
    obtain ⟨y, hy, e⟩ := h.vs p hp
    exact ⟨y, List.mem_append_left _ hy, e⟩
  unfold planStep
  by_cases he : entE x ≠ 0
  · rw [if_pos he]
    refine ⟨h.sets, h.nodup, h.val, h.pts, h.after, h.fit, vs', ?_, h.few, by simp [h.len], fun y hy => ?_⟩
    · rw [List.countP_append, h.count]; simp [he]
    · rcases List.mem_append.1 hy with hy | hy
      · exact h.seen y hy
      · rw [List.mem_singleton.1 hy]; exact .inl he
  · rw [if_neg he]
    obtain ⟨hv, ht0, ht1⟩ := entE_zero (Decidable.not_not.1 he)
    cases hat : atE (s.T.map (·.1)) x.l with
    | none =>
      simp only
      obtain ⟨k1, k2⟩ := ptsOk_ext (-1) s.P _ h.pts
      have er : T0.map (·.2) ++ List.replicate (s.N ++ [x.l]).length (-1) = T0.map (·.2) ++ List.replicate s.N.length (-1 : Int) ++ [-1] := by
        rw [List.length_append, List.length_singleton, List.replicate_succ', List.append_assoc]
      have hg : (s.T.map (·.2) ++ [(-1 : Int)])[s.T.length]? = some (-1) := by rw [List.getElem?_append_right (by simp)]; simp
      refine ⟨?_, ?_, fun l hl => ?_, ?_, ?_, fun p hp => ?_, fun p hp => ?_, ?_, ?_, by simp [h.len], fun y hy => ?_⟩
      · rw [List.map_append, h.sets, List.append_assoc]; rfl
      · rw [List.map_append, List.nodup_append]
        refine ⟨h.nodup, by simp, fun a ha c hc e => ?_⟩
        simp only [List.map_cons, List.map_nil, List.mem_singleton] at hc
        rw [hc] at e
        rw [e] at ha
        exact atE_none.1 hat ha
      · rcases List.mem_append.1 hl with hl | hl
        · exact h.val l hl
        · rw [List.mem_singleton.1 hl]; exact hv
      · rw [er, ptsOk_snoc, k2, h.after]
        exact ⟨k1, by simp, -1, by simp, by simp only; omega⟩
      · rw [er, afterP_snoc, k2, h.after]
        simp only [Int.toNat_natCast, List.map_append, List.map_cons, List.map_nil]
        rw [List.set_append_right _ _ (by simp), List.length_map, Nat.sub_self]
        rfl
      · rcases List.mem_append.1 hp with hp | hp
        · exact h.fit p hp
        · rw [List.mem_singleton.1 hp]; exact ⟨ht0, ht1⟩
      · rcases List.mem_append.1 hp with hp | hp
        · exact vs' p hp
        · rw [List.mem_singleton.1 hp]; exact ⟨x, by simp, rfl⟩
      · rw [List.countP_append, h.count]; simp
      · have := h.few
        simp only [List.length_append, List.length_singleton]; omega
      · rcases List.mem_append.1 hy with hy | hy
        · exact seen_more (h.seen y hy)
        · rw [List.mem_singleton.1 hy]
          refine .inr ⟨s.T.length, ?_, ?_⟩
          · unfold atE at hat ⊢
            rw [List.map_append, List.findIdx?_append, hat]
            simp [List.findIdx?_cons]
          · rw [lastT_at (p := (x.l, x.t)) (by simp)]; exact Int.le_refl _
    | some n =>
      simp only
      have hn := atE_some hat
      have hlt : n < s.T.length := by have := (List.getElem?_eq_some_iff.1 hn).1; simpa using this
      by_cases hle : x.t ≤ lastT s.T n
      · rw [if_pos hle]
        refine ⟨h.sets, h.nodup, h.val, h.pts, h.after, h.fit, vs', ?_, h.few, by simp [h.len], fun y hy => ?_⟩
        · rw [List.countP_append, h.count]; simp
        · rcases List.mem_append.1 hy with hy | hy
          · exact h.seen y hy
          · rw [List.mem_singleton.1 hy]; exact .inr ⟨n, hat, hle⟩
      · rw [if_neg hle]
        have e2 : lastT s.T n = (s.T[n]'hlt).2 := lastT_at (List.getElem?_eq_getElem hlt)
        refine ⟨by rw [set_fst hn]; exact h.sets, by rw [set_fst hn]; exact h.nodup, h.val, ?_, ?_, fun p hp => ?_, fun p hp => ?_, ?_, ?_, by simp [h.len], fun y hy => ?_⟩
        · rw [ptsOk_snoc, h.after]
          refine ⟨h.pts, by simp, (s.T[n]'hlt).2, ?_, by simp only; omega⟩
          simp [hlt]
        · rw [afterP_snoc, h.after, List.map_set]
          simp
        · rcases List.mem_append.1 hp with hp | hp
          · exact h.fit p hp
          · rw [List.mem_singleton.1 hp]; exact ⟨ht0, ht1⟩
        · rcases List.mem_append.1 hp with hp | hp
          · exact vs' p hp
          · rw [List.mem_singleton.1 hp]; exact ⟨x, by simp, rfl⟩
        · rw [List.countP_append, h.count]; simp
        · have := h.few
          simp only [List.length_append, List.length_singleton]; omega
        · rcases List.mem_append.1 hy with hy | hy
          · exact seen_set hn (by omega) (h.seen y hy)
          · rw [List.mem_singleton.1 hy]
            refine .inr ⟨n, by rw [set_fst hn]; exact hat, ?_⟩
            rw [lastT_at (p := (x.l, x.t)) (by rw [List.getElem?_set_self hlt])]
            exact Int.le_refl _
theorem planI {T0 : List (List Lbl × Int)} (hn : (T0.map (·.1)).Nodup) (xs : List EntP) : PlanI T0 xs (planB T0 xs) := by
  generalize hk : xs.length = k
  induction k generalizing xs with
  | zero =>
    obtain rfl := List.eq_nil_of_length_eq_zero hk
    exact planI_start hn
  | succ k ih =>
    rcases List.eq_nil_or_concat xs with rfl | ⟨ys, y, rfl⟩
    · simp at hk
    · rw [List.concat_eq_append] at hk ⊢
      rw [planB_snoc]
      exact planI_step (ih ys (by simpa using hk))
/-- what was planned is planned no more -/
theorem plan_again {T : List (List Lbl × Int)} (xs : List EntP) (h : ∀ x ∈ xs, seenT T x) : (planB T xs).T = T ∧ ∀ v ∈ (planB T xs).V, v ≠ 0 := by
  generalize hk : xs.length = k
  induction k generalizing xs with
  | zero =>
    obtain rfl := List.eq_nil_of_length_eq_zero hk
    exact ⟨rfl, by simp [planB]⟩
  | succ k ih =>
    rcases List.eq_nil_or_concat xs with rfl | ⟨ys, y, rfl⟩
    · simp at hk
    · rw [List.concat_eq_append] at hk h ⊢
      rw [planB_snoc]
      obtain ⟨h1, h2⟩ := ih ys (fun x hx => h x (List.mem_append_left _ hx)) (by simpa using hk)
      have hy := h y (by simp)
      unfold planStep
      by_cases he : entE y ≠ 0
      · rw [if_pos he]
        exact ⟨h1, fun v hv => (List.mem_append.1 hv).elim (h2 v) fun hv => by rw [List.mem_singleton.1 hv]; exact he⟩
      · rw [if_neg he, h1]
        rcases hy with hy | ⟨n, k1, k2⟩
        · exact absurd hy he
        · rw [k1]
          simp only
          rw [if_pos k2]
          exact ⟨rfl, fun v hv => (List.mem_append.1 hv).elim (h2 v) fun hv => by rw [List.mem_singleton.1 hv]; decide⟩
end Go.Proofs.YthncochjhbmceaaGreat

namespace Go.Proofs.YthncochjhbmceaaGreat
set_option maxRecDepth 100000
open Go.RowKit Go.WideShapes

section
variable {H : Type} {enc : TypeId × Value → H} {P : Program} {W : World} {b : Nat}

/-- A value of type t reads as one of f's values, its weight at most its bulk. -/
def OpensB (enc : TypeId × Value → H) (P : Program) (W : World) (b : Nat) (t : TypeId) {α : Type} (f : α → List Value) (G : α → Prop) (wt : α → Nat) : Prop :=
  ∀ (fuel : Nat) (cs : List Value) (x : DataW H × List MemPlace), DataW.trod enc P W 0 (fun _ => true) true fuel t cs = some x → Fits P W b t x → ∃ a, cs = f a ∧ G a ∧ wt a ≤ Rows.uptoBulk x.1
theorem Opens.one {t : TypeId} {α : Type} {f : α → List Value} {G : α → Prop} (h : Opens enc P W b t f G) : OpensB enc P W b t f G (fun _ => 1) := by
  intro fuel cs x hx hf
  obtain ⟨a, h1, h2⟩ := h fuel cs x hx hf
  exact ⟨a, h1, h2, bulk_pos _⟩
theorem bulk_sum {α : Type} {wt : α → Nat} {R : Nat → α} {D : Nat → DataW H} : ∀ (n : Nat), (∀ i, i < n → wt (R i) ≤ Rows.uptoBulk (D i)) → (((List.range n).map R).map wt).sum ≤ Rows.uptoBulkAll ((List.range n).map D) := by
  have happ : ∀ (l : List (DataW H)) (d : DataW H), Rows.uptoBulkAll (l ++ [d]) = Rows.uptoBulkAll l + Rows.uptoBulk d := by
    intro l d
    induction l with
    | nil => simp [Rows.uptoBulkAll]
    | cons x l ih => simp only [List.cons_append, Rows.uptoBulkAll]; omega
  intro n
  induction n with
  | zero => intro _; simp [Rows.uptoBulkAll]
  | succ n ih =>
    intro h
    have h1 := ih fun i hi => h i (by omega)
    have h2 := h n (by omega)
    rw [List.range_succ, List.map_append, List.map_append, List.map_append, List.sum_append, List.map_singleton, List.map_singleton, List.map_singleton, happ]
    simp only [List.sum_cons, List.sum_nil]
    omega

/-- a slice of what opens -/
theorem opens_slice_b {t e : TypeId} {α : Type} [Inhabited α] {f : α → List Value} {G : α → Prop} {wt : α → Nat} {k : Nat} (ht : P.underlying t = some (.slice e)) (hC : P.cellsOf e = k) (hk : 0 < k) (hlen : ∀ a, (f a).length = k) (he : OpensB enc P W b e f G wt) :
    OpensB enc P W b t (fun s : Sl α => [s.val]) (fun s => s.At W W.heap.size k f ∧ (∀ a ∈ s.l, G a) ∧ s.n * P.bytesOf e ≤ reachBytes ∧ s.n ≤ b) (fun s => (s.l.map wt).sum) := by
  intro fuel cs x h hf
  rcases Deep.open_slice ht h with ⟨hcs, hx⟩ | ⟨a, len, cap, m, n', D, Pl, hcs, _, hl, hm, hmm, hx, hi⟩
  · exact ⟨Sl.nil, hcs, ⟨⟨Nat.le_refl _, rfl, Row.nil⟩, by simp [Sl.nil], by simp [Sl.nil], Nat.zero_le _⟩, Nat.zero_le _⟩
  · simp only [if_true] at hmm
    subst hmm
    have hw0 := hf.light
    have hb0 := hf.small
    have ho0 := hf.old
    rw [hx] at hw0 hb0 ho0
    simp only [DataW.weights, ht, Rows.uptoBulk] at hw0 hb0
    have hel : ∀ i, i < len → ∃ y : α, (G y ∧ wt y ≤ Rows.uptoBulk (D i)) ∧ ∀ j, j < k → W.cell? (a.add (i * k + j)) = (f y)[j]? := by
      intro i hin
      obtain ⟨cs', hc, ht'⟩ := hi i (by omega)
      rw [hC] at hc
      have hDm : D i ∈ (List.range len).map D := List.mem_map.2 ⟨i, List.mem_range.2 hin, rfl⟩
      obtain ⟨y, hy, hG, hwt⟩ := he _ _ _ ht' ⟨fun p hp => ho0 p (List.mem_append_right _ (List.mem_flatMap.2 ⟨i, List.mem_range.2 (by omega), hp⟩)),
        fun q hq => hw0 q (List.mem_cons_of_mem _ (List.mem_append_left _ (weights_all hDm hq))), by have := bulk_mem hDm; simp only; omega⟩
      obtain ⟨_, hcl, hat⟩ := World.cells?_some hc
      refine ⟨y, ⟨hG, hwt⟩, fun j hj => ?_⟩
      rw [← hy, ← Deep.add_add]
      exact hat j (by omega)
    obtain ⟨R, hR⟩ := Deep.choose_lt (α := α) hel
    have hflat : ∀ (m : Nat), m ≤ len → (((List.range m).map R).flatMap f).length = m * k ∧ ∀ j, j < m * k → W.cell? (a.add j) = (((List.range m).map R).flatMap f)[j]? := by
      intro m
      induction m with
      | zero => intro _; exact ⟨by simp, fun j hj => by simp at hj⟩
      | succ m ih =>
        intro hm'
        obtain ⟨i1, i2⟩ := ih (by omega)
        obtain ⟨_, hr2⟩ := hR m (by omega)
        rw [List.range_succ, List.map_append, List.flatMap_append, List.map_cons, List.map_nil, List.flatMap_cons, List.flatMap_nil, List.append_nil]
        refine ⟨by rw [List.length_append, i1, hlen, Nat.succ_mul], fun j hj => ?_⟩
        rw [Nat.succ_mul] at hj
        rcases Nat.lt_or_ge j (m * k) with h1 | h1
        · rw [List.getElem?_append_left (by omega)]; exact i2 j h1
        · rw [List.getElem?_append_right (by omega), i1, ← hr2 _ (by omega), show m * k + (j - m * k) = j from by omega]
    obtain ⟨h1, h2⟩ := hflat len (Nat.le_refl _)
    refine ⟨⟨some a, len, m, (List.range len).map R⟩, hcs, ⟨⟨by simpa using hl, by simp, h1, fun hn => ?_⟩, ?_, ?_, ?_⟩, ?_⟩
    · obtain ⟨bk, off, spot⟩ := a
      have hpk : 0 < len * k := Nat.mul_pos hn hk
      have hc0 := h2 0 hpk
      have hsp : spot = none := by
        rw [List.getElem?_eq_getElem (by rw [h1]; exact hpk)] at hc0
        simpa [Addr.add] using World.cell?_spot hc0
      subst hsp
      refine ⟨bk, off, rfl, ?_, fun j hj => by rw [← h2 j hj, Addr.add_lit]⟩
      refine ho0 (.cell bk off) ?_
      refine List.mem_append_left _ (MemPlace.mem_row.2 ⟨0, ?_, by simp⟩)
      rw [hC]
      exact Nat.mul_pos (by simp only at hn; omega) hk
    · intro r hr
      simp only [List.mem_map, List.mem_range] at hr
      obtain ⟨i, hi', rfl⟩ := hr
      exact (hR i hi').1.1
    · have := hw0 _ (List.mem_cons_self ..)
      simp only [List.length_map, List.length_range] at this
      exact Nat.le_trans (Nat.mul_le_mul_right _ (Nat.le_add_right _ _)) this
    · have := bulk_len ((List.range len).map D)
      simp only [List.length_map, List.length_range] at this
      simp only; omega
    · have := bulk_sum (wt := wt) (R := R) (D := D) len fun i hi => (hR i hi).1.2
      rw [hx]
      simp only [Rows.uptoBulk]
      omega

/-- the fields of a struct whose fields are of one cell each, their bulks in sum -/
theorem open_ones_b {e : TypeId} {fs : Array Field} (he : P.underlying e = some (.struct fs)) (hone : Deep.oneCellFields P fs = true) (hC : P.cellsOf e = fs.size) {fuel : Nat} {cs : List Value} {x : DataW H × List MemPlace} (h : DataW.trod enc P W 0 (fun _ => true) true fuel e cs = some x) (hf : Fits P W b e x) :
    ∃ (n : Nat) (ys : List (DataW H × List MemPlace)), cs.length = fs.size ∧ ys.length = fs.size ∧ Rows.uptoBulkAll (ys.map Prod.fst) + 1 = Rows.uptoBulk x.1 ∧ ∀ (i : Nat) (f : Field), fs[i]? = some f → ∃ u y, cs[i]? = some u ∧ ys[i]? = some y ∧ DataW.trod enc P W 0 (fun _ => true) true n f.type [u] = some y ∧ Fits P W b f.type y := by
  obtain ⟨xs, n, _, rfl, hl, hlen, hfl⟩ := DataW.trod_struct he h
  rw [hC] at hl
  refine ⟨n, xs, hl, hlen, rfl, fun i f hi => ?_⟩
  have hif := (Array.getElem?_eq_some_iff.1 hi).1
  have hil : i < xs.length := by rw [hlen]; exact hif
  have hxi : xs[i]? = some xs[i] := List.getElem?_eq_getElem hil
  have hm := List.mem_of_getElem? hxi
  have h1 := hfl i f hi
  obtain ⟨ho, hk1⟩ := Deep.hone_of hone i _ hi
  rw [ho, hk1, List.drop_eq_getElem_cons (by omega)] at h1
  refine ⟨cs[i]'(by omega), xs[i], List.getElem?_eq_getElem (by omega), hxi, by rw [← hxi]; exact h1, ⟨fun p hp => hf.old p (List.mem_flatMap.2 ⟨_, hm, hp⟩), fun k hk => hf.light k ?_, ?_⟩⟩
  · simp only [DataW.weights, he]
    refine weights_each (i := i) (t := f.type) (d := xs[i].1) ?_ (by rw [List.getElem?_map, hxi]; rfl) hk
    rw [List.getElem?_map, Array.getElem?_toList, hi]; rfl
  · have h1 : Rows.uptoBulkAll (xs.map Prod.fst) + 1 ≤ b := hf.small
    have h2 := bulk_mem (List.mem_map_of_mem (f := Prod.fst) hm)
    omega
end

section
variable {H : Type} {enc : TypeId × Value → H} {P : Program} {W : World} {b : Nat}
theorem open_arg_slice_b {t e : TypeId} {α : Type} [Inhabited α] {f : α → List Value} {G : α → Prop} {wt : α → Nat} {k base : Nat} {v : Value} {d : DataW H} {ps : List MemPlace} (ht : P.underlying t = some (.slice e)) (hC : P.cellsOf e = k) (hk : 0 < k) (hlen : ∀ a, (f a).length = k) (he : OpensB enc P W b e f G wt)
    (hv : Value.okWide P W .any base t v) (h : DataW.Trod enc P W 0 (fun _ => true) true t v d ps) (hF : Fits P W b t (d, ps)) :
    ∃ s : Sl α, v = s.val ∧ (s.At W W.heap.size k f ∧ (∀ a ∈ s.l, G a) ∧ s.n * P.bytesOf e ≤ reachBytes ∧ s.n ≤ b) ∧ (s.l.map wt).sum ≤ b := by
  obtain ⟨A, n, c, rfl⟩ := okWide_slice ht hv
  obtain ⟨fuel, hf⟩ := h
  obtain ⟨s, hs, hG, hw⟩ := opens_slice_b ht hC hk hlen he _ _ _ hf hF
  simp only [Value.cells, List.cons.injEq, and_true] at hs
  exact ⟨s, hs, hG, Nat.le_trans hw hF.small⟩
end
end Go.Proofs.YthncochjhbmceaaGreat
