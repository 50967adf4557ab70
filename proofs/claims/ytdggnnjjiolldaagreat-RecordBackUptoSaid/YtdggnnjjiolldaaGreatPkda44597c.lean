/- slices.SortFunc at spans, whatever order: what it leaves. Condition: the order has a contract, the row is within the reach. spans.Of: the one list of the spans. Condition: the row is within the reach. -/
import Derived.Test.YtdggnnjjiolldaaGreatPkb26dac17
import Derived.Test.YtdggnnjjiolldaaGreatPke792ef58
import Derived.Shelf.SlSortCmp.WholeK
import Derived.Test.YtdggnnjjiolldaaGreatPk19a8d015
import Derived.Test.YtdggnnjjiolldaaGreatPk7a82f2a7
import Derived.StillTailTactics
namespace Go.Proofs.YtdggnnjjiolldaaGreat.SrfSpn
set_option maxRecDepth 100000
open Go.Shelf Go.RowKit Go.Lib Go.Sort

def ren : Ren := { f := fun n => if n = 6 then 59 else if n = 14 then 71 else if n = 15 then 72 else if n = 20 then 77 else if n = 21 then 78 else if n = 22 then 79 else if n = 23 then 80 else if n = 24 then 81 else if n = 25 then 82 else if n = 26 then 83 else if n = 27 then 84 else if n = 28 then 85 else if n = 29 then 86 else if n = 46 then 96 else if n = 47 then 97 else if n = 48 then 98 else if n = 49 then 99 else if n = 50 then 100 else if n = 57 then 104 else 0, t := fun n => if n = 0 then 0 else if n = 3 then 3 else if n = 4 then 4 else if n = 5 then 5 else if n = 9 then 9 else if n = 22 then 64 else if n = 24 then 101 else if n = 25 then 134 else if n = 39 then 103 else if n = 45 then 149 else if n = 46 then 150 else if n = 50 then 154 else if n = 53 then 157 else if n = 55 then 55 else if n = 66 then 164 else if n = 70 then 168 else if n = 76 then 172 else if n = 77 then 173 else 0, g := fun _ => 0 }
theorem lays : SlLaysF0.n6 Tryz.prog ren where
  mixed := by kernel_rfl
  f6 := ⟨_, by kernel_rfl, Tryz.func59⟩
  f14 := ⟨_, by kernel_rfl, Tryz.func71⟩
  f15 := Tryz.func72
  f20 := ⟨_, by kernel_rfl, Tryz.func77⟩
  f21 := ⟨_, by kernel_rfl, Tryz.func78⟩
  f22 := ⟨_, by kernel_rfl, Tryz.func79⟩
  f23 := ⟨_, by kernel_rfl, Tryz.func80⟩
  f24 := ⟨_, by kernel_rfl, Tryz.func81⟩
  f25 := ⟨_, by kernel_rfl, Tryz.func82⟩
  f26 := ⟨_, by kernel_rfl, Tryz.func83⟩
  f27 := ⟨_, by kernel_rfl, Tryz.func84⟩
  f28 := Tryz.func85
  f29 := Tryz.func86
  f46 := ⟨_, by kernel_rfl, Tryz.func96⟩
  f47 := Tryz.func97
  f48 := Tryz.func98
  f49 := ⟨_, by kernel_rfl, Tryz.func99⟩
  f50 := ⟨_, by kernel_rfl, Tryz.func100⟩
  f57 := ⟨_, by kernel_rfl, Tryz.func104⟩
  t0 := by kernel_rfl
  a0 := fun w => by kernel_rfl
  z0 := fun w => by kernel_rfl
  v0 := fun w => by kernel_rfl
  t3 := by kernel_rfl
  a3 := fun w => by kernel_rfl
  z3 := fun w => by kernel_rfl
  v3 := fun w => by kernel_rfl
  t4 := by kernel_rfl
  a4 := fun w => by kernel_rfl
  z4 := fun w => by kernel_rfl
  v4 := fun w => by kernel_rfl
  t5 := by kernel_rfl
  a5 := fun w => by kernel_rfl
  z5 := fun w => by kernel_rfl
  v5 := fun w => by kernel_rfl
  t9 := by kernel_rfl
  a9 := fun w => by kernel_rfl
  z9 := fun w => by kernel_rfl
  v9 := fun w => by kernel_rfl
  t22 := by kernel_rfl
  a22 := fun w => by kernel_rfl
  z22 := fun w => by kernel_rfl
  v22 := fun w => by kernel_rfl
  t25 := by kernel_rfl
  a25 := fun w => by kernel_rfl
  z25 := fun w => by kernel_rfl
  v25 := fun w => by kernel_rfl
  t39 := by kernel_rfl
  a39 := fun w => by kernel_rfl
  z39 := fun w => by kernel_rfl
  v39 := fun w => by kernel_rfl
  t45 := by kernel_rfl
  a45 := fun w => by kernel_rfl
  z45 := fun w => by kernel_rfl
  v45 := fun w => by kernel_rfl
  t46 := by kernel_rfl
  a46 := fun w => by kernel_rfl
  z46 := fun w => by kernel_rfl
  v46 := fun w => by kernel_rfl
  t50 := by kernel_rfl
  a50 := fun w => by kernel_rfl
  z50 := fun w => by kernel_rfl
  v50 := fun w => by kernel_rfl
  t53 := by kernel_rfl
  a53 := fun w => by kernel_rfl
  z53 := fun w => by kernel_rfl
  v53 := fun w => by kernel_rfl
  t55 := by kernel_rfl
  a55 := fun w => by kernel_rfl
  z55 := fun w => by kernel_rfl
  v55 := fun w => by kernel_rfl
  t66 := by kernel_rfl
  a66 := fun w => by kernel_rfl
  z66 := fun w => by kernel_rfl
  v66 := fun w => by kernel_rfl
  t70 := by kernel_rfl
  a70 := fun w => by kernel_rfl
  z70 := fun w => by kernel_rfl
  v70 := fun w => by kernel_rfl
  t76 := by kernel_rfl
  a76 := fun w => by kernel_rfl
  z76 := fun w => by kernel_rfl
  v76 := fun w => by kernel_rfl
  t77 := by kernel_rfl
  a77 := fun w => by kernel_rfl
  z77 := fun w => by kernel_rfl
  v77 := fun w => by kernel_rfl

theorem hk (x : Spn) : x.cells.length = 2 := rfl
theorem one (x : Spn) : ∀ u ∈ x.cells, u.oneCell' = true := by
  intro u hu
  simp only [Spn.cells, List.mem_cons, List.not_mem_nil, or_false] at hu
  rcases hu with rfl | rfl <;> rfl

/-- what is asked of an order -/
def CmpOk (f : FuncId) (cb : Array Value) (cf : Spn → Spn → Int) (l : List Spn) (ok : World → Prop) : Prop :=
  ∀ x ∈ l, ∀ y ∈ l, ∀ W, ok W → Calls Tryz.prog f (#[.agg #[.int .i64 x.frm, .int .i64 x.til], .agg #[.int .i64 y.frm, .int .i64 y.til]] ++ cb) W fun e w2 => e = .returned (.int .i64 (cf x y)) ∧ ∃ q os', w2 = grow (W.drewN q) os'

/-- elements of the list -/
abbrev El (l : List Spn) := {x : Spn // x ∈ l}
def eenc (l : List Spn) (u : El l) : List Value := u.1.cells
def ecf (l : List Spn) (cf : Spn → Spn → Int) (u v : El l) : Int := cf u.1 v.1
theorem attach_cells (l : List Spn) : (l.attach.toArray.toList).flatMap (eenc l) = l.flatMap Spn.cells := by
  have h : l.attach.toArray.toList.map Subtype.val = l := by rw [List.toList_toArray, List.attach_map_subtype_val]
  have h3 := List.flatMap_map (Subtype.val (p := fun x => x ∈ l)) Spn.cells l.attach.toArray.toList
  rw [h] at h3
  exact h3.symm
/-- a sort of l -/
def SrtRes (lt : Spn → Spn → Bool) (l S : List Spn) : Prop := S.Perm l ∧ (S.Pairwise fun x y => lt y x = false)
theorem swo_el {l : List Spn} {cf : Spn → Spn → Int} (h : SWO fun x y => decide (cf x y < 0)) : SWO (ltOf (ecf l cf)) where
  irrefl x := h.irrefl x.1
  trans x y z := h.trans x.1 y.1 z.1
  ntrans x y z := h.ntrans x.1 y.1 z.1

set_option maxHeartbeats 1600000 in
/-- THE SORT: the block holds what it held, in order. -/
theorem sort_any (g c n m : Nat) (l : List Spn) (rest : List Value) (f : FuncId) (cb : Array Value) (cf : Spn → Spn → Int) (w : World) (eg : ∀ args w, (callFunc f args).run Tryz.prog w = .ok (.enter f args) w) (hlt : SWO fun x y => decide (cf x y < 0)) (hC : CmpOk f cb cf l (fun W => w.grownBy W (some g)))
    (hw : Whole1 w g 101 (l.flatMap Spn.cells ++ rest).toArray) (hm : (l.flatMap Spn.cells ++ rest).length = m) (hl : l.length = n) (hn : n < 1152921504606846976) (h0 : 0 < n) :
    Calls Tryz.prog 59 #[.slice (some ⟨g, 0, none⟩) n c, .func (.func f) #[] cb] w
      fun e w' => e = .returned (.tuple #[]) ∧ ∃ S rest', SrtRes (fun x y => decide (cf x y < 0)) l S ∧ Whole1 w' g 101 (S.flatMap Spn.cells ++ rest').toArray ∧ (S.flatMap Spn.cells ++ rest').length = m ∧ w.grownBy w' (some g) := by
  have hne : l ≠ [] := by intro h; rw [h] at hl; simp at hl; omega
  haveI : Inhabited (El l) := ⟨⟨l.head hne, List.head_mem hne⟩⟩
  obtain ⟨d0, hd0⟩ : ∃ d0 : Array (El l), d0 = l.attach.toArray := ⟨_, rfl⟩
  have hcs : d0.toList.flatMap (eenc l) = l.flatMap Spn.cells := by rw [hd0]; exact attach_cells l
  have hsz : d0.size = n := by rw [hd0]; simpa using hl
  have R : RowK (eenc l) 2 w g 0 d0 := by
    refine ⟨fun _ => rfl, fun x v hv => one x.1 v hv, holdsK_of_cells' (enc := (eenc l)) (k := 2) (off := 0) (d := d0) (fun _ => rfl) fun j hj => ⟨?_, hw.free _⟩, hw.lt⟩
    rw [hcs, Nat.zero_add, hw.cell, List.getElem?_toArray, List.getElem?_append_left (by rw [fm_len hk, hl, ← hsz]; exact hj)]
  have hL : CmpLays Tryz.prog f cb (eenc l) 2 (ecf l cf) g 0 d0.size w := by
    intro mm os dk hdk x y
    exact hC x.1 x.2 y.1 y.2 _ (sw_gb (enc := (eenc l)) (k := 2) ⟨mm, os, rfl⟩)
  have hcon := AnyQ.slices_SortFunc lays 2 (fun w => by kernel_rfl) (fun w => by kernel_rfl) (eenc l) R.hk R.h1 (ecf l cf) (swo_el hlt) f cb g 0 c d0 w eg hL R.hH R.hblk (by omega)
  rw [hsz] at hcon
  refine hcon.mono ?_
  rintro e w' ⟨rfl, d', nq, os, hp, hs, hw'⟩
  refine ⟨rfl, ?_⟩
  have hS : SWK (eenc l) 2 w g 0 d' w' := ⟨nq, os, hw'⟩
  have hsz' : d'.size = n := by rw [hp.1, hsz]
  have full : ∀ d : Array (El l), d.size = n → d.extract 0 n = d := fun d hd => by rw [← hd]; simp
  have hperm := hp.2.2
  rw [full _ hsz', full _ hsz, hd0] at hperm
  obtain ⟨rest', h1, h2⟩ := sw_block (l := d0.toList) (rest := rest) (m := m) hS R (by rw [hsz', hsz]) (by rw [hcs]; exact hw) (by rw [hcs]; exact hm) (by rw [hsz', ← hsz]; simp)
  have e : d'.toList.flatMap (eenc l) = (d'.toList.map Subtype.val).flatMap Spn.cells := by rw [List.flatMap_map]; rfl
  rw [e] at h1 h2
  refine ⟨_, rest', ⟨?_, ?_⟩, h1, h2, sw_gb hS⟩
  · have := hperm.map Subtype.val
    rwa [List.toList_toArray, List.attach_map_subtype_val] at this
  · rw [List.pairwise_map, List.pairwise_iff_getElem]
    intro i j hi hj hij
    rw [Array.length_toList, hsz'] at hi hj
    have := hs i j (Nat.zero_le _) hij hj
    rw [getElem!_pos _ i (by rw [hsz']; exact hi), getElem!_pos _ j (by rw [hsz']; exact hj)] at this
    exact this
/-- the sort, at none -/
theorem ins0_any (A : Option Addr) (c : Nat) (fv : Value) (w : World) : Calls Tryz.prog 77 #[.slice A 0 c, .int .i64 0, .int .i64 0, fv] w fun e w' => e = .returned (.tuple #[]) ∧ w = w' := by
  go_enter Tryz.func77, Tryz.ntmps77
  go_wp2
  refine wp_loop_rounds 1 ?_
  rw [rounds_succ]
  go_wp2
  go_end0
  exact ⟨rfl, rfl⟩
theorem pdq0_any (A : Option Addr) (c : Nat) (lim : Int) (fv : Value) (w : World) : Calls Tryz.prog 71 #[.slice A 0 c, .int .i64 0, .int .i64 0, .int .i64 lim, fv] w fun e w' => e = .returned (.tuple #[]) ∧ w = w' := by
  go_enter Tryz.func71, Tryz.ntmps71
  go_wp2_with fail
  refine wp_loop_rounds 1 ?_
  rw [rounds_succ]
  go_wp2_with fail
  refine (ins0_any A c fv _).mono ?_
  rintro e w' ⟨rfl, rfl⟩
  go_wp2_with fail
  exact bodyPost_ret (v := .tuple #[]) (by simp [results, Tryz.results71, go_sem]) rfl ⟨rfl, rfl⟩
theorem sort0_any (A : Option Addr) (c : Nat) (fv : Value) (w : World) : Calls Tryz.prog 59 #[.slice A 0 c, fv] w fun e w' => e = .returned (.tuple #[]) ∧ w = w' := by
  have hl : Calls Tryz.prog 72 #[.int .u64 0] w fun e w' => e = .returned (.int .i64 (Lib.bitLen 0 : Nat)) ∧ w' = w :=
    Any.bits_Len (SlLaysF0.n15.bits (P := Tryz.prog) (ρ := ren) { lays with }) 0 w (by omega) (by omega)
  have HL := hidden hl
  clear hl
  go_enter Tryz.func59, Tryz.ntmps59
  go_wp2_with fail
  refine HL.out.mono ?_
  rintro e w' ⟨rfl, rfl⟩
  go_wp2_with fail
  refine (pdq0_any A c _ fv _).mono ?_
  rintro e w' ⟨rfl, rfl⟩
  go_wp2_with fail
  go_end0
  exact ⟨rfl, rfl⟩
/-- the sort at a row of the call's own -/
theorem sortAll_any (v : Value) (n base : Nat) (l : List Spn) (f : FuncId) (cb : Array Value) (cf : Spn → Spn → Int) (w : World) (eg : ∀ args w, (callFunc f args).run Tryz.prog w = .ok (.enter f args) w) (hlt : SWO fun x y => decide (cf x y < 0)) (hC : ∀ g, base ≤ g → CmpOk f cb cf l (fun W => w.grownBy W (some g)))
    (hown : w.ownsRow base 101 2 v n (l.flatMap Spn.cells)) (hl : l.length = n) (hn : n < 1152921504606846976) :
    Calls Tryz.prog 59 #[v, .func (.func f) #[] cb] w
      fun e w' => e = .returned (.tuple #[]) ∧ ∃ S, SrtRes (fun x y => decide (cf x y < 0)) l S ∧ w'.ownsRow base 101 2 v n (S.flatMap Spn.cells) ∧ w.grownBy w' v.ownBlock := by
  rcases Nat.eq_zero_or_pos n with h0 | h0
  · subst h0
    obtain rfl : l = [] := List.eq_nil_of_length_eq_zero hl
    obtain ⟨A, c, rfl, _, _⟩ := own_shape hown
    refine (sort0_any A c _ w).mono ?_
    rintro e w' ⟨rfl, rfl⟩
    exact ⟨rfl, [], ⟨List.Perm.refl _, List.Pairwise.nil⟩, hown, gb_refl _ _⟩
  · obtain ⟨g, c, rest, rfl, hg, hw, hnc, hc, _, hm⟩ := own_whole_g hk hown h0
    refine (sort_any g c n (c * 2) l rest f cb cf w eg hlt (hC g hg) hw hm hl hn h0).mono ?_
    rintro e w' ⟨rfl, S, rest', hS, hw', hm', hgb⟩
    exact ⟨rfl, S, hS, own_of_whole_g hk hg hw' hnc hc (by rw [hS.1.length_eq]; exact hl) hm', hgb⟩
end Go.Proofs.YtdggnnjjiolldaaGreat.SrfSpn

namespace Go.Proofs.YtdggnnjjiolldaaGreat
set_option maxRecDepth 100000
open Go.RowKit

theorem spnK (x : Spn) : x.cells.length = 2 := rfl
theorem spnOfDel_any (x : Spn) (w : World) : Calls Tryz.prog 58 #[.agg #[.int .i64 x.frm, .int .i64 x.til]] w fun e w' => e = .returned (.bool (decide (x.til < x.frm))) ∧ Below w.heap.size w w' := by
  go_enter Tryz.func58, Tryz.ntmps58
  go_wp2_with fail
  go_ret
  exact ⟨rfl, (Below.refl _ _).alloc (Nat.le_refl _) _⟩
theorem spnOfCmp_any (x y : Spn) (w : World) : Calls Tryz.prog 60 #[.agg #[.int .i64 x.frm, .int .i64 x.til], .agg #[.int .i64 y.frm, .int .i64 y.til]] w fun e w' => e = .returned (.int .i64 (cmpZ x.frm y.frm)) ∧ ∃ q os', w' = Go.Sort.grow (w.drewN q) os' := by
  go_enter Tryz.func60, Tryz.ntmps60
  go_wp2_with fail
  refine (cmp64_z _ _ _).mono ?_
  rintro e w' ⟨rfl, rfl⟩
  go_wp2_with fail
  go_ret
  exact ⟨rfl, ((Gr.refl _).alloc _).alloc _⟩

theorem put_til {w : World} {g : Nat} {T : TypeId} {M : List Spn} {z : Spn} {rest : List Value} (h : Whole1 w g T ((M ++ [z]).flatMap Spn.cells ++ rest).toArray) (u : Int) :
    Whole1 (w.setCell ⟨g, M.length * 2 + 1, none⟩ (.int .i64 u)) g T ((M ++ [(⟨z.frm, u⟩ : Spn)]).flatMap Spn.cells ++ rest).toArray := by
  have h1 := h.put (M.length * 2 + 1) (.int .i64 u)
  have hl : (M.flatMap Spn.cells).length = M.length * 2 := fm_len spnK M
  have e : ((M ++ [z]).flatMap Spn.cells ++ rest).toArray.setIfInBounds (M.length * 2 + 1) (.int .i64 u) = ((M ++ [(⟨z.frm, u⟩ : Spn)]).flatMap Spn.cells ++ rest).toArray := by
    rw [List.setIfInBounds_toArray, List.flatMap_append, List.flatMap_append, List.append_assoc, List.append_assoc, List.set_append_right _ _ (by omega), hl]
    simp [Spn.cells]
  rw [e] at h1
  exact h1

set_option maxHeartbeats 6400000 in
theorem spnOf_any (A : Option Addr) (n c : Nat) (l : List Spn) (w : World) (hr : Row w w.heap.size 2 A n (l.flatMap Spn.cells)) (hl : l.length = n) (hn : n * 16 ≤ 140737488351232) (hok : ∀ x ∈ l, x.ok) :
    Calls Tryz.prog 44 #[.slice A n c] w fun e w' => ∃ v R, e = .returned v ∧ w'.ownsRow w.heap.size 101 2 v R.length (R.flatMap Spn.cells) ∧ OfRes l R ∧ R.length ≤ n ∧ Below w.heap.size w w' := by
  obtain ⟨i0, hi, hz0, hz1, hz2⟩ := info_parts ClnSpn.info
  have eg1 : ∀ args w, (callFunc 58 args).run Tryz.prog w = .ok (.enter 58 args) w := enters_of Tryz.func58 (by kernel_rfl) rfl
  have eg2 : ∀ args w, (callFunc 60 args).run Tryz.prog w = .ok (.enter 60 args) w := enters_of Tryz.func60 (by kernel_rfl) rfl
  have S1 := hidden (ClnSpn.cloneO_any A n c l w hr hl hn)
  have HL := hidden hl
  have HE1 := hidden eg1
  have HE2 := hidden eg2
  have HO := hidden hok
  clear hr hl eg1 eg2 hok
  rcases Nat.eq_zero_or_pos n with h0 | h0
  · subst h0
    have hle : Hid (l = []) := List.eq_nil_of_length_eq_zero HL.out
    go_enter Tryz.func44, Tryz.ntmps44
    go_wp2_with fail
    refine S1.out.mono ?_
    rintro e w1 ⟨⟨sA, sn, sc, sl⟩, rfl, _, hsn, _, _, hb1, _⟩
    obtain rfl : sn = 0 := hsn
    have HB := hidden hb1
    simp only [Sl.val]
    clear S1 hb1
    go_wp2_with fail
    refine (DelSpn.delete0_any sA sc _ _).mono ?_
    rintro e w' ⟨rfl, rfl⟩
    go_wp2_with fail
    refine (SrfSpn.sort0_any sA sc _ _).mono ?_
    rintro e w' ⟨rfl, rfl⟩
    go_wp2_with fail
    refine wp_loop_rounds 1 ?_
    rw [rounds_succ]
    go_wp2_with fail
    go_ret
    exact ⟨_, [], rfl, World.ownsRow_nil _ _ _ _, by rw [hle.out]; exact OfRes.self OneS.nil, Nat.le_refl _, HB.out⟩
  · go_enter Tryz.func44, Tryz.ntmps44
    go_wp2_with fail
    refine S1.out.mono ?_
    rintro e w1 ⟨⟨sA, sn, sc, sl⟩, rfl, _, hsn, _, _, hb1, hown⟩
    obtain rfl : sn = n := hsn
    have hown' := hown h0
    simp only [Sl.val] at hown' ⊢
    have S2 := hidden (DelSpn.deleteAll_any _ sn w.heap.size l 58 #[] (fun s => decide (s.til < s.frm)) w1 HE1.out (fun g hg x hx W hW => spnOfDel_any x W) hown' HL.out (by omega))
    have B1 := hidden hb1
    clear S1 hown hown' hb1
    go_wp2_with fail
    refine S2.out.mono ?_
    rintro e w2 ⟨v2, rfl, ho2, hg2, hv2⟩
    have hfl : (fullS l).length ≤ sn := by rw [← HL.out]; exact List.length_filter_le _ _
    have ho2' : w2.ownsRow w.heap.size 101 2 v2 (fullS l).length ((fullS l).flatMap Spn.cells) := ho2
    have B2 := hidden (B1.out.grown hg2 B1.out.size (fun q hq => (ho2.lt q (hv2.trans hq)).1))
    have S3 := hidden (SrfSpn.sortAll_any v2 _ w.heap.size (fullS l) 60 #[] (fun x y => cmpZ x.frm y.frm) w2 HE2.out (swo_at Spn.frm) (fun g hg x hx y hy W hW => spnOfCmp_any x y W) ho2' rfl (by omega))
    obtain ⟨A2, c2, rfl, _, _⟩ := own_shape ho2'
    clear S2 ho2 hg2 hv2 B1
    go_wp2_with fail
    refine S3.out.mono ?_
    rintro e w3 ⟨rfl, S, hS, ho3, hg3⟩
    have B3 := hidden (B2.out.grown hg3 B2.out.size (fun q hq => (ho3.lt q hq).1))
    have hr3 := Row.of_own ho3
    have HS := hidden hS
    generalize hm : (fullS l).length = m at *
    have hSl : Hid (S.length = m) := by rw [Hid, hS.1.length_eq]; exact hm
    have HR := hidden hr3
    clear S3 ho2' hg3 B2 hr3 hS ho3 hm
    go_wp2_with fail
    go_loopw [4, 15] (fun v i wr => ∃ (k : Nat) (R : List Spn) (vo : Value), vo = v ∧ k ≤ m ∧ i = .int .i64 k ∧ wr.ownsRow w3.heap.size 101 2 vo R.length (R.flatMap Spn.cells) ∧ Hid (R = joinAll (S.take k)) ∧ Hid (∀ y ∈ R, y.ok) ∧ R.length ≤ k ∧ Below w3.heap.size w3 wr) (fun _ i _ => m - (intOf i).toNat)
    case atStart => exact ⟨0, [], _, rfl, Nat.zero_le _, rfl, World.ownsRow_nil _ _ _ _, rfl, hidden (by simp), Nat.le_refl _, Below.refl _ _⟩
    case round =>
      obtain ⟨k, R, vo, rfl, hk, rfl, hown, hj, hRo, hRk, hb⟩ := hrel
      by_cases hlt : k < m
      · obtain ⟨gs, o, x, rfl, hgs, hx, hcl⟩ := row_at spnK (HR.out.below hb) hSl.out k hlt
        have c0 : wr.cell? ⟨gs, o + k * 2, none⟩ = some (.int .i64 x.frm) := hcl 0 (by omega)
        have c1 : wr.cell? ⟨gs, o + k * 2 + 1, none⟩ = some (.int .i64 x.til) := hcl 1 (by omega)
        have hT : Hid (joinAll (S.take (k + 1)) = joinStep R x) := by rw [Hid, take_snoc? hx, joinAll_snoc, ← hj.out]
        have hkz : (k : Int) < (m : Int) := by omega
        have hxo : x.ok := HO.out x (List.mem_filter.1 (HS.out.1.mem_iff.1 (List.mem_of_getElem? hx))).1
        obtain ⟨x1, x2, x3, x4⟩ := hxo
        clear hx hcl
        have hbs := hb.size
        rcases List.eq_nil_or_concat R with rfl | ⟨M, z, rfl⟩
        · obtain ⟨A4, c4, rfl, _, _⟩ := own_shape hown
          have HT := hidden (hT.out.trans (joinStep_nil x))
          clear hT
          go_upto_region 7 with (fail)
          have hY := Whole1.new wr 101 #[.int .i64 x.frm, .int .i64 x.til]
          have hownA := hown.alloc (.cells #[.int .i64 x.frm, .int .i64 x.til] 101)
          have hbA := hb.alloc hbs (.cells #[.int .i64 x.frm, .int .i64 x.til] 101)
          generalize wr.alloc (.cells #[.int .i64 x.frm, .int .i64 x.til] 101) = wa at hY hownA hbA ⊢
          obtain ⟨X, hX⟩ : ∃ X, wr.heap.size = X := ⟨_, rfl⟩
          rw [hX] at hY ⊢
          have d0 := hY.cell 0
          have d1 := hY.cell 1
          have HY := hidden hY
          clear hY hX hown hb hbs c0 c1
          go_wp2_with fail
          go_quiet (fail)
          generalize hwb : wa.drewN nq = wb
          have hownB : wb.ownsRow w3.heap.size 101 2 _ _ _ := hwb ▸ own_drewN hownA nq
          have hYB : Whole1 wb X 101 #[.int .i64 x.frm, .int .i64 x.til] := hwb ▸ HY.out.drewN nq
          have hbB : Below w3.heap.size w3 wb := hwb ▸ below_drewN hbA nq
          have k0 := hYB.cell 0
          have k1 := hYB.cell 1
          have hbs := hbB.size
          have hfr := Row.fresh wb 101 2 1 [.int .i64 x.frm, .int .i64 x.til] rfl
          clear hwb hYB HY d0 d1 hownA hbA
          go_wp2_with (at_builtin; refine wpList_app _ rfl _ _ 64 rfl w3.heap.size 101 i0 _ 2 16 Tryz.underlying64 hi hz0 hz1 hz2 rfl (by decide) _ _ _ rfl (hownB.alloc _) _ _ _ _ _ rfl hfr (by simp [Value.oneCell']) (by unfold maxLen; omega) (by omega) (by simp; omega) ?_; intro v9 w9 hown9 hg9 hat9)
          go_roundw
          case rel =>
            refine ⟨k + 1, [x], v9, rfl, by omega, by go_num, hown9, HT.out.symm, hidden (by intro y hy; rw [List.mem_singleton.1 hy]; exact ⟨x1, x2, x3, x4⟩), by simp, (hbB.alloc hbs _).grown hg9 (by simp; omega) (fun q hq => (hownB.lt q hq).1)⟩
          case measure => simp [intOf]; omega
        · rw [List.concat_eq_append] at *
          have hownL : wr.ownsRow w3.heap.size 101 2 vo (M.length + 1) ((M ++ [z]).flatMap Spn.cells) := (by simp : (M ++ [z]).length = M.length + 1) ▸ hown
          clear hown
          obtain ⟨g, cap, rest, rfl, hg, hw, hnc, hc, _, hm2⟩ := own_whole_g spnK hownL (by omega)
          have HT := hidden (hT.out.trans (joinStep_snoc M z x))
          have hml : M.length + 1 ≤ k := by simpa using hRk
          clear hT
          go_upto_region 7 with (fail)
          have hY := Whole1.new wr 101 #[.int .i64 x.frm, .int .i64 x.til]
          have hownA := hownL.alloc (.cells #[.int .i64 x.frm, .int .i64 x.til] 101)
          have hbA := hb.alloc hbs (.cells #[.int .i64 x.frm, .int .i64 x.til] 101)
          have hwA := hw.alloc (.cells #[.int .i64 x.frm, .int .i64 x.til] 101)
          generalize wr.alloc (.cells #[.int .i64 x.frm, .int .i64 x.til] 101) = wa at hY hownA hbA hwA ⊢
          obtain ⟨X, hX⟩ : ∃ X, wr.heap.size = X := ⟨_, rfl⟩
          have hgX : g < X := by rw [← hX]; exact hw.lt
          rw [hX] at hY ⊢
          have d0 := hY.cell 0
          have d1 := hY.cell 1
          have e1 : wa.cell? ⟨g, M.length * 2 + 1, none⟩ = some (.int .i64 z.til) := by
            rw [hwA.cell, List.getElem?_toArray, List.getElem?_append_left (by rw [fm_len spnK]; simp; omega), fm_at spnK _ M.length z 1 (by simp) (by omega)]; rfl
          have HY := hidden hY
          have HW := hidden hwA
          clear hY hX hownL hb hbs c0 c1 hw hwA
          have l1 : decide ((M.length : Int) < 0) = false := by simp
          have l2 : (0 : Int) ≤ (M.length : Int) := by omega
          have l3 : (M.length : Int) < (M.length : Int) + 1 := by omega
          obtain ⟨z1, z2, z3, z4⟩ := hRo.out z (by simp)
          by_cases q1 : z.til < x.frm
          · by_cases q2 : z.til < x.frm - 1
            · go_wp2_with fail
              go_quiet (fail)
              generalize hwb : wa.drewN nq = wb
              have hownB : wb.ownsRow w3.heap.size 101 2 _ _ _ := hwb ▸ own_drewN hownA nq
              have hYB : Whole1 wb X 101 #[.int .i64 x.frm, .int .i64 x.til] := hwb ▸ HY.out.drewN nq
              have hbB : Below w3.heap.size w3 wb := hwb ▸ below_drewN hbA nq
              have k0 := hYB.cell 0
              have k1 := hYB.cell 1
              have hbs := hbB.size
              have hfr := Row.fresh wb 101 2 1 [.int .i64 x.frm, .int .i64 x.til] rfl
              clear hwb hYB HY d0 d1 hownA hbA
              go_wp2_with (at_builtin; refine wpList_app _ rfl _ _ 64 rfl w3.heap.size 101 i0 _ 2 16 Tryz.underlying64 hi hz0 hz1 hz2 rfl (by decide) _ _ _ rfl (hownB.alloc _) _ _ _ _ _ rfl hfr (by simp [Value.oneCell']) (by unfold maxLen; omega) (by omega) (by simp; omega) ?_; intro v9 w9 hown9 hg9 hat9)
              go_roundw
              case rel =>
                refine ⟨k + 1, M ++ [z] ++ [x], v9, rfl, by omega, by go_num, (by rw [List.flatMap_append, List.length_append, List.length_append]; exact hown9), hidden (HT.out.trans (if_pos ⟨q1, q2⟩)).symm, hidden (fun y hy => by
                  rcases List.mem_append.1 hy with hy | hy
                  · exact hRo.out y hy
                  · rw [List.mem_singleton.1 hy]; exact ⟨x1, x2, x3, x4⟩), by simp; omega, (hbB.alloc hbs _).grown hg9 (by simp; omega) (fun q hq => (hownB.lt q hq).1)⟩
              case measure => simp [intOf]; omega
            · have q3 : decide (z.til < x.frm - 1) = false := decide_eq_false q2
              go_wp2_with fail
              go_quiet (fail)
              generalize hwb : wa.drewN nq = wb
              have hWB : Whole1 wb g 101 _ := hwb ▸ HW.out.drewN nq
              have hYB : Whole1 wb X 101 #[.int .i64 x.frm, .int .i64 x.til] := hwb ▸ HY.out.drewN nq
              have hbB : Below w3.heap.size w3 wb := hwb ▸ below_drewN hbA nq
              have k1 := hYB.cell 1
              have f1 := hWB.free (M.length * 2 + 1)
              have e2 : wb.cell? ⟨g, M.length * 2 + 1, none⟩ = some (.int .i64 z.til) := hwb ▸ e1
              have HWB := hidden hWB
              clear hwb hWB hYB HY HW d0 d1 e1 hownA hbA
              go_wp2_with fail
              go_still_tail 12, (by kernel_rfl)
              change wpList _ _ _ _ _ wb.drew
              go_wp2_with fail
              go_roundw
              case rel =>
                have hmx : (if z.til < x.til then x.til else z.til) = max z.til x.til := by split <;> omega
                have hW2 := put_til HWB.out (max z.til x.til)
                refine ⟨k + 1, M ++ [(⟨z.frm, max z.til x.til⟩ : Spn)], _, rfl, by omega, by go_num, ?_, hidden (HT.out.trans ((if_neg (fun h => absurd h.2 (by omega))).trans (by rw [hmx]))).symm, hidden (fun y hy => ?_), by simp; omega, ?_⟩
                · rw [List.length_append, List.length_singleton]
                  exact own_of_whole_g spnK hg hW2.drew hnc hc (by simp) (by rw [List.length_append, fm_len spnK] at hm2 ⊢; simpa using hm2)
                · rcases List.mem_append.1 hy with hy | hy
                  · exact hRo.out y (List.mem_append_left _ hy)
                  · rw [List.mem_singleton.1 hy]
                    exact ⟨z1, z2, by show _ ≤ max z.til x.til; omega, by show max z.til x.til < _; omega⟩
                · exact (hbB.setCell (p := ⟨g, M.length * 2 + 1, none⟩) hg _).drew
              case measure => simp [intOf]; omega
          · have q3 : decide (z.til < x.frm) = false := decide_eq_false q1
            go_wp2_with fail
            go_quiet (fail)
            generalize hwb : wa.drewN nq = wb
            have hWB : Whole1 wb g 101 _ := hwb ▸ HW.out.drewN nq
            have hYB : Whole1 wb X 101 #[.int .i64 x.frm, .int .i64 x.til] := hwb ▸ HY.out.drewN nq
            have hbB : Below w3.heap.size w3 wb := hwb ▸ below_drewN hbA nq
            have k1 := hYB.cell 1
            have f1 := hWB.free (M.length * 2 + 1)
            have e2 : wb.cell? ⟨g, M.length * 2 + 1, none⟩ = some (.int .i64 z.til) := hwb ▸ e1
            have HWB := hidden hWB
            clear hwb hWB hYB HY HW d0 d1 e1 hownA hbA
            go_wp2_with fail
            go_still_tail 12, (by kernel_rfl)
            change wpList _ _ _ _ _ wb.drew
            go_wp2_with fail
            go_roundw
            case rel =>
              have hmx : (if z.til < x.til then x.til else z.til) = max z.til x.til := by split <;> omega
              have hW2 := put_til HWB.out (max z.til x.til)
              refine ⟨k + 1, M ++ [(⟨z.frm, max z.til x.til⟩ : Spn)], _, rfl, by omega, by go_num, ?_, hidden (HT.out.trans ((if_neg (fun h => absurd h.1 (by omega))).trans (by rw [hmx]))).symm, hidden (fun y hy => ?_), by simp; omega, ?_⟩
              · rw [List.length_append, List.length_singleton]
                exact own_of_whole_g spnK hg hW2.drew hnc hc (by simp) (by rw [List.length_append, fm_len spnK] at hm2 ⊢; simpa using hm2)
              · rcases List.mem_append.1 hy with hy | hy
                · exact hRo.out y (List.mem_append_left _ hy)
                · rw [List.mem_singleton.1 hy]
                  exact ⟨z1, z2, by show _ ≤ max z.til x.til; omega, by show max z.til x.til < _; omega⟩
              · exact (hbB.setCell (p := ⟨g, M.length * 2 + 1, none⟩) hg _).drew
            case measure => simp [intOf]; omega
      · obtain rfl : m = k := by omega
        have hE := hidden (show S.take m = S from List.take_of_length_le (by rw [hSl.out]; exact Nat.le_refl _))
        go_wp2_with fail
        go_ret
        refine ⟨_, R, rfl, own_more hown (by have := B3.out.size; omega), ?_, by omega, B3.out.trans (hb.mono B3.out.size)⟩
        rw [hj.out, hE.out]
        refine ofRes_join HS.out.1 ?_
        refine HS.out.2.imp fun {a b} h => ?_
        have h2 := (cmpZ_lt b.frm a.frm).symm.trans h
        simpa using h2
end Go.Proofs.YtdggnnjjiolldaaGreat
