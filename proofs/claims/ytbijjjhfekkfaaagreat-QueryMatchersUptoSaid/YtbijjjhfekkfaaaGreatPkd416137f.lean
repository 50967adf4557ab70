/- slices.SortStableFunc at windows, whatever order: what it leaves. Condition: the order has a contract, the row is within the reach. -/
import Derived.Test.YtbijjjhfekkfaaaGreatStabWin
import Derived.Test.YtbijjjhfekkfaaaGreatPkeab15ca0
import Derived.Test.YtbijjjhfekkfaaaGreatPkc787b734
namespace Go.Proofs.YtbijjjhfekkfaaaGreat.SrtWin
set_option maxRecDepth 100000
open Go.Shelf Go.RowKit Go.Lib Go.Sort

theorem bears : StabWin.Bears Tryz.prog 6 where
  mixed := by kernel_rfl
  fsw := Tryz.func314
  frot := Tryz.func294
  fsym := Tryz.func259
  fstab := Tryz.func213
  fsort := Tryz.func147
  esw := enters_of Tryz.func314 (by kernel_rfl) rfl
  erot := enters_of Tryz.func294 (by kernel_rfl) rfl
  esym := enters_of Tryz.func259 (by kernel_rfl) rfl
  estab := enters_of Tryz.func213 (by kernel_rfl) rfl
  eins := enters_of Tryz.func258 (by kernel_rfl) rfl
  t0 := by kernel_rfl
  a0 := fun w => by kernel_rfl
  z0 := fun w => by kernel_rfl
  v0 := fun w => by kernel_rfl
  t3 := by kernel_rfl
  a3 := fun w => by kernel_rfl
  z3 := fun w => by kernel_rfl
  v3 := fun w => by kernel_rfl
  t4 := by kernel_rfl
  a4 := fun w => by kernel_rfl
  z4 := fun w => by kernel_rfl
  v4 := fun w => by kernel_rfl
  tu := by kernel_rfl
  au := fun w => by kernel_rfl
  zu := fun w => by kernel_rfl
  vu := fun w => by kernel_rfl
  ts := by kernel_rfl
  as_ := fun w => by kernel_rfl
  zs := fun w => by kernel_rfl
  vs := fun w => by kernel_rfl
  tf := by kernel_rfl
  af := fun w => by kernel_rfl
  zf := fun w => by kernel_rfl
  vf := fun w => by kernel_rfl
  aE := fun w => by kernel_rfl
  zE := fun w => by kernel_rfl

def ren : Ren := { f := fun n => if n = 20 then 258 else 0, t := fun n => if n = 0 then 0 else if n = 3 then 3 else if n = 4 then 4 else if n = 22 then 55 else if n = 24 then 159 else if n = 25 then 291 else 0, g := fun _ => 0 }
theorem lays : SlLaysF0.n20 Tryz.prog ren where
  mixed := by kernel_rfl
  f20 := ⟨_, by kernel_rfl, Tryz.func258⟩
  t0 := by kernel_rfl
  a0 := fun w => by kernel_rfl
  z0 := fun w => by kernel_rfl
  v0 := fun w => by kernel_rfl
  t3 := by kernel_rfl
  a3 := fun w => by kernel_rfl
  z3 := fun w => by kernel_rfl
  v3 := fun w => by kernel_rfl
  t4 := by kernel_rfl
  a4 := fun w => by kernel_rfl
  z4 := fun w => by kernel_rfl
  v4 := fun w => by kernel_rfl
  t22 := by kernel_rfl
  a22 := fun w => by kernel_rfl
  z22 := fun w => by kernel_rfl
  v22 := fun w => by kernel_rfl
  t25 := by kernel_rfl
  a25 := fun w => by kernel_rfl
  z25 := fun w => by kernel_rfl
  v25 := fun w => by kernel_rfl

theorem hk (x : Win) : x.cells.length = 6 := rfl
theorem one (x : Win) : ∀ u ∈ x.cells, u.oneCell' = true := by
  intro u hu
  simp only [Win.cells, List.mem_cons, List.not_mem_nil, or_false] at hu
  rcases hu with rfl | rfl | rfl | rfl | rfl | rfl <;> rfl

/-- what is asked of an order -/
def CmpOk (f : FuncId) (cb : Array Value) (cf : Win → Win → Int) (l : List Win) (ok : World → Prop) : Prop :=
  ∀ x ∈ l, ∀ y ∈ l, ∀ W, ok W → Calls Tryz.prog f (#[.agg #[.int .i64 x.start, .int .i64 x.count, .int .u64 ((x.sum : Nat) : Int), .int .u64 ((x.min : Nat) : Int), .int .u64 ((x.max : Nat) : Int), .int .u64 ((x.last : Nat) : Int)], .agg #[.int .i64 y.start, .int .i64 y.count, .int .u64 ((y.sum : Nat) : Int), .int .u64 ((y.min : Nat) : Int), .int .u64 ((y.max : Nat) : Int), .int .u64 ((y.last : Nat) : Int)]] ++ cb) W fun e w2 => e = .returned (.int .i64 (cf x y)) ∧ ∃ q os', w2 = grow (W.drewN q) os'

/-- elements of the list -/
abbrev El (l : List Win) := {x : Win // x ∈ l}
def eenc (l : List Win) (u : El l × Nat) : List Value := u.1.1.cells
def ecf (l : List Win) (cf : Win → Win → Int) (u v : El l × Nat) : Int := cf u.1.1 v.1.1
theorem attach_cells (l : List Win) : (l.attach.zipIdx.toArray.toList).flatMap (eenc l) = l.flatMap Win.cells := by
  have h : l.attach.zipIdx.toArray.toList.map (fun u : El l × Nat => u.1.1) = l := by
    have h1 : l.attach.zipIdx.map Prod.fst = l.attach := by simp
    have h2 := congrArg (List.map Subtype.val) h1
    rw [List.map_map, List.attach_map_subtype_val] at h2
    exact h2
  have h3 := List.flatMap_map (fun u : El l × Nat => u.1.1) Win.cells l.attach.zipIdx.toArray.toList
  rw [h] at h3
  exact h3.symm

section
variable (f : FuncId) (cb : Array Value) (cf : Win → Win → Int) (g c : Nat) (l : List Win) (rest : List Value)
theorem ins_ok [Inhabited (El l)] (cap : Nat) (d0 : Array (El l × Nat)) (w0 : World) (eg : ∀ args w, (callFunc f args).run Tryz.prog w = .ok (.enter f args) w) (hC : CmpLays Tryz.prog f cb (eenc l) 6 (ecf l cf) g 0 d0.size w0) (R : RowK (eenc l) 6 w0 g 0 d0) (hsz : d0.size < 4611686018427387904) :
    StabWin.InsOk (P := Tryz.prog) 6 (eenc l) (ecf l cf) f cb g 0 cap d0 w0 := by
  intro a b d w hab hb hs S
  have hC' : CmpLays Tryz.prog f cb (eenc l) 6 (ecf l cf) g 0 d.size w := by
    intro m os dk hdk x y
    obtain ⟨n0, os0, rfl⟩ := S
    have h2 := hC (n0 + m) (os0 ++ os) dk (hdk.trans hs) x y
    rw [sortWorldK_on (eenc l) 6 w0 g 0 n0 m d dk os0 os R.hblk hdk]
    exact h2
  have h := AnyQ.insertionSortCmpFunc lays 6 (fun w => by kernel_rfl) (fun w => by kernel_rfl) (eenc l) R.hk R.h1 (ecf l cf) f cb g 0 cap a b d w eg hC' (S.holds R.hblk R.hH hs) (S.lt R.hblk) hab (by omega) (by omega)
  rw [hs] at h
  refine h.mono ?_
  rintro e w' ⟨rfl, n, os, rfl⟩
  exact ⟨rfl, S.on R.hblk n _ os (insertionSort_size (ltOf (ecf l cf)) d a b)⟩
end

/-- a stable sort of l -/
def SrtRes (lt : Win → Win → Bool) (l S : List Win) : Prop := S.Perm l ∧ (S.Pairwise fun x y => lt y x = false) ∧ ∀ P : Win → Bool, (∀ x y, P x = true → P y = true → lt x y = false) → S.filter P = l.filter P
theorem swo_el {l : List Win} {cf : Win → Win → Int} (h : SWO fun x y => decide (cf x y < 0)) : SWO fun x y : El l => decide (cf x.1 y.1 < 0) where
  irrefl x := h.irrefl x.1
  trans x y z := h.trans x.1 y.1 z.1
  ntrans x y z := h.ntrans x.1 y.1 z.1

/-- the sort, at none -/
theorem ins0_any (A : Option Addr) (c : Nat) (fv : Value) (w : World) : Calls Tryz.prog 258 #[.slice A 0 c, .int .i64 0, .int .i64 0, fv] w fun e w' => e = .returned (.tuple #[]) ∧ w = w' := by
  go_enter Tryz.func258, Tryz.ntmps258
  go_wp2
  refine wp_loop_rounds 1 ?_
  rw [rounds_succ]
  go_wp2
  go_end0
  exact ⟨rfl, rfl⟩
theorem stable0_any (A : Option Addr) (c : Nat) (fv : Value) (w : World) : Calls Tryz.prog 213 #[.slice A 0 c, .int .i64 0, fv] w fun e w' => e = .returned (.tuple #[]) ∧ w = w' := by
  go_enter Tryz.func213, Tryz.ntmps213
  go_wp2_with fail
  refine wp_loop_rounds 1 ?_
  rw [rounds_succ]
  go_wp2_with fail
  refine (ins0_any A c fv _).mono ?_
  rintro e w' ⟨rfl, rfl⟩
  go_wp2_with fail
  refine wp_loop_rounds 1 ?_
  rw [rounds_succ]
  go_wp2
  go_end0
  exact ⟨rfl, rfl⟩
theorem sort0_any (A : Option Addr) (c : Nat) (fv : Value) (w : World) : Calls Tryz.prog 147 #[.slice A 0 c, fv] w fun e w' => e = .returned (.tuple #[]) ∧ w = w' := by
  go_enter Tryz.func147, Tryz.ntmps147
  go_wp2_with fail
  refine (stable0_any A c fv _).mono ?_
  rintro e w' ⟨rfl, rfl⟩
  go_wp2
  go_end0
  exact ⟨rfl, rfl⟩

set_option maxHeartbeats 1600000 in
/-- THE SORT: the block holds a stable sort of what it held. -/
theorem sort_any (g c n m : Nat) (l : List Win) (rest : List Value) (f : FuncId) (cb : Array Value) (cf : Win → Win → Int) (w : World) (eg : ∀ args w, (callFunc f args).run Tryz.prog w = .ok (.enter f args) w) (hlt : SWO fun x y => decide (cf x y < 0)) (hC : CmpOk f cb cf l (fun W => w.grownBy W (some g)))
    (hw : Whole1 w g 159 (l.flatMap Win.cells ++ rest).toArray) (hm : (l.flatMap Win.cells ++ rest).length = m) (hl : l.length = n) (hn : n < 1152921504606846976) (h0 : 0 < n) :
    Calls Tryz.prog 147 #[.slice (some ⟨g, 0, none⟩) n c, .func (.func f) #[] cb] w
      fun e w' => e = .returned (.tuple #[]) ∧ ∃ S rest', SrtRes (fun x y => decide (cf x y < 0)) l S ∧ Whole1 w' g 159 (S.flatMap Win.cells ++ rest').toArray ∧ (S.flatMap Win.cells ++ rest').length = m ∧ w.grownBy w' (some g) := by
  have hne : l ≠ [] := by intro h; rw [h] at hl; simp at hl; omega
  haveI : Inhabited (El l) := ⟨⟨l.head hne, List.head_mem hne⟩⟩
  obtain ⟨d0, hd0⟩ : ∃ d0 : Array (El l × Nat), d0 = l.attach.zipIdx.toArray := ⟨_, rfl⟩
  have hcs : d0.toList.flatMap (eenc l) = l.flatMap Win.cells := by rw [hd0]; exact attach_cells l
  have hsz : d0.size = n := by rw [hd0]; simpa using hl
  have R : RowK (eenc l) 6 w g 0 d0 := by
    refine ⟨fun _ => rfl, fun x v hv => one x.1.1 v hv, holdsK_of_cells' (enc := (eenc l)) (k := 6) (off := 0) (d := d0) (fun _ => rfl) fun j hj => ⟨?_, hw.free _⟩, hw.lt⟩
    rw [hcs, Nat.zero_add, hw.cell, List.getElem?_toArray, List.getElem?_append_left (by rw [fm_len hk, hl, ← hsz]; exact hj)]
  have hL : CmpLays Tryz.prog f cb (eenc l) 6 (ecf l cf) g 0 d0.size w := by
    intro mm os dk hdk x y
    exact hC x.1.1 x.1.2 y.1.1 y.1.2 _ (sw_gb (enc := (eenc l)) (k := 6) ⟨mm, os, rfl⟩)
  have hcon := hidden (StabWin.stable_any 6 bears (eenc l) (ecf l cf) f cb g 0 c d0 w eg hL R (ins_ok f cb cf g l c d0 w eg hL R (by omega)) (by omega) w (SWK.start R.hH))
  have hstab := stab_ok (lt := fun x y : El l => decide (cf x.1 y.1 < 0)) (swo_el hlt) l.attach
  have hfin : ∀ w', SWK (eenc l) 6 w g 0 (stable (ltOf (ecf l cf)) d0.size d0) w' → ∃ S rest', SrtRes (fun x y => decide (cf x y < 0)) l S ∧ Whole1 w' g 159 (S.flatMap Win.cells ++ rest').toArray ∧ (S.flatMap Win.cells ++ rest').length = m ∧ w.grownBy w' (some g) := by
    intro w' hS
    have hsl : (stable (ltOf (ecf l cf)) n d0).toList.length = n := by
      have := hstab.1.length_eq
      rw [List.length_zipIdx, List.length_attach, hl] at this
      rw [hd0]
      exact this
    have hss : (stable (ltOf (ecf l cf)) d0.size d0).size = d0.size := by
      rw [hsz, ← Array.length_toList]
      exact hsl
    obtain ⟨rest', h1, h2⟩ := sw_block (l := d0.toList) (rest := rest) (m := m) hS R hss (by rw [hcs]; exact hw) (by rw [hcs]; exact hm) (by rw [hss]; simp)
    have e : (stable (ltOf (ecf l cf)) d0.size d0).toList.flatMap (eenc l) = ((stab (fun x y : El l => decide (cf x.1 y.1 < 0)) l.attach).map Subtype.val).flatMap Win.cells := by
      unfold stab
      rw [List.flatMap_map, List.flatMap_map, List.length_attach, hl, hsz, hd0]
      rfl
    rw [e] at h1 h2
    refine ⟨_, rest', ⟨?_, ?_, ?_⟩, h1, h2, sw_gb hS⟩
    · have := (stab_perm (swo_el hlt) l.attach).map Subtype.val
      rwa [List.attach_map_subtype_val] at this
    · rw [List.pairwise_map]
      exact stab_sorted (swo_el hlt) l.attach
    · intro P hP
      have h3 := stab_filter (swo_el hlt) l.attach (fun x => P x.1) (fun x y hx hy => hP x.1 y.1 hx hy)
      have h4 := congrArg (List.map Subtype.val) h3
      have e2 : ∀ M : List (El l), (M.filter (fun x => P x.1)).map Subtype.val = (M.map Subtype.val).filter P := fun M => by rw [List.filter_map]; rfl
      rw [e2, e2, List.attach_map_subtype_val] at h4
      exact h4
  have HF := hidden hfin
  rw [hsz] at hcon
  clear hfin hstab hL R hcs hC eg hw hm
  go_enter Tryz.func147, Tryz.ntmps147
  go_wp2_with fail
  refine hcon.out.mono ?_
  rintro e w' ⟨rfl, hS⟩
  have HS := hidden (HF.out w' (by rw [hsz]; exact hS))
  clear hS
  go_wp2
  go_end0
  exact ⟨rfl, HS.out⟩
end Go.Proofs.YtbijjjhfekkfaaaGreat.SrtWin
