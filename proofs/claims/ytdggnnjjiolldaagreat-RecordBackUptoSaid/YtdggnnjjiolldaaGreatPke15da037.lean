/- almanaclaw15's copies of a record for the reference, walked. Condition: the record's rows show what it says. -/
import Derived.Test.YtdggnnjjiolldaaGreatPk73c6f7c3
import Derived.Test.YtdggnnjjiolldaaGreatPkd7a12640
import Derived.Test.YtdggnnjjiolldaaGreatPk55098a59
namespace Go.Proofs.YtdggnnjjiolldaaGreat
set_option maxRecDepth 100000
open Go.RowKit Go.Shelf

namespace TwnLbl
set_option maxHeartbeats 1600000 in
theorem labelsRef_any (A : Option Addr) (n cap : Nat) (l : List Lbl) (w : World) (hr : Row w w.heap.size 2 A n (l.flatMap Lbl.cells)) (hl : l.length = n) (hn : n * 32 ≤ 140737488351232) :
    Calls Tryz.prog 24 #[.slice A n cap] w fun e w' => ∃ v, e = .returned v ∧ w'.ownsRow w.heap.size 113 2 v n (l.flatMap Lbl.cells) ∧ Below w.heap.size w w' := by
  obtain ⟨i0, hi, hz0, hz1, hz2⟩ := info_parts rinfo
  have hL := hidden hl
  have HR := hidden hr
  clear hl hr
  go_enter Tryz.func24, Tryz.ntmps24
  go_wp2
  go_loopw [3, 8] (fun v i wr => ∃ k : Nat, k ≤ n ∧ i = .int .i64 k ∧ wr.ownsRow w.heap.size 113 2 v k ((l.take k).flatMap Lbl.cells) ∧ Below w.heap.size w wr) (fun _ i _ => n - (intOf i).toNat)
  case atStart => exact ⟨0, Nat.zero_le _, rfl, World.ownsRow_nil _ _ _ _, Below.refl _ _⟩
  case round =>
    obtain ⟨k, hk1, rfl, hown, hb⟩ := hrel
    by_cases hlt : k < n
    · obtain ⟨gs, o, x, rfl, hgs, hx, hcl⟩ := row_at hk (HR.out.below hb) hL.out k hlt
      have c0 : wr.cell? ⟨gs, o + k * 2, none⟩ = some (.string x.name) := hcl 0 (by omega)
      have c1 : wr.cell? ⟨gs, o + k * 2 + 1, none⟩ = some (.string x.value) := hcl 1 (by omega)
      have hT := hidden (take_snoc? hx)
      have hbs := hb.size
      clear hx hcl
      have hfr := Row.fresh (wr.alloc (Obj.cells #[.string x.name, .string x.value] 108)) 113 2 1 [.string x.name, .string x.value] rfl
      rw [World.size_alloc] at hfr
      go_wp2_with (at_builtin; refine wpList_app _ rfl _ _ 70 rfl w.heap.size 113 i0 _ 2 32 Tryz.underlying70 hi hz0 hz1 hz2 rfl (by decide) _ _ _ rfl ((hown.alloc _).alloc _) _ _ _ _ _ rfl hfr (by simp [Value.oneCell']) (by unfold maxLen; omega) (by omega) (by simp; omega) ?_; intro v1 w1 hown1 hg1 hat1)
      go_roundw
      case rel =>
        refine ⟨k + 1, by omega, by go_num, ?_, ?_⟩
        · rw [hT.out, snoc_cells]; exact hown1
        · exact ((hb.alloc hbs _).alloc (by simp; omega) _).grown hg1 (by simp; omega) (fun j hj => (hown.lt j hj).1)
      case measure => simp [intOf]; omega
    · obtain rfl : n = k := by omega
      go_wp2
      go_ret
      exact ⟨_, rfl, by rw [List.take_of_length_le (by rw [hL.out]; exact Nat.le_refl _)] at hown; exact hown, hb⟩
end TwnLbl
namespace TwnSpn
set_option maxHeartbeats 1600000 in
theorem spansRef_any (A : Option Addr) (n cap : Nat) (l : List Spn) (w : World) (hr : Row w w.heap.size 2 A n (l.flatMap Spn.cells)) (hl : l.length = n) (hn : n * 16 ≤ 140737488351232) :
    Calls Tryz.prog 25 #[.slice A n cap] w fun e w' => ∃ v, e = .returned v ∧ w'.ownsRow w.heap.size 114 2 v n (l.flatMap Spn.cells) ∧ Below w.heap.size w w' := by
  obtain ⟨i0, hi, hz0, hz1, hz2⟩ := info_parts rinfo
  have hL := hidden hl
  have HR := hidden hr
  clear hl hr
  go_enter Tryz.func25, Tryz.ntmps25
  go_wp2
  go_loopw [3, 8] (fun v i wr => ∃ k : Nat, k ≤ n ∧ i = .int .i64 k ∧ wr.ownsRow w.heap.size 114 2 v k ((l.take k).flatMap Spn.cells) ∧ Below w.heap.size w wr) (fun _ i _ => n - (intOf i).toNat)
  case atStart => exact ⟨0, Nat.zero_le _, rfl, World.ownsRow_nil _ _ _ _, Below.refl _ _⟩
  case round =>
    obtain ⟨k, hk1, rfl, hown, hb⟩ := hrel
    by_cases hlt : k < n
    · obtain ⟨gs, o, x, rfl, hgs, hx, hcl⟩ := row_at hk (HR.out.below hb) hL.out k hlt
      have c0 : wr.cell? ⟨gs, o + k * 2, none⟩ = some (.int .i64 x.frm) := hcl 0 (by omega)
      have c1 : wr.cell? ⟨gs, o + k * 2 + 1, none⟩ = some (.int .i64 x.til) := hcl 1 (by omega)
      have hT := hidden (take_snoc? hx)
      have hbs := hb.size
      clear hx hcl
      have hfr := Row.fresh (wr.alloc (Obj.cells #[.int .i64 x.frm, .int .i64 x.til] 101)) 114 2 1 [.int .i64 x.frm, .int .i64 x.til] rfl
      rw [World.size_alloc] at hfr
      go_wp2_with (at_builtin; refine wpList_app _ rfl _ _ 75 rfl w.heap.size 114 i0 _ 2 16 Tryz.underlying75 hi hz0 hz1 hz2 rfl (by decide) _ _ _ rfl ((hown.alloc _).alloc _) _ _ _ _ _ rfl hfr (by simp [Value.oneCell']) (by unfold maxLen; omega) (by omega) (by simp; omega) ?_; intro v1 w1 hown1 hg1 hat1)
      go_roundw
      case rel =>
        refine ⟨k + 1, by omega, by go_num, ?_, ?_⟩
        · rw [hT.out, snoc_cells]; exact hown1
        · exact ((hb.alloc hbs _).alloc (by simp; omega) _).grown hg1 (by simp; omega) (fun j hj => (hown.lt j hj).1)
      case measure => simp [intOf]; omega
    · obtain rfl : n = k := by omega
      go_wp2
      go_ret
      exact ⟨_, rfl, by rw [List.take_of_length_le (by rw [hL.out]; exact Nat.le_refl _)] at hown; exact hown, hb⟩
end TwnSpn

theorem infoNewQ : (Tryz.prog.info? 72).map (fun i => (i.zero, i.size, i.bytes)) = some (some (.agg #[.int .i64 0, .slice none 0 0]), 2, 32) := by kernel_rfl
theorem infoPntQ : (Tryz.prog.info? 74).map (fun i => (i.zero, i.size, i.bytes)) = some (some (.agg #[.int .i64 0, .int .i64 0, .int .u64 0]), 3, 24) := by kernel_rfl
theorem infoGonQ : (Tryz.prog.info? 77).map (fun i => (i.zero, i.size, i.bytes)) = some (some (.agg #[.int .i64 0, .int .i64 0, .slice none 0 0]), 3, 40) := by kernel_rfl

/-- a record for the reference that is being made -/
structure RAt (w0 : World) (g X : Nat) (N : List NewR) (M : List PntR) (G : List GonR) (vN vP vG : Value) (w : World) : Prop where
  out : Whole1 w X 36 #[vN, vP, vG]
  nown : w.ownsRow g 72 2 vN N.length (N.flatMap NewR.cells)
  pown : w.ownsRow g 74 3 vP M.length (M.flatMap PntR.cells)
  gown : w.ownsRow g 77 3 vG G.length (G.flatMap GonR.cells)
  labs : ∀ x ∈ N, w.ownsRow g 113 2 x.lab.val x.lab.l.length (x.lab.l.flatMap Lbl.cells)
  spns : ∀ x ∈ G, w.ownsRow g 114 2 x.sp.val x.sp.l.length (x.sp.l.flatMap Spn.cells)
  below : Below g w0 w
  base : w0.heap.size = g
  gX : g ≤ X
section
variable {w0 : World} {g X : Nat} {N : List NewR} {M : List PntR} {G : List GonR} {vN vP vG : Value} {w w' : World}
theorem RAt.le (h : RAt w0 g X N M G vN vP vG w) : g ≤ w.heap.size := by have := h.below.size; have := h.base; omega
theorem RAt.on (h : RAt w0 g X N M G vN vP vG w) (hb : Below w.heap.size w w') : RAt w0 g X N M G vN vP vG w' :=
  ⟨h.out.below hb h.out.lt, own_below h.nown hb (Nat.le_refl _), own_below h.pown hb (Nat.le_refl _), own_below h.gown hb (Nat.le_refl _),
    fun x hx => own_below (h.labs x hx) hb (Nat.le_refl _), fun x hx => own_below (h.spns x hx) hb (Nat.le_refl _), h.below.trans (hb.mono h.le), h.base, h.gX⟩
theorem RAt.putN (h : RAt w0 g X N M G vN vP vG w) (x : NewR) (hx : w.ownsRow g 113 2 x.lab.val x.lab.l.length (x.lab.l.flatMap Lbl.cells)) {v' : Value} (hown : w'.ownsRow g 72 2 v' (N.length + 1) (N.flatMap NewR.cells ++ x.cells)) (hg : w.grownBy w' vN.ownBlock) :
    RAt w0 g X (N ++ [x]) M G v' vP vG (w'.setCell ⟨X, 0, none⟩ v') := by
  have o1 := h.out.beside h.nown (by decide) hg
  have p1 := own_beside h.pown h.nown (by decide) hg
  have g1 := own_beside h.gown h.nown (by decide) hg
  have l1 : ∀ y ∈ N ++ [x], w'.ownsRow g 113 2 y.lab.val y.lab.l.length (y.lab.l.flatMap Lbl.cells) := fun y hy => by
    rcases List.mem_append.1 hy with hy | hy
    · exact own_beside (h.labs y hy) h.nown (by decide) hg
    · rw [List.mem_singleton.1 hy]; exact own_beside hx h.nown (by decide) hg
  have s1 := fun y hy => own_beside (h.spns y hy) h.nown (by decide) hg
  have b1 : Below g w0 w' := h.below.grown hg h.le fun k hk => (h.nown.lt k hk).1
  refine ⟨o1.put 0 v', ?_, Go.ownsRow_setCell_other p1 (a := ⟨X, 0, none⟩) (own_neT p1 o1 (by decide)) _, Go.ownsRow_setCell_other g1 (a := ⟨X, 0, none⟩) (own_neT g1 o1 (by decide)) _,
    fun y hy => Go.ownsRow_setCell_other (l1 y hy) (a := ⟨X, 0, none⟩) (own_neT (l1 y hy) o1 (by decide)) _, fun y hy => Go.ownsRow_setCell_other (s1 y hy) (a := ⟨X, 0, none⟩) (own_neT (s1 y hy) o1 (by decide)) _,
    b1.setCell (p := ⟨X, 0, none⟩) h.gX _, h.base, h.gX⟩
  have := Go.ownsRow_setCell_other hown (a := ⟨X, 0, none⟩) (own_neT hown o1 (by decide)) v'
  simpa using this
theorem RAt.putM (h : RAt w0 g X N M G vN vP vG w) (x : PntR) {v' : Value} (hown : w'.ownsRow g 74 3 v' (M.length + 1) (M.flatMap PntR.cells ++ x.cells)) (hg : w.grownBy w' vP.ownBlock) :
    RAt w0 g X N (M ++ [x]) G vN v' vG (w'.setCell ⟨X, 1, none⟩ v') := by
  have o1 := h.out.beside h.pown (by decide) hg
  have n1 := own_beside h.nown h.pown (by decide) hg
  have g1 := own_beside h.gown h.pown (by decide) hg
  have l1 := fun y hy => own_beside (h.labs y hy) h.pown (by decide) hg
  have s1 := fun y hy => own_beside (h.spns y hy) h.pown (by decide) hg
  have b1 : Below g w0 w' := h.below.grown hg h.le fun k hk => (h.pown.lt k hk).1
  refine ⟨o1.put 1 v', Go.ownsRow_setCell_other n1 (a := ⟨X, 1, none⟩) (own_neT n1 o1 (by decide)) _, ?_, Go.ownsRow_setCell_other g1 (a := ⟨X, 1, none⟩) (own_neT g1 o1 (by decide)) _,
    fun y hy => Go.ownsRow_setCell_other (l1 y hy) (a := ⟨X, 1, none⟩) (own_neT (l1 y hy) o1 (by decide)) _, fun y hy => Go.ownsRow_setCell_other (s1 y hy) (a := ⟨X, 1, none⟩) (own_neT (s1 y hy) o1 (by decide)) _,
    b1.setCell (p := ⟨X, 1, none⟩) h.gX _, h.base, h.gX⟩
  have := Go.ownsRow_setCell_other hown (a := ⟨X, 1, none⟩) (own_neT hown o1 (by decide)) v'
  simpa using this
theorem RAt.putG (h : RAt w0 g X N M G vN vP vG w) (x : GonR) (hx : w.ownsRow g 114 2 x.sp.val x.sp.l.length (x.sp.l.flatMap Spn.cells)) {v' : Value} (hown : w'.ownsRow g 77 3 v' (G.length + 1) (G.flatMap GonR.cells ++ x.cells)) (hg : w.grownBy w' vG.ownBlock) :
    RAt w0 g X N M (G ++ [x]) vN vP v' (w'.setCell ⟨X, 2, none⟩ v') := by
  have o1 := h.out.beside h.gown (by decide) hg
  have n1 := own_beside h.nown h.gown (by decide) hg
  have p1 := own_beside h.pown h.gown (by decide) hg
  have s1 : ∀ y ∈ G ++ [x], w'.ownsRow g 114 2 y.sp.val y.sp.l.length (y.sp.l.flatMap Spn.cells) := fun y hy => by
    rcases List.mem_append.1 hy with hy | hy
    · exact own_beside (h.spns y hy) h.gown (by decide) hg
    · rw [List.mem_singleton.1 hy]; exact own_beside hx h.gown (by decide) hg
  have l1 := fun y hy => own_beside (h.labs y hy) h.gown (by decide) hg
  have b1 : Below g w0 w' := h.below.grown hg h.le fun k hk => (h.gown.lt k hk).1
  refine ⟨o1.put 2 v', Go.ownsRow_setCell_other n1 (a := ⟨X, 2, none⟩) (own_neT n1 o1 (by decide)) _, Go.ownsRow_setCell_other p1 (a := ⟨X, 2, none⟩) (own_neT p1 o1 (by decide)) _, ?_,
    fun y hy => Go.ownsRow_setCell_other (l1 y hy) (a := ⟨X, 2, none⟩) (own_neT (l1 y hy) o1 (by decide)) _, fun y hy => Go.ownsRow_setCell_other (s1 y hy) (a := ⟨X, 2, none⟩) (own_neT (s1 y hy) o1 (by decide)) _,
    b1.setCell (p := ⟨X, 2, none⟩) h.gX _, h.base, h.gX⟩
  have := Go.ownsRow_setCell_other hown (a := ⟨X, 2, none⟩) (own_neT hown o1 (by decide)) v'
  simpa using this
end
/-- the rows of a record for the reference -/
structure RR (g : Nat) (r : RecR) (w : World) : Prop where
  nown : w.ownsRow g 72 2 r.news.val r.news.l.length (r.news.l.flatMap NewR.cells)
  pown : w.ownsRow g 74 3 r.pts.val r.pts.l.length (r.pts.l.flatMap PntR.cells)
  gown : w.ownsRow g 77 3 r.gones.val r.gones.l.length (r.gones.l.flatMap GonR.cells)
  labs : ∀ x ∈ r.news.l, w.ownsRow g 113 2 x.lab.val x.lab.l.length (x.lab.l.flatMap Lbl.cells)
  spns : ∀ x ∈ r.gones.l, w.ownsRow g 114 2 x.sp.val x.sp.l.length (x.sp.l.flatMap Spn.cells)
theorem RR.put {g : Nat} {r : RecR} {w : World} (h : RR g r w) {b : Nat} (hb : b < g) (i : Nat) (v : Value) : RR g r (w.setCell ⟨b, i, none⟩ v) :=
  ⟨ownsRow_setCell_below h.nown (a := ⟨b, i, none⟩) hb _, ownsRow_setCell_below h.pown (a := ⟨b, i, none⟩) hb _, ownsRow_setCell_below h.gown (a := ⟨b, i, none⟩) hb _, fun x hx => ownsRow_setCell_below (h.labs x hx) (a := ⟨b, i, none⟩) hb _, fun x hx => ownsRow_setCell_below (h.spns x hx) (a := ⟨b, i, none⟩) hb _⟩
theorem map_mem {α β : Type} {f : α → β} {l l' : List α} (h : l.map f = l'.map f) {x : α} (hx : x ∈ l) : ∃ y ∈ l', f y = f x := by
  have : f x ∈ l'.map f := by rw [← h]; exact List.mem_map_of_mem hx
  obtain ⟨y, hy, e⟩ := List.mem_map.1 this
  exact ⟨y, hy, e⟩
theorem RR.At {g : Nat} {r r0 : RecR} {w w0 : World} (h : RR g r w) (k : r0.At w0) (hn : r.news.l.map newV = r0.news.l.map newV) (hp : r.pts.l = r0.pts.l) (hg : r.gones.l.map gonV = r0.gones.l.map gonV) : r.At w := by
  have an := sl_own h.nown
  have ap := sl_own h.pown
  have ag := sl_own h.gown
  have ln := congrArg List.length hn
  have lg := congrArg List.length hg
  rw [List.length_map, List.length_map] at ln lg
  obtain ⟨k1, k2, k3, k4⟩ := k.few
  refine ⟨an, fun x hx => ?_, fun x hx => ?_, ap, fun x hx => k.ptI x (by rwa [← hp]), ag, fun x hx => ?_, fun x hx => ?_, ?_, ?_, ?_, ?_⟩
  · obtain ⟨y, hy, e⟩ := map_mem hn hx
    simp only [newV, Prod.mk.injEq] at e
    have hl := sl_own (h.labs x hx)
    have ky := (k.labs y hy).1
    exact ⟨⟨hl.2.2, hl.2.1, by have := hl.2.1; have := ky.fit; have := ky.len; rw [e.2] at this; omega, fun z hz => ky.sz z (by rw [e.2]; exact hz)⟩, hl.1⟩
  · obtain ⟨y, hy, e⟩ := map_mem hn hx
    simp only [newV, Prod.mk.injEq] at e
    rw [← e.1]; exact k.newI y hy
  · obtain ⟨y, hy, e⟩ := map_mem hg hx
    simp only [gonV, Prod.mk.injEq] at e
    exact ⟨sl_own (h.spns x hx), by rw [← e.2.2]; exact (k.spans y hy).2⟩
  · obtain ⟨y, hy, e⟩ := map_mem hg hx
    simp only [gonV, Prod.mk.injEq] at e
    rw [← e.1, ← e.2.1]; exact k.gonI y hy
  · have := an.2.1; have := k.news.2.1; omega
  · have := ap.2.1; have := k.pts.2.1; rw [hp] at *; omega
  · have := ag.2.1; have := k.gones.2.1; omega
  · have e1 : (r.gones.l.map fun x => x.sp.n) = r.gones.l.map fun x => (gonV x).2.2.length := List.map_congr_left fun x hx => (sl_own (h.spns x hx)).2.1.symm
    have e2 : (r0.gones.l.map fun x => x.sp.n) = r0.gones.l.map fun x => (gonV x).2.2.length := List.map_congr_left fun x hx => (k.spans x hx).1.2.1.symm
    have e3 := congrArg (List.map fun y : Int × Int × List Spn => y.2.2.length) hg
    rw [List.map_map, List.map_map] at e3
    rw [e1]
    rw [e2] at k4
    have e5 : (r.gones.l.map fun x => (gonV x).2.2.length).sum = (r0.gones.l.map fun x => (gonV x).2.2.length).sum := congrArg List.sum e3
    rw [e5]; exact k4

theorem newV_snoc {l : List NewR} {k : Nat} {x : NewR} (h : l[k]? = some x) : (l.take (k + 1)).map newV = (l.take k).map newV ++ [newV x] := by rw [take_snoc? h]; simp
theorem gonV_snoc {l : List GonR} {k : Nat} {x : GonR} (h : l[k]? = some x) : (l.take (k + 1)).map gonV = (l.take k).map gonV ++ [gonV x] := by rw [take_snoc? h]; simp

set_option maxHeartbeats 6400000 in
theorem recRef_any (r : RecR) (w : World) (h : r.At w) :
    Calls Tryz.prog 8 #[r.val] w fun e w' => ∃ r' : RecR, e = .returned r'.val ∧ r'.At w' ∧ r'.news.l.map newV = r.news.l.map newV ∧ r'.pts.l = r.pts.l ∧ r'.gones.l.map gonV = r.gones.l.map gonV ∧ Below w.heap.size w w' := by
  obtain ⟨i0, hi, hz0, hz1, hz2⟩ := info_parts infoNewQ
  obtain ⟨j0, hj, hy0, hy1, hy2⟩ := info_parts infoPntQ
  obtain ⟨l0, hk, hx0, hx1, hx2⟩ := info_parts infoGonQ
  obtain ⟨⟨nA, nn, nc, nl⟩, ⟨pA, pn, pc, pl⟩, ⟨gA, gn, gc, gl⟩⟩ := r
  obtain ⟨f1, f2, f3, f4⟩ := h.few
  simp only at f1 f2 f3
  have hnl : nl.length = nn := h.news.2.1
  have hpl : pl.length = pn := h.pts.2.1
  have hgl : gl.length = gn := h.gones.2.1
  have HL := hidden (And.intro hnl (And.intro hpl hgl))
  have F4 := hidden (show (gl.map fun x => x.sp.n).sum ≤ 4294967296 from f4)
  have H0 := hidden h
  have hB0 := Whole1.new w 26 #[.slice nA nn nc, .slice pA pn pc, .slice gA gn gc]
  have hb1 : Below w.heap.size w ((w.alloc (.cells #[.slice nA nn nc, .slice pA pn pc, .slice gA gn gc] 26)).alloc (.cells #[.slice none 0 0, .slice none 0 0, .slice none 0 0] 36)) := ((Below.refl _ _).alloc (Nat.le_refl _) _).alloc (by simp [World.size_alloc]) _
  have hR0 := Whole1.new (w.alloc (.cells #[.slice nA nn nc, .slice pA pn pc, .slice gA gn gc] 26)) 36 #[.slice none 0 0, .slice none 0 0, .slice none 0 0]
  have hB1 := hB0.alloc (.cells #[.slice none 0 0, .slice none 0 0, .slice none 0 0] 36)
  obtain ⟨w2, hw2⟩ : ∃ w2, (w.alloc (.cells #[.slice nA nn nc, .slice pA pn pc, .slice gA gn gc] 26)).alloc (.cells #[.slice none 0 0, .slice none 0 0, .slice none 0 0] 36) = w2 := ⟨_, rfl⟩
  obtain ⟨g, hg⟩ : ∃ g, w2.heap.size = g := ⟨_, rfl⟩
  obtain ⟨B, hB⟩ : ∃ B, w.heap.size = B := ⟨_, rfl⟩
  have hgB : B + 1 + 1 = g := by rw [← hg, ← hw2, World.size_alloc, World.size_alloc, hB]
  rw [World.size_alloc] at hR0
  rw [hw2, hB] at hb1 hB1 hR0
  have hX := Whole1.new w2 36 #[.slice none 0 0, .slice none 0 0, .slice none 0 0]
  have H3 := hidden (show RAt w2 g g [] [] [] (.slice none 0 0) (.slice none 0 0) (.slice none 0 0) (w2.alloc (.cells #[.slice none 0 0, .slice none 0 0, .slice none 0 0] 36)) from
    ⟨by rw [hg] at hX; exact hX, World.ownsRow_nil _ _ _ _, World.ownsRow_nil _ _ _ _, World.ownsRow_nil _ _ _ _, fun x hx => (List.not_mem_nil hx).elim, fun x hx => (List.not_mem_nil hx).elim, (Below.refl _ _).alloc (by omega) _, hg, Nat.le_refl _⟩)
  have H2 := hidden (H0.out.on (by rw [hB]; exact hb1))
  have HB1 := hidden hB1
  have HR0 := hidden hR0
  have HBW := hidden hb1
  have HW2 := hidden hw2
  have HG := hidden hgB
  have HBB := hidden hB
  have HGG := hidden hg
  clear hB0 hb1 hR0 hB1 hw2 hg hB hgB hX h H0 f4 hnl hpl hgl
  show Calls Tryz.prog 8 #[.agg #[.slice nA nn nc, .slice pA pn pc, .slice gA gn gc]] w _
  go_enter Tryz.func8, Tryz.ntmps8
  go_wp2_with fail
  rw [HW2.out, HBB.out, HG.out]
  obtain ⟨w3, hw3⟩ : ∃ w3, w2.alloc (.cells #[.slice none 0 0, .slice none 0 0, .slice none 0 0] 36) = w3 := ⟨_, rfl⟩
  rw [hw3] at H3 ⊢
  clear hw3
  have HWN := hidden (fun (W : World) (N M G vN vP vG) (hW : RAt w2 g g N M G vN vP vG W) => (H2.out.on (by rw [HGG.out]; exact hW.below) : RecR.At W ⟨⟨nA, nn, nc, nl⟩, ⟨pA, pn, pc, pl⟩, ⟨gA, gn, gc, gl⟩⟩))
  have HBN := hidden (fun (W : World) (N M G vN vP vG) (hW : RAt w2 g g N M G vN vP vG W) => HB1.out.below hW.below (by have := HG.out; omega))
  have HRN := hidden (fun (W : World) (N M G vN vP vG) (hW : RAt w2 g g N M G vN vP vG W) => HR0.out.below hW.below (by have := HG.out; omega))
  go_loopw [13] (fun vi wr => ∃ (k : Nat) (N : List NewR) (vN : Value), k ≤ nn ∧ vi = .int .i64 k ∧ Hid (N.map newV = (nl.take k).map newV) ∧ Hid (RAt w2 g g N [] [] vN (.slice none 0 0) (.slice none 0 0) wr)) (fun vi _ => nn - (intOf vi).toNat)
  case atStart => exact ⟨0, [], _, Nat.zero_le _, rfl, hidden rfl, H3⟩
  case round =>
    obtain ⟨k, N, vN, hkn, rfl, hV, hA⟩ := hrel
    have k0 : (0 : Int) ≤ (k : Int) := by omega
    by_cases hlt : k < nn
    · have k1 : (k : Int) < (nn : Int) := by omega
      have HR := hidden (HWN.out _ _ _ _ _ _ _ hA.out)
      obtain ⟨gs, o, x, rfl, _, hx, hcl⟩ := row_at newK HR.out.news.2.2 HL.out.1 k hlt
      have c0 : wr.cell? ⟨gs, o + k * 2, none⟩ = some (.int .i64 x.ref) := hcl 0 (by omega)
      have c1 : wr.cell? ⟨gs, o + k * 2 + 1, none⟩ = some (.slice x.lab.A x.lab.n x.lab.c) := hcl 1 (by omega)
      have HXM := hidden (List.mem_of_getElem? hx)
      have HVN := hidden (newV_snoc hx)
      clear hx hcl
      have hN1 : N.length = k := by have := congrArg List.length hV.out; rw [List.length_map, List.length_map, List.length_take] at this; have := HL.out.1; omega
      have HN1 := hidden hN1
      obtain ⟨oA, oc, hvN, _, _⟩ := own_shape hA.out.nown
      subst hvN
      rw [hN1] at hA
      have HN := hidden (show wr.ownsRow g 72 2 (.slice oA k oc) k (N.flatMap NewR.cells) by have := hA.out.nown; rwa [hN1] at this)
      clear hN1
      go_upto_region 5 with (fail)
      have Y0 := Whole1.new wr 59 #[.int .i64 x.ref, .slice x.lab.A x.lab.n x.lab.c]
      have hb4 : Below wr.heap.size wr (wr.alloc (.cells #[.int .i64 x.ref, .slice x.lab.A x.lab.n x.lab.c] 59)) := (Below.refl _ _).alloc (Nat.le_refl _) _
      generalize wr.alloc (.cells #[.int .i64 x.ref, .slice x.lab.A x.lab.n x.lab.c] 59) = w4 at Y0 hb4 ⊢
      obtain ⟨Y, hY⟩ : ∃ Y, wr.heap.size = Y := ⟨_, rfl⟩
      rw [hY] at Y0 ⊢
      have HA4 := hidden ((hA.out.on hb4).on (Below.refl _ _).drew)
      have HN4 := hidden ((own_below HN.out hb4 (Nat.le_refl _)))
      have HY4 := hidden Y0.drew
      have HR4 := hidden (HWN.out _ _ _ _ _ _ _ HA4.out)
      obtain ⟨hlb, hlc⟩ := HR4.out.labs x HXM.out
      have hll := hlb.len
      have hlf := hlb.fit
      have HSZ := hidden hlb.sz
      have S3 := hidden (TwnLbl.labelsRef_any x.lab.A x.lab.n x.lab.c x.lab.l w4.drew hlb.row hlb.len hlb.fit)
      have y0 := HY4.out.cell 0
      have y1 := HY4.out.cell 1
      have x0 := HA4.out.out.cell 0
      clear hb4 c0 c1 hA Y0 hY HN hlb HR4
      have T := fun (W : World) (hW : W.ownsRow g 72 2 (.slice oA k oc) k (N.flatMap NewR.cells)) (hgW : g ≤ W.heap.size) (u : Value) (h1c : u.oneCell' = true) (ops : Array Oper) (o : Oper) (a : Act) (K : Act → World → Prop) (Q : Exit → Act → World → Prop) (E : Prop) (hg : o.guard = none) (s1 s2 : Operand) (ho : o.op = .call { callee := .builtin .append, args := #[s1, s2], argTypes := #[32, 32] }) (hs : a.eval s1 = .slice oA k oc) (hx : a.eval s2 = .slice (some ⟨W.heap.size, 0, none⟩) 1 1) h =>
        step_appR (P := Tryz.prog) (ops := ops) (o := o) (a := a) (K := K) (Q := Q) (E := E) (W.alloc (.cells #[.int .i64 x.ref, u] 72)) hg s1 s2 32 ho g 72 i0 _ 2 32 Tryz.underlying32 hi hz0 hz1 hz2 rfl (by decide) _ _ _ hs (hW.alloc _) _ _ _ _ [.int .i64 x.ref, u] hx (Row.fresh W 72 2 1 [.int .i64 x.ref, u] rfl) (by intro y hy; simp at hy; rcases hy with rfl | rfl; exact rfl; exact h1c) (by unfold maxLen; omega) (by omega) (by rw [World.size_alloc]; exact Nat.le_succ_of_le hgW) h
      go_region_law (first
        | (refine T w5 (by have := D5.out.nown; rwa [HN1.out] at this) D5.out.le (.slice LA x.lab.n lc) rfl _ _ _ _ _ _ rfl _ _ rfl rfl rfl ?_; intro v' w6 hown6 hg6 _; obtain ⟨A6, c6, rfl, _, _⟩ := own_shape hown6; have D6 := hidden ((DA.out).putN ⟨x.ref, ⟨LA, x.lab.n, lc, x.lab.l⟩⟩ (by rw [hll]; exact KA.out) (by rw [HN1.out]; exact hown6) hg6); have f6 := (DO.out w6 hg6).1; have o6 := (DO.out w6 hg6).2.cell 0)
        | (go_simp; go_at_call 24; refine S3.out.mono ?_; rintro e w' ⟨v, rfl, hk4, b4⟩; obtain ⟨LA, lc, rfl, hlc2, -⟩ := own_shape hk4; have D5 := hidden (HA4.out.on b4); have K5 := hidden (own_down hk4 HA4.out.le); have o5 := D5.out.out.cell 0; have y5 := (HY4.out.below b4 HY4.out.lt).cell 0; generalize hw5 : w' = w5 at D5 K5 o5 y5 ⊢; have DA := hidden (D5.out.on ((Below.refl _ _).alloc (Nat.le_refl _) (.cells #[.int .i64 x.ref, .slice LA x.lab.n lc] 72))); have KA := hidden (K5.out.alloc (.cells #[.int .i64 x.ref, .slice LA x.lab.n lc] 72)); have DO := hidden (fun (w6 : World) (hg6 : World.grownBy (w5.alloc (.cells #[.int .i64 x.ref, .slice LA x.lab.n lc] 72)) w6 (Value.slice oA k oc).ownBlock) => (⟨((DA.out.out.beside DA.out.nown (by decide) hg6).free 0), DA.out.out.beside DA.out.nown (by decide) hg6⟩ : World.frozen? w6 ⟨g, 0, none⟩ = false ∧ Whole1 w6 g 36 #[.slice oA k oc, .slice none 0 0, .slice none 0 0])); have o5a := DA.out.out.cell 0; clear hk4 b4 hw5))
      all_goals
        go_wp2_with fail
        exact ⟨⟨k + 1, N ++ [⟨x.ref, ⟨LA, x.lab.n, lc, x.lab.l⟩⟩], _, by omega, rfl, hidden (by rw [List.map_append, hV.out, HVN.out]; rfl), D6⟩, by simp only [intOf]; omega⟩
    · obtain rfl : k = nn := by omega
      have HV1 := hidden (show N.map newV = nl.map newV by have := hV.out; rwa [List.take_of_length_le (by rw [HL.out.1]; exact Nat.le_refl _)] at this)
      have bB := (HBN.out _ _ _ _ _ _ _ hA.out).cell 1
      clear hV
      go_wp2_with fail
      clear bB
      have HWS := hidden (show wr.heap.size ≤ wr.heap.size from Nat.le_refl _)
      go_loopw [32] (fun vi wx => ∃ (q : Nat) (vP : Value), q ≤ pn ∧ vi = .int .i64 q ∧ Hid (RAt w2 g g N (pl.take q) [] vN vP (.slice none 0 0) wx)) (fun vi _ => pn - (intOf vi).toNat)
      case atStart => exact ⟨0, _, Nat.zero_le _, rfl, hA⟩
      case round =>
        obtain ⟨q, vP, hqn, rfl, hA2⟩ := hrel
        have q0 : (0 : Int) ≤ (q : Int) := by omega
        by_cases hlt : q < pn
        · have q1 : (q : Int) < (pn : Int) := by omega
          have HR := hidden (HWN.out _ _ _ _ _ _ _ hA2.out)
          obtain ⟨gs, o, x, rfl, _, hx, hcl⟩ := row_at pntK HR.out.pts.2.2 HL.out.2.1 q hlt
          have c0 : wr.cell? ⟨gs, o + q * 3, none⟩ = some (.int .i64 x.ref) := hcl 0 (by omega)
          have c1 : wr.cell? ⟨gs, o + q * 3 + 1, none⟩ = some (.int .i64 x.t) := hcl 1 (by omega)
          have c2 : wr.cell? ⟨gs, o + q * 3 + 2, none⟩ = some (.int .u64 (x.v : Int)) := hcl 2 (by omega)
          have HTK := hidden (take_snoc? hx)
          have hql : (pl.take q).length = q := by rw [List.length_take, HL.out.2.1]; omega
          have HQL := hidden hql
          obtain ⟨oA, oc, hvP, _, _⟩ := own_shape hA2.out.pown
          subst hvP
          have hown : wr.ownsRow g 74 3 (.slice oA q oc) q ((pl.take q).flatMap PntR.cells) := by have := hA2.out.pown; rwa [hql] at this
          rw [hql] at hA2
          have x1 := hA2.out.out.cell 1
          have hgw := hA2.out.le
          have DA := hidden ((hA2.out.on ((Below.refl _ _).alloc (Nat.le_refl _) (.cells #[.int .i64 x.ref, .int .i64 x.t, .int .u64 (x.v : Int)] 62))))
          have DB := hidden (DA.out.on ((Below.refl _ _).alloc (Nat.le_refl _) (.cells #[.int .i64 x.ref, .int .i64 x.t, .int .u64 (x.v : Int)] 74)))
          have xa := DA.out.out.cell 1
          have hfr := Row.fresh (wr.alloc (.cells #[.int .i64 x.ref, .int .i64 x.t, .int .u64 (x.v : Int)] 62)) 74 3 1 [.int .i64 x.ref, .int .i64 x.t, .int .u64 (x.v : Int)] rfl
          rw [World.size_alloc] at hfr
          have DO := hidden (fun (w7 : World) (hg7 : World.grownBy ((wr.alloc (.cells #[.int .i64 x.ref, .int .i64 x.t, .int .u64 (x.v : Int)] 62)).alloc (.cells #[.int .i64 x.ref, .int .i64 x.t, .int .u64 (x.v : Int)] 74)) w7 (Value.slice oA q oc).ownBlock) => (⟨(DB.out.out.beside DB.out.pown (by decide) hg7).free 1, (DB.out.out.beside DB.out.pown (by decide) hg7)⟩ : World.frozen? w7 ⟨g, 1, none⟩ = false ∧ Whole1 w7 g 36 #[vN, .slice oA q oc, .slice none 0 0]))
          clear hx hcl hql HR
          go_wp2_with (at_builtin; refine wpList_app _ rfl _ _ 33 rfl g 74 j0 _ 3 24 Tryz.underlying33 hj hy0 hy1 hy2 rfl (by decide) _ _ _ rfl ((hown.alloc _).alloc _) _ _ _ _ _ rfl hfr (by simp [Value.oneCell']) (by unfold maxLen; omega) (by omega) (by simp; omega) ?_; intro v7 w7 hown7 hg7 _; obtain ⟨A7, c7, rfl, _, _⟩ := own_shape hown7; have D7 := hidden (DB.out.putM x (by rw [HQL.out]; exact hown7) hg7); have f7 := (DO.out w7 hg7).1; have o7 := (DO.out w7 hg7).2.cell 1)
          exact ⟨⟨q + 1, _, by omega, rfl, by rw [HTK.out]; exact D7⟩, by simp only [intOf]; omega⟩
        · obtain rfl : q = pn := by omega
          have hA3 := hidden (show RAt w2 g g N pl [] vN vP (.slice none 0 0) wr by have := hA2.out; rwa [List.take_of_length_le (by rw [HL.out.2.1]; exact Nat.le_refl _)] at this)
          have bB := (HBN.out _ _ _ _ _ _ _ hA3.out).cell 2
          clear hA hA2
          go_wp2_with fail
          clear bB
          go_loopw [52] (fun vi wx => ∃ (m : Nat) (G : List GonR) (vG : Value), m ≤ gn ∧ vi = .int .i64 m ∧ Hid (G.map gonV = (gl.take m).map gonV) ∧ Hid (RAt w2 g g N pl G vN vP vG wx)) (fun vi _ => gn - (intOf vi).toNat)
          case atStart => exact ⟨0, [], _, Nat.zero_le _, rfl, hidden rfl, hA3⟩
          case round =>
            obtain ⟨m, G, vG, hmn, rfl, hV, hA⟩ := hrel
            have m0 : (0 : Int) ≤ (m : Int) := by omega
            by_cases hlt : m < gn
            · have m1 : (m : Int) < (gn : Int) := by omega
              have HR := hidden (HWN.out _ _ _ _ _ _ _ hA.out)
              obtain ⟨gs, o, x, rfl, _, hx, hcl⟩ := row_at gonRK HR.out.gones.2.2 HL.out.2.2 m hlt
              have c0 : wr.cell? ⟨gs, o + m * 3, none⟩ = some (.int .i64 x.ref) := hcl 0 (by omega)
              have c1 : wr.cell? ⟨gs, o + m * 3 + 1, none⟩ = some (.int .i64 x.res) := hcl 1 (by omega)
              have c2 : wr.cell? ⟨gs, o + m * 3 + 2, none⟩ = some (.slice x.sp.A x.sp.n x.sp.c) := hcl 2 (by omega)
              have HXM := hidden (List.mem_of_getElem? hx)
              have HVN := hidden (gonV_snoc hx)
              clear hx hcl
              have hN1 : G.length = m := by have := congrArg List.length hV.out; rw [List.length_map, List.length_map, List.length_take] at this; have := HL.out.2.2; omega
              have HN1 := hidden hN1
              obtain ⟨oA, oc, hvN, _, _⟩ := own_shape hA.out.gown
              subst hvN
              rw [hN1] at hA
              have HN := hidden (show wr.ownsRow g 77 3 (.slice oA m oc) m (G.flatMap GonR.cells) by have := hA.out.gown; rwa [hN1] at this)
              clear hN1
              go_upto_region 15 with (fail)
              have Y0 := Whole1.new wr 66 #[.int .i64 x.ref, .int .i64 x.res, .slice x.sp.A x.sp.n x.sp.c]
              have hb4 : Below wr.heap.size wr (wr.alloc (.cells #[.int .i64 x.ref, .int .i64 x.res, .slice x.sp.A x.sp.n x.sp.c] 66)) := (Below.refl _ _).alloc (Nat.le_refl _) _
              generalize wr.alloc (.cells #[.int .i64 x.ref, .int .i64 x.res, .slice x.sp.A x.sp.n x.sp.c] 66) = w4 at Y0 hb4 ⊢
              obtain ⟨Y, hY⟩ : ∃ Y, wr.heap.size = Y := ⟨_, rfl⟩
              rw [hY] at Y0 ⊢
              have HA4 := hidden ((hA.out.on hb4).on (Below.refl _ _).drew)
              have HY4 := hidden Y0.drew
              have HR4 := hidden (HWN.out _ _ _ _ _ _ _ HA4.out)
              obtain ⟨⟨hsc, hsl, hsr⟩, hso⟩ := HR4.out.spans x HXM.out
              have hsf := few_sp F4.out HXM.out
              have S3 := hidden (TwnSpn.spansRef_any x.sp.A x.sp.n x.sp.c x.sp.l w4.drew hsr hsl (by omega))
              have y0 := HY4.out.cell 0
              have y1 := HY4.out.cell 1
              have y2 := HY4.out.cell 2
              have x0 := HA4.out.out.cell 2
              clear hb4 c0 c1 c2 hA Y0 hY HN hsr hso HR4
              have T := fun (W : World) (hW : W.ownsRow g 77 3 (.slice oA m oc) m (G.flatMap GonR.cells)) (hgW : g ≤ W.heap.size) (u : Value) (h1c : u.oneCell' = true) (ops : Array Oper) (o : Oper) (a : Act) (K : Act → World → Prop) (Q : Exit → Act → World → Prop) (E : Prop) (hg : o.guard = none) (s1 s2 : Operand) (ho : o.op = .call { callee := .builtin .append, args := #[s1, s2], argTypes := #[34, 34] }) (hs : a.eval s1 = .slice oA m oc) (hx : a.eval s2 = .slice (some ⟨W.heap.size, 0, none⟩) 1 1) h =>
                step_appR (P := Tryz.prog) (ops := ops) (o := o) (a := a) (K := K) (Q := Q) (E := E) (W.alloc (.cells #[.int .i64 x.ref, .int .i64 x.res, u] 77)) hg s1 s2 34 ho g 77 l0 _ 3 40 Tryz.underlying34 hk hx0 hx1 hx2 rfl (by decide) _ _ _ hs (hW.alloc _) _ _ _ _ [.int .i64 x.ref, .int .i64 x.res, u] hx (Row.fresh W 77 3 1 [.int .i64 x.ref, .int .i64 x.res, u] rfl) (by intro y hy; simp at hy; rcases hy with rfl | rfl | rfl; exact rfl; exact rfl; exact h1c) (by unfold maxLen; omega) (by omega) (by rw [World.size_alloc]; exact Nat.le_succ_of_le hgW) h
              go_region_law (first
                | (refine T w5 (by have := D5.out.gown; rwa [HN1.out] at this) D5.out.le (.slice LA x.sp.n lc) rfl _ _ _ _ _ _ rfl _ _ rfl rfl rfl ?_; intro v' w6 hown6 hg6 _; obtain ⟨A6, c6, rfl, _, _⟩ := own_shape hown6; have D6 := hidden ((DA.out).putG ⟨x.ref, x.res, ⟨LA, x.sp.n, lc, x.sp.l⟩⟩ (by rw [hsl]; exact KA.out) (by rw [HN1.out]; exact hown6) hg6); have f6 := (DO.out w6 hg6).1; have o6 := (DO.out w6 hg6).2.cell 2)
                | (go_simp; go_at_call 25; refine S3.out.mono ?_; rintro e w' ⟨v, rfl, hk4, b4⟩; obtain ⟨LA, lc, rfl, hlc2, -⟩ := own_shape hk4; have D5 := hidden (HA4.out.on b4); have K5 := hidden (own_down hk4 HA4.out.le); have o5 := D5.out.out.cell 2; have y5 := (HY4.out.below b4 HY4.out.lt).cell 0; have y6 := (HY4.out.below b4 HY4.out.lt).cell 1; generalize hw5 : w' = w5 at D5 K5 o5 y5 y6 ⊢; have DA := hidden (D5.out.on ((Below.refl _ _).alloc (Nat.le_refl _) (.cells #[.int .i64 x.ref, .int .i64 x.res, .slice LA x.sp.n lc] 77))); have KA := hidden (K5.out.alloc (.cells #[.int .i64 x.ref, .int .i64 x.res, .slice LA x.sp.n lc] 77)); have DO := hidden (fun (w6 : World) (hg6 : World.grownBy (w5.alloc (.cells #[.int .i64 x.ref, .int .i64 x.res, .slice LA x.sp.n lc] 77)) w6 (Value.slice oA m oc).ownBlock) => (⟨((DA.out.out.beside DA.out.gown (by decide) hg6).free 2), DA.out.out.beside DA.out.gown (by decide) hg6⟩ : World.frozen? w6 ⟨g, 2, none⟩ = false ∧ Whole1 w6 g 36 #[vN, vP, .slice oA m oc])); have o5a := DA.out.out.cell 2; clear hk4 b4 hw5))
              all_goals
                go_wp2_with fail
                exact ⟨⟨m + 1, G ++ [⟨x.ref, x.res, ⟨LA, x.sp.n, lc, x.sp.l⟩⟩], _, by omega, rfl, hidden (by rw [List.map_append, hV.out, HVN.out]; rfl), D6⟩, by simp only [intOf]; omega⟩
            · obtain rfl : m = gn := by omega
              have HV3 := hidden (show G.map gonV = gl.map gonV by have := hV.out; rwa [List.take_of_length_le (by rw [HL.out.2.2]; exact Nat.le_refl _)] at this)
              clear hV
              obtain ⟨nA', nc', hvN, hc1, _⟩ := own_shape hA.out.nown
              obtain ⟨pA', pc', hvP, hc2, _⟩ := own_shape hA.out.pown
              obtain ⟨gA', gc', hvG, hc3, _⟩ := own_shape hA.out.gown
              subst hvN hvP hvG
              have x0 := hA.out.out.cell 0
              have x1 := hA.out.out.cell 1
              have x2 := hA.out.out.cell 2
              have r0 := (HRN.out _ _ _ _ _ _ _ hA.out).free 0
              have r1 := (HRN.out _ _ _ _ _ _ _ hA.out).free 1
              have r2 := (HRN.out _ _ _ _ _ _ _ hA.out).free 2
              have s0 := (HRN.out _ _ _ _ _ _ _ hA.out).cell 0
              have s1 := (HRN.out _ _ _ _ _ _ _ hA.out).cell 1
              have s2 := (HRN.out _ _ _ _ _ _ _ hA.out).cell 2
              have hRR : RR g ⟨⟨nA', N.length, nc', N⟩, ⟨pA', pl.length, pc', pl⟩, ⟨gA', G.length, gc', G⟩⟩ wr := ⟨hA.out.nown, hA.out.pown, hA.out.gown, hA.out.labs, hA.out.spns⟩
              have hBg : B + 1 < g := by have := HG.out; omega
              have hRF := (((HRN.out _ _ _ _ _ _ _ hA.out).put 0 (.slice nA' N.length nc')).put 1 (.slice pA' pl.length pc')).put 2 (.slice gA' G.length gc')
              have z0 := hRF.cell 0
              have z1 := hRF.cell 1
              have z2 := hRF.cell 2
              have HRE := hidden (((hRR.put hBg 0 (.slice nA' N.length nc')).put hBg 1 (.slice pA' pl.length pc')).put hBg 2 (.slice gA' G.length gc'))
              have HBE := hidden ((((HBW.out.trans (hA.out.below.mono (by omega))).setCell (p := ⟨B + 1, 0, none⟩) (Nat.le_succ B) (.slice nA' N.length nc')).setCell (p := ⟨B + 1, 1, none⟩) (Nat.le_succ B) (.slice pA' pl.length pc')).setCell (p := ⟨B + 1, 2, none⟩) (Nat.le_succ B) (.slice gA' G.length gc'))
              clear hRR hBg hRF
              go_wp2_with fail
              refine bodyPost_ret (v := .agg #[.slice nA' N.length nc', .slice pA' pl.length pc', .slice gA' G.length gc']) (by simp [results, Tryz.results8, go_sem, z0, z1, z2]) rfl ?_
              exact ⟨⟨⟨nA', N.length, nc', N⟩, ⟨pA', pl.length, pc', pl⟩, ⟨gA', G.length, gc', G⟩⟩, rfl, HRE.out.At H2.out HV1.out rfl HV3.out, HV1.out, rfl, HV3.out, by rw [HBB.out]; exact HBE.out⟩
end Go.Proofs.YtdggnnjjiolldaaGreat
