/- A record that is being read, as it lies. No condition. -/
import Derived.Test.YtdggnnjjiolldaaGreatPk2a42a290
namespace Go.Proofs.YtdggnnjjiolldaaGreat
set_option maxRecDepth 100000
open Go.RowKit Go.Shelf

theorem infoNewR : (Tryz.prog.info? 59).map (fun i => (i.zero, i.size, i.bytes)) = some (some (.agg #[.int .i64 0, .slice none 0 0]), 2, 32) := by kernel_rfl
theorem infoPntR : (Tryz.prog.info? 62).map (fun i => (i.zero, i.size, i.bytes)) = some (some (.agg #[.int .i64 0, .int .i64 0, .int .u64 0]), 3, 24) := by kernel_rfl
theorem infoGonR : (Tryz.prog.info? 66).map (fun i => (i.zero, i.size, i.bytes)) = some (some (.agg #[.int .i64 0, .int .i64 0, .slice none 0 0]), 3, 40) := by kernel_rfl
theorem own_neT {w : World} {B n sz b : Nat} {e T : TypeId} {v : Value} {xs : List Value} {cs : Array Value} (h : w.ownsRow B e sz v n xs) (hW : Whole1 w b T cs) (hT : T ≠ e) : v.ownBlock ≠ some b := by
  rcases h.2 with ⟨rfl, _⟩ | ⟨g, cap, cur, rfl, _, hg, _⟩
  · simp [Value.ownBlock]
  · intro k
    simp only [Value.ownBlock, Option.some.injEq] at k
    subst k
    have := hW.symm.trans hg
    simp only [Option.some.injEq, Obj.cells.injEq] at this
    exact hT this.2.1
theorem own_down {w : World} {B B' n sz : Nat} {e : TypeId} {v : Value} {xs : List Value} (h : w.ownsRow B e sz v n xs) (hB : B' ≤ B) : w.ownsRow B' e sz v n xs :=
  ⟨h.1, h.2.imp id fun ⟨g, cap, cur, hv, hg, r⟩ => ⟨g, cap, cur, hv, Nat.le_trans hB hg, r⟩⟩
theorem Whole1.apart {w : World} {a b : Nat} {T U : TypeId} {cs ds : Array Value} (h : Whole1 w a T cs) (k : Whole1 w b U ds) (hT : T ≠ U) : a ≠ b := fun e => by
  subst e
  have := h.symm.trans k
  simp only [Option.some.injEq, Obj.cells.injEq] at this
  exact hT this.2.1
/-- a row of another type that the call owns stays while this one grows -/
theorem own_beside {w w' : World} {B B' n m sz k : Nat} {e T : TypeId} {v u : Value} {xs ys : List Value} (h : w.ownsRow B e sz v n xs) (k' : w.ownsRow B' T k u m ys) (hT : e ≠ T) (hg : w.grownBy w' u.ownBlock) : w'.ownsRow B e sz v n xs := by
  refine h.kept hg ?_
  rcases h.2 with ⟨rfl, _⟩ | ⟨g, cap, cur, rfl, _, hg1, _⟩
  · exact .inl rfl
  · refine .inr fun k2 => ?_
    rcases k'.2 with ⟨rfl, _⟩ | ⟨g', cap', cur', rfl, _, hg2, _⟩
    · simp [Value.ownBlock] at k2
    · simp only [Value.ownBlock, Option.some.injEq] at k2
      subst k2
      have := hg1.symm.trans hg2
      simp only [Option.some.injEq, Obj.cells.injEq] at this
      exact hT this.2.1
theorem Whole1.beside {w w' : World} {B m k b : Nat} {T U : TypeId} {u : Value} {ys : List Value} {cs : Array Value} (h : Whole1 w b T cs) (k' : w.ownsRow B U k u m ys) (hT : T ≠ U) (hg : w.grownBy w' u.ownBlock) : Whole1 w' b T cs :=
  h.grown hg fun e => own_neT k' h hT e.symm

/-- a record that is being read -/
structure DAt (w0 : World) (g O E V Rd bP : Nat) (s : List UInt8) (σ : PS) (N : List NewR) (G : List GonR) (vN vP vG : Value) (w : World) : Prop where
  out : Whole1 w O 26 #[vN, vP, vG]
  err : Whole1 w E 27 #[.int .i64 0]
  var : Whole1 w V 82 #[.pointer (some ⟨Rd, 0, none⟩)]
  rd : Whole1 w Rd 84 #[.string ⟨s.toArray⟩, .int .i64 σ.a]
  nown : w.ownsRow g 59 2 vN N.length (N.flatMap NewR.cells)
  pown : w.ownsRow bP 62 3 vP σ.pts.length (σ.pts.flatMap PntR.cells)
  gown : w.ownsRow g 66 3 vG G.length (G.flatMap GonR.cells)
  labs : ∀ x ∈ N, w.ownsRow g 108 2 x.lab.val x.lab.l.length (x.lab.l.flatMap Lbl.cells)
  spns : ∀ x ∈ G, w.ownsRow g 101 2 x.sp.val x.sp.l.length (x.sp.l.flatMap Spn.cells)
  nv : N.map (fun x => (x.ref, x.lab.l)) = σ.news
  gv : G.map (fun x => (x.ref, x.res, x.sp.l)) = σ.gones
  below : Below g w0 w
  base : w0.heap.size = g
  gO : g ≤ O
  gE : g ≤ E
  gR : g ≤ Rd
  bl : bP ≤ w.heap.size
section
variable {w0 : World} {g O E V Rd bP : Nat} {s : List UInt8} {σ : PS} {N : List NewR} {G : List GonR} {vN vP vG : Value} {w w' : World}
theorem DAt.le (h : DAt w0 g O E V Rd bP s σ N G vN vP vG w) : g ≤ w.heap.size := by have := h.below.size; have := h.base; omega
theorem DAt.on (h : DAt w0 g O E V Rd bP s σ N G vN vP vG w) (hb : Below w.heap.size w w') : DAt w0 g O E V Rd bP s σ N G vN vP vG w' :=
  ⟨h.out.below hb h.out.lt, h.err.below hb h.err.lt, h.var.below hb h.var.lt, h.rd.below hb h.rd.lt, own_below h.nown hb (Nat.le_refl _), own_below h.pown hb (Nat.le_refl _), own_below h.gown hb (Nat.le_refl _),
    fun x hx => own_below (h.labs x hx) hb (Nat.le_refl _), fun x hx => own_below (h.spns x hx) hb (Nat.le_refl _), h.nv, h.gv, h.below.trans (hb.mono h.le), h.base, h.gO, h.gE, h.gR, Nat.le_trans h.bl hb.size⟩
theorem DAt.seek (h : DAt w0 g O E V Rd bP s σ N G vN vP vG w) (b : Int) : DAt w0 g O E V Rd bP s { σ with a := b } N G vN vP vG (w.setCell ⟨Rd, 1, none⟩ (.int .i64 b)) :=
  ⟨h.out.off (h.out.apart h.rd (by decide)) _, h.err.off (h.err.apart h.rd (by decide)) _, h.var.off (h.var.apart h.rd (by decide)) _, h.rd.put 1 _,
    Go.ownsRow_setCell_other h.nown (a := ⟨Rd, 1, none⟩) (own_neT h.nown h.rd (by decide)) _, Go.ownsRow_setCell_other h.pown (a := ⟨Rd, 1, none⟩) (own_neT h.pown h.rd (by decide)) _, Go.ownsRow_setCell_other h.gown (a := ⟨Rd, 1, none⟩) (own_neT h.gown h.rd (by decide)) _,
    fun x hx => Go.ownsRow_setCell_other (h.labs x hx) (a := ⟨Rd, 1, none⟩) (own_neT (h.labs x hx) h.rd (by decide)) _, fun x hx => Go.ownsRow_setCell_other (h.spns x hx) (a := ⟨Rd, 1, none⟩) (own_neT (h.spns x hx) h.rd (by decide)) _,
    h.nv, h.gv, h.below.setCell (p := ⟨Rd, 1, none⟩) h.gR _, h.base, h.gO, h.gE, h.gR, by simpa [World.setCell] using h.bl⟩
/-- what is left where it leaves by a panic -/
def DBad (w0 : World) (g O E : Nat) (w : World) : Prop := ∃ v0 v1 v2, Whole1 w O 26 #[v0, v1, v2] ∧ Whole1 w E 27 #[.int .i64 0] ∧ Below g w0 w
theorem DAt.bad (h : DAt w0 g O E V Rd bP s σ N G vN vP vG w) : DBad w0 g O E w := ⟨_, _, _, h.out, h.err, h.below⟩
/-- a store into the record that is being read -/
theorem DAt.putN (h : DAt w0 g O E V Rd bP s σ N G vN vP vG w) (x : NewR) (hx : w.ownsRow g 108 2 x.lab.val x.lab.l.length (x.lab.l.flatMap Lbl.cells)) {v' : Value} (hown : w'.ownsRow g 59 2 v' (N.length + 1) (N.flatMap NewR.cells ++ x.cells)) (hg : w.grownBy w' vN.ownBlock) :
    DAt w0 g O E V Rd bP s { σ with news := σ.news ++ [(x.ref, x.lab.l)] } (N ++ [x]) G v' vP vG (w'.setCell ⟨O, 0, none⟩ v') := by
  have o1 := h.out.beside h.nown (by decide) hg
  have e1 := h.err.beside h.nown (by decide) hg
  have v1 := h.var.beside h.nown (by decide) hg
  have r1 := h.rd.beside h.nown (by decide) hg
  have p1 := own_beside h.pown h.nown (by decide) hg
  have g1 := own_beside h.gown h.nown (by decide) hg
  have l1 : ∀ y ∈ N ++ [x], w'.ownsRow g 108 2 y.lab.val y.lab.l.length (y.lab.l.flatMap Lbl.cells) := fun y hy => by
    rcases List.mem_append.1 hy with hy | hy
    · exact own_beside (h.labs y hy) h.nown (by decide) hg
    · rw [List.mem_singleton.1 hy]; exact own_beside hx h.nown (by decide) hg
  have s1 := fun y hy => own_beside (h.spns y hy) h.nown (by decide) hg
  have b1 : Below g w0 w' := h.below.grown hg h.le fun k hk => (h.nown.lt k hk).1
  refine ⟨o1.put 0 v', e1.off (e1.apart o1 (by decide)) _, v1.off (v1.apart o1 (by decide)) _, r1.off (r1.apart o1 (by decide)) _, ?_, Go.ownsRow_setCell_other p1 (a := ⟨O, 0, none⟩) (own_neT p1 o1 (by decide)) _, Go.ownsRow_setCell_other g1 (a := ⟨O, 0, none⟩) (own_neT g1 o1 (by decide)) _,
    fun y hy => Go.ownsRow_setCell_other (l1 y hy) (a := ⟨O, 0, none⟩) (own_neT (l1 y hy) o1 (by decide)) _, fun y hy => Go.ownsRow_setCell_other (s1 y hy) (a := ⟨O, 0, none⟩) (own_neT (s1 y hy) o1 (by decide)) _,
    by rw [List.map_append, h.nv]; rfl, h.gv, b1.setCell (p := ⟨O, 0, none⟩) h.gO _, h.base, h.gO, h.gE, h.gR, by have := hg.size; have := h.bl; simp only [World.setCell, Array.size_modify]; omega⟩
  have := Go.ownsRow_setCell_other hown (a := ⟨O, 0, none⟩) (own_neT hown o1 (by decide)) v'
  simpa using this
theorem DAt.putG (h : DAt w0 g O E V Rd bP s σ N G vN vP vG w) (x : GonR) (hx : w.ownsRow g 101 2 x.sp.val x.sp.l.length (x.sp.l.flatMap Spn.cells)) {v' : Value} (hown : w'.ownsRow g 66 3 v' (G.length + 1) (G.flatMap GonR.cells ++ x.cells)) (hg : w.grownBy w' vG.ownBlock) :
    DAt w0 g O E V Rd bP s { σ with gones := σ.gones ++ [(x.ref, x.res, x.sp.l)] } N (G ++ [x]) vN vP v' (w'.setCell ⟨O, 2, none⟩ v') := by
  have o1 := h.out.beside h.gown (by decide) hg
  have e1 := h.err.beside h.gown (by decide) hg
  have v1 := h.var.beside h.gown (by decide) hg
  have r1 := h.rd.beside h.gown (by decide) hg
  have p1 := own_beside h.pown h.gown (by decide) hg
  have g1 := own_beside h.nown h.gown (by decide) hg
  have l1 : ∀ y ∈ G ++ [x], w'.ownsRow g 101 2 y.sp.val y.sp.l.length (y.sp.l.flatMap Spn.cells) := fun y hy => by
    rcases List.mem_append.1 hy with hy | hy
    · exact own_beside (h.spns y hy) h.gown (by decide) hg
    · rw [List.mem_singleton.1 hy]; exact own_beside hx h.gown (by decide) hg
  have s1 := fun y hy => own_beside (h.labs y hy) h.gown (by decide) hg
  have b1 : Below g w0 w' := h.below.grown hg h.le fun k hk => (h.gown.lt k hk).1
  refine ⟨o1.put 2 v', e1.off (e1.apart o1 (by decide)) _, v1.off (v1.apart o1 (by decide)) _, r1.off (r1.apart o1 (by decide)) _, Go.ownsRow_setCell_other g1 (a := ⟨O, 2, none⟩) (own_neT g1 o1 (by decide)) _, Go.ownsRow_setCell_other p1 (a := ⟨O, 2, none⟩) (own_neT p1 o1 (by decide)) _, ?_,
    fun y hy => Go.ownsRow_setCell_other (s1 y hy) (a := ⟨O, 2, none⟩) (own_neT (s1 y hy) o1 (by decide)) _, fun y hy => Go.ownsRow_setCell_other (l1 y hy) (a := ⟨O, 2, none⟩) (own_neT (l1 y hy) o1 (by decide)) _,
    h.nv, by rw [List.map_append, h.gv]; rfl, b1.setCell (p := ⟨O, 2, none⟩) h.gO _, h.base, h.gO, h.gE, h.gR, by have := hg.size; have := h.bl; simp only [World.setCell, Array.size_modify]; omega⟩
  have := Go.ownsRow_setCell_other hown (a := ⟨O, 2, none⟩) (own_neT hown o1 (by decide)) v'
  simpa using this
theorem DAt.putP (h : DAt w0 g O E V Rd bP s σ N G vN vP vG w) (x : PntR) (hgb : g ≤ bP) {v' : Value} (hown : w'.ownsRow bP 62 3 v' (σ.pts.length + 1) (σ.pts.flatMap PntR.cells ++ x.cells)) (hg : w.grownBy w' vP.ownBlock) :
    DAt w0 g O E V Rd bP s { σ with pts := σ.pts ++ [x] } N G vN v' vG (w'.setCell ⟨O, 1, none⟩ v') := by
  have o1 := h.out.beside h.pown (by decide) hg
  have e1 := h.err.beside h.pown (by decide) hg
  have v1 := h.var.beside h.pown (by decide) hg
  have r1 := h.rd.beside h.pown (by decide) hg
  have p1 := own_beside h.gown h.pown (by decide) hg
  have g1 := own_beside h.nown h.pown (by decide) hg
  have s1 := fun y hy => own_beside (h.labs y hy) h.pown (by decide) hg
  have l1 := fun y hy => own_beside (h.spns y hy) h.pown (by decide) hg
  have b1 : Below g w0 w' := h.below.grown hg h.le fun k hk => Nat.le_trans hgb (h.pown.lt k hk).1
  refine ⟨o1.put 1 v', e1.off (e1.apart o1 (by decide)) _, v1.off (v1.apart o1 (by decide)) _, r1.off (r1.apart o1 (by decide)) _, Go.ownsRow_setCell_other g1 (a := ⟨O, 1, none⟩) (own_neT g1 o1 (by decide)) _, ?_, Go.ownsRow_setCell_other p1 (a := ⟨O, 1, none⟩) (own_neT p1 o1 (by decide)) _,
    fun y hy => Go.ownsRow_setCell_other (s1 y hy) (a := ⟨O, 1, none⟩) (own_neT (s1 y hy) o1 (by decide)) _, fun y hy => Go.ownsRow_setCell_other (l1 y hy) (a := ⟨O, 1, none⟩) (own_neT (l1 y hy) o1 (by decide)) _,
    h.nv, h.gv, b1.setCell (p := ⟨O, 1, none⟩) h.gO _, h.base, h.gO, h.gE, h.gR, by have := hg.size; have := h.bl; simp only [World.setCell, Array.size_modify]; omega⟩
  have := Go.ownsRow_setCell_other hown (a := ⟨O, 1, none⟩) (own_neT hown o1 (by decide)) v'
  simpa using this
end
section
variable {P : Program} (w : World)
theorem step_appR {ops : Array Oper} {o : Oper} {a : Act} {K : Act → World → Prop} {Q : Exit → Act → World → Prop} {E : Prop} (hgd : o.guard = none) (s x : Operand) (t : TypeId)
    (ho : o.op = .call { callee := .builtin .append, args := #[s, x], argTypes := #[t, t] })
    (base : Nat) (e : TypeId) (i : TypeInfo) (z : Value) (size bytes : Nat) (ht : P.underlying t = some (.slice e)) (hi : P.info? e = some i) (hz : i.zero = some z)
    (hsize : i.size = size) (hby : i.bytes = bytes) (hzs : z.cells.size = size) (hsz : 0 < size)
    (v : Value) (n : Nat) (xs : List Value) (hs : a.eval s = v) (hown : w.ownsRow base e size v n xs)
    (B : Nat) (A : Option Addr) (m c : Nat) (news : List Value) (hx : a.eval x = .slice A m c) (hr : Row w B size A m news) (h1 : ∀ u ∈ news, u.oneCell' = true)
    (h63 : n + m ≤ maxLen) (hbytes : (n + m) * bytes ≤ 140737488355328) (hbase : base ≤ w.heap.size)
    (h : ∀ v' w', w'.ownsRow base e size v' (n + m) (xs ++ news) → w.grownBy w' v.ownBlock → (v'.ownBlock = v.ownBlock ∨ v'.ownBlock = some w.heap.size) → K (a.put o.dst v') w') :
    if Region.wanted o (yielded ops a.tmps) = true then Oper.wp P o a w K Q else E := by
  have hw : Region.wanted o (yielded ops a.tmps) = true := by simp [Region.wanted, hgd]
  rw [if_pos hw]
  exact wp_app w s x t ho base e i z size bytes ht hi hz hsize hby hzs hsz v n xs hs hown B A m c news hx hr h1 h63 hbytes hbase h
end
end Go.Proofs.YtdggnnjjiolldaaGreat
