/- A head that a record is laid into, as it lies: its series, one more, a sample more. No program is walked here. -/
import Derived.Test.YthncochjhbmceaaGreatHedAP
namespace Go.Proofs.YthncochjhbmceaaGreat
set_option maxRecDepth 100000
open Go.RowKit

/-- a head's series, without its index -/
structure HedS (w : World) (base h ip : Nat) (sv : Value) (S : List HsR) : Prop where
  blk : Whole1 w h 99 #[.pointer (some ⟨ip, 0, none⟩), sv]
  old : base ≤ h
  row : w.ownsRow base 108 1 sv S.length (S.map HsR.ptr)
  at_ : ∀ x ∈ S, x.At w base
  off : S.Pairwise HsR.off
section
variable {w w' : World} {base b h ip i : Nat} {sv : Value} {E : List (List Lbl)} {S : List HsR} {x : HsR} {ts : List TypeId} {mp : Bool}
theorem HedB.s (k : HedB w base h ip sv E S) : HedS w base h ip sv S := ⟨k.blk, k.old, k.row, k.at_, k.off⟩
theorem HedS.full (k : HedS w base h ip sv S) (hi : Idx w base ip E) (hl : S.length = E.length) : HedB w base h ip sv E S := ⟨k.blk, k.old, hi, k.row, hl, k.at_, k.off⟩
theorem HedS.turn (k : HedS w base h ip sv S) (t : Turn b ts mp w w') (hn : ∀ u ∈ [99, 108, 107, 33, 68], u ∉ ts) : HedS w' base h ip sv S :=
  ⟨t.whole k.blk (.inr (hn _ (by simp))), k.old, t.own k.row (.inl (hn _ (by simp))), fun x hx => (k.at_ x hx).turn t (hn _ (by simp)) (hn _ (by simp)) (hn _ (by simp)), k.off⟩
theorem HedS.below (k : HedS w base h ip sv S) (hb : Below w.heap.size w w') : HedS w' base h ip sv S := k.turn (Turn.of_below hb 0 [] false) (by simp)
/-- a series more: its block was made, its pointer put behind the others -/
theorem HedS.snoc {w2 : World} {g : Nat} {sv' : Value} (k : HedS w base h ip sv S) (hb : Below w.heap.size w w2) (hw : Whole1 w2 g 107 #[.int .i64 (-1), .slice none 0 0, .slice none 0 0, .slice none 0 0, .slice none 0 0]) (hg : w.heap.size ≤ g) (hbase : base ≤ w.heap.size)
    (hown : w'.ownsRow base 108 1 sv' (S.length + 1) (S.map HsR.ptr ++ [.pointer (some ⟨g, 0, none⟩)])) (hgr : w2.grownBy w' sv.ownBlock) :
    Whole1 w' h 99 #[.pointer (some ⟨ip, 0, none⟩), sv] ∧ HedS (w'.setCell ⟨h, 1, none⟩ sv') base h ip sv' (S ++ [⟨g, -1, .slice none 0 0, [], .slice none 0 0, []⟩]) ∧ Turn base [99, 108] false w (w'.setCell ⟨h, 1, none⟩ sv') := by
  have k2 := k.below hb
  have t1 : Turn base [108] false w2 w' := Turn.of_own k2.row (Nat.le_refl _) (by simp) hgr
  have hh := t1.whole k2.blk (.inr (by decide))
  have t2 : Turn base [99] false w' (w'.setCell ⟨h, 1, none⟩ sv') := Turn.put hh k.old (by simp) 1 sv'
  have hat : ∀ x : HsR, x.At w2 base → x.At (w'.setCell ⟨h, 1, none⟩ sv') base := fun x hx => (hx.turn t1 (by decide) (by decide) (by decide)).turn t2 (by decide) (by decide) (by decide)
  refine ⟨hh, ⟨hh.put 1 sv', k.old, ?_, fun x hx => ?_, ?_⟩, ?_⟩
  · have := t2.own hown (.inl (by decide))
    rw [List.length_append, List.map_append]
    exact this
  · rcases List.mem_append.1 hx with hx | hx
    · exact hat x (k2.at_ x hx)
    · rw [List.mem_singleton.1 hx]
      exact hat _ ⟨hw, Nat.le_trans hbase hg, World.ownsRow_nil _ _ _ _, World.ownsRow_nil _ _ _ _, fun _ => rfl⟩
  · refine List.pairwise_append.2 ⟨k.off, List.pairwise_singleton _ _, fun x hx y hy => ?_⟩
    rw [List.mem_singleton.1 hy]
    refine ⟨fun e => ?_, fun q hq e => by simp [Value.ownBlock] at e⟩
    have := (k.at_ x hx).blk.lt
    simp only at e
    omega
  · exact ((Turn.of_below hb base _ _).trans (t1.wider (Nat.le_refl _) (by simp) id)).trans (t2.wider (Nat.le_refl _) (by simp) id)
theorem off_at {S : List HsR} (h : S.Pairwise HsR.off) {i j : Nat} {x y : HsR} (hi : S[i]? = some x) (hj : S[j]? = some y) (hne : i ≠ j) : x.b ≠ y.b ∧ (∀ g, x.sv.ownBlock = some g → y.sv.ownBlock ≠ some g) := by
  obtain ⟨h1, rfl⟩ := List.getElem?_eq_some_iff.1 hi
  obtain ⟨h2, rfl⟩ := List.getElem?_eq_some_iff.1 hj
  rcases Nat.lt_or_gt_of_ne hne with hlt | hlt
  · exact List.pairwise_iff_getElem.1 h i j h1 h2 hlt
  · obtain ⟨a, c⟩ := List.pairwise_iff_getElem.1 h j i h2 h1 hlt
    exact ⟨Ne.symm a, fun g hg e => c g e hg⟩
/-- a series' blocks are other ones -/
theorem HsR.At.put {y : HsR} {v : Value} {j : Nat} (hx : x.At w base) (hy : y.At w base) (hne : x.b ≠ y.b) : y.At (w.setCell ⟨x.b, j, none⟩ v) base := by
  have t : Turn base [107] false w (w.setCell ⟨x.b, j, none⟩ v) := Turn.put hx.blk hx.old (by simp) j v
  exact ⟨hy.blk.off (p := ⟨x.b, j, none⟩) (Ne.symm hne) v, hy.old, t.own hy.gon (.inl (by decide)), t.own hy.smp (.inl (by decide)), hy.gnl⟩
theorem HsR.At.grown {y : HsR} {v : Value} (hy : y.At w base) {xs : List Value} {n : Nat} (hown : w.ownsRow base 68 2 v n xs) (hne : ∀ g, v.ownBlock = some g → y.sv.ownBlock ≠ some g) (hg : w.grownBy w' v.ownBlock) : y.At w' base := by
  have t : Turn base [68] false w w' := Turn.of_own hown (Nat.le_refl _) (by simp) hg
  exact ⟨t.whole hy.blk (.inr (by decide)), hy.old, t.own hy.gon (.inl (by decide)), Apart.kept (v1 := v) hne hy.smp hg, hy.gnl⟩
/-- a sample more in the series i -/
theorem HedS.point {w2 : World} {sv' : Value} {t : Int} {u : Nat} (k : HedS w base h ip sv S) (hb : Below w.heap.size w w2) (hi : S[i]? = some x)
    (hown : w'.ownsRow base 68 2 sv' (x.sm.length + 1) (x.sm.flatMap Smp.cells ++ [.int .i64 t, .int .u64 (u : Int)])) (hgr : w2.grownBy w' x.sv.ownBlock) (hat : sv'.ownBlock = x.sv.ownBlock ∨ ∃ q, sv'.ownBlock = some q ∧ w.heap.size ≤ q) :
    Whole1 w' x.b 107 x.cells ∧ HedS ((w'.setCell ⟨x.b, 4, none⟩ sv').setCell ⟨x.b, 0, none⟩ (.int .i64 t)) base h ip sv (S.set i ⟨x.b, t, x.gv, x.gone, sv', x.sm ++ [⟨t, u⟩]⟩) ∧ Turn base [107, 68] false w ((w'.setCell ⟨x.b, 4, none⟩ sv').setCell ⟨x.b, 0, none⟩ (.int .i64 t)) := by
  have k2 := k.below hb
  have hxm := List.mem_of_getElem? hi
  have hx2 := k2.at_ x hxm
  have t1 : Turn base [68] false w2 w' := Turn.of_own hx2.smp (Nat.le_refl _) (by simp) hgr
  have hxb := t1.whole hx2.blk (.inr (by decide))
  have t2 : Turn base [107] false w' (w'.setCell ⟨x.b, 4, none⟩ sv') := Turn.put hxb hx2.old (by simp) 4 sv'
  have hxb2 := hxb.put 4 sv'
  have t3 : Turn base [107] false (w'.setCell ⟨x.b, 4, none⟩ sv') ((w'.setCell ⟨x.b, 4, none⟩ sv').setCell ⟨x.b, 0, none⟩ (.int .i64 t)) := Turn.put hxb2 hx2.old (by simp) 0 _
  have hxb3 := hxb2.put 0 (.int .i64 t)
  have t23 := t2.trans t3
  refine ⟨hxb, ⟨t23.whole (t1.whole k2.blk (.inr (by decide))) (.inr (by decide)), k.old, ?_, fun y hy => ?_, ?_⟩, ((Turn.of_below hb base _ _).trans (t1.wider (Nat.le_refl _) (by simp) id)).trans (t23.wider (Nat.le_refl _) (by simp) id)⟩
  · have hm : (S.set i ⟨x.b, t, x.gv, x.gone, sv', x.sm ++ [⟨t, u⟩]⟩).map HsR.ptr = S.map HsR.ptr := by
      rw [List.map_set]
      obtain ⟨hil, e⟩ := List.getElem?_eq_some_iff.1 hi
      have : HsR.ptr ⟨x.b, t, x.gv, x.gone, sv', x.sm ++ [⟨t, u⟩]⟩ = (S.map HsR.ptr)[i]'(by simpa using hil) := by rw [List.getElem_map, e]; rfl
      rw [this]
      exact List.set_getElem_self _
    rw [hm, List.length_set]
    exact t23.own (t1.own k2.row (.inl (by decide))) (.inl (by decide))
  · obtain ⟨j, hj⟩ := List.mem_iff_getElem?.1 hy
    rw [List.getElem?_set] at hj
    split at hj
    · rename_i e
      subst e
      split at hj
      · obtain rfl := Option.some.inj hj
        refine ⟨hxb3, hx2.old, t23.own (t1.own hx2.gon (.inl (by decide))) (.inl (by decide)), ?_, hx2.gnl⟩
        have := t23.own hown (.inl (by decide))
        simpa [Smp.cells] using this
      · cases hj
    · rename_i e
      obtain ⟨hne, hso⟩ := off_at k.off hi hj e
      have hym := List.mem_of_getElem? hj
      have a1 := (k2.at_ y hym).grown hx2.smp hso hgr
      have a2 : y.At (w'.setCell ⟨x.b, 4, none⟩ sv') base := ⟨a1.blk.off (p := ⟨x.b, 4, none⟩) (Ne.symm hne) sv', a1.old, t2.own a1.gon (.inl (by decide)), t2.own a1.smp (.inl (by decide)), a1.gnl⟩
      exact ⟨a2.blk.off (p := ⟨x.b, 0, none⟩) (Ne.symm hne) _, a2.old, t3.own a2.gon (.inl (by decide)), t3.own a2.smp (.inl (by decide)), a2.gnl⟩
  · have hlt : ∀ y ∈ S, ∀ g, y.sv.ownBlock = some g → g < w.heap.size := fun y hy g hg => ((k.at_ y hy).smp.lt g hg).2
    refine List.pairwise_iff_getElem.2 fun a c ha hc hac => ?_
    rw [List.length_set] at ha hc
    have hgen : ∀ (y : HsR) (j : Nat), S[j]? = some y → i ≠ j → x.b ≠ y.b ∧ (∀ g, sv'.ownBlock = some g → y.sv.ownBlock ≠ some g) := fun y j hj hne => by
      obtain ⟨h1, h2⟩ := off_at k.off hi hj hne
      refine ⟨h1, fun g hg e => ?_⟩
      rcases hat with ha | ⟨q, hq, hqs⟩
      · exact h2 g (ha ▸ hg) e
      · rw [hq] at hg
        cases hg
        have := hlt y (List.mem_of_getElem? hj) g e
        omega
    rw [List.getElem_set, List.getElem_set]
    split
    · rename_i e1
      rw [if_neg (by omega)]
      obtain ⟨h1, h2⟩ := hgen S[c] c (List.getElem?_eq_getElem hc) (by omega)
      exact ⟨h1, h2⟩
    · rename_i e1
      split
      · rename_i e2
        obtain ⟨h1, h2⟩ := hgen S[a] a (List.getElem?_eq_getElem ha) (by omega)
        exact ⟨Ne.symm h1, fun g hg e => h2 g e hg⟩
      · exact List.pairwise_iff_getElem.1 k.off a c ha hc hac
/-- the times that are taken away from the series i are laid anew -/
theorem HedS.gone {gv' : Value} {R : List Spn} (k : HedS w base h ip sv S) (hb : Below w.heap.size w w') (hi : S[i]? = some x) (hown : w'.ownsRow base 33 2 gv' R.length (R.flatMap Spn.cells)) (hR : R ≠ []) :
    Whole1 w' x.b 107 x.cells ∧ HedS (w'.setCell ⟨x.b, 1, none⟩ gv') base h ip sv (S.set i ⟨x.b, x.mx, gv', R, x.sv, x.sm⟩) ∧ Turn base [107] false w (w'.setCell ⟨x.b, 1, none⟩ gv') := by
  have k2 := k.below hb
  have hxm := List.mem_of_getElem? hi
  have hx2 := k2.at_ x hxm
  have t2 : Turn base [107] false w' (w'.setCell ⟨x.b, 1, none⟩ gv') := Turn.put hx2.blk hx2.old (by simp) 1 gv'
  refine ⟨hx2.blk, ⟨t2.whole k2.blk (.inr (by decide)), k.old, ?_, fun y hy => ?_, ?_⟩, (Turn.of_below hb base _ _).trans t2⟩
  · have hm : (S.set i ⟨x.b, x.mx, gv', R, x.sv, x.sm⟩).map HsR.ptr = S.map HsR.ptr := by
      rw [List.map_set]
      obtain ⟨hil, e⟩ := List.getElem?_eq_some_iff.1 hi
      have : HsR.ptr ⟨x.b, x.mx, gv', R, x.sv, x.sm⟩ = (S.map HsR.ptr)[i]'(by simpa using hil) := by rw [List.getElem_map, e]; rfl
      rw [this]
      exact List.set_getElem_self _
    rw [hm, List.length_set]
    exact t2.own k2.row (.inl (by decide))
  · obtain ⟨j, hj⟩ := List.mem_iff_getElem?.1 hy
    rw [List.getElem?_set] at hj
    split at hj
    · rename_i e
      subst e
      split at hj
      · obtain rfl := Option.some.inj hj
        exact ⟨hx2.blk.put 1 gv', hx2.old, t2.own hown (.inl (by decide)), t2.own hx2.smp (.inl (by decide)), fun e => absurd e hR⟩
      · cases hj
    · rename_i e
      obtain ⟨hne, _⟩ := off_at k.off hi hj e
      exact hx2.put (k2.at_ y (List.mem_of_getElem? hj)) hne
  · refine List.pairwise_iff_getElem.2 fun a c ha hc hac => ?_
    rw [List.length_set] at ha hc
    rw [List.getElem_set, List.getElem_set]
    split
    · rename_i e1
      rw [if_neg (by omega)]
      obtain ⟨h1, h2⟩ := off_at k.off hi (List.getElem?_eq_getElem hc) (by omega)
      exact ⟨h1, h2⟩
    · split
      · rename_i e2
        obtain ⟨h1, h2⟩ := off_at k.off hi (List.getElem?_eq_getElem ha) (by omega)
        exact ⟨Ne.symm h1, fun g hg e => h2 g e hg⟩
      · exact List.pairwise_iff_getElem.1 k.off a c ha hc hac
theorem sm_le_cnt {S : List SerP} {s : SerP} (h : s ∈ S) : s.sm.length ≤ cntP S := by
  unfold cntP
  induction S with
  | nil => cases h
  | cons y S ih =>
    rw [List.map_cons, List.sum_cons]
    rcases List.mem_cons.1 h with rfl | h
    · omega
    · have := ih h; omega
/-- a record of its maker's own, behind a turning -/
theorem RecO.turn {r : RecR} (k : RecO w base r) (t : Turn b ts mp w w') (h1 : 113 ∉ ts) (h2 : 115 ∉ ts) (h3 : 118 ∉ ts) (h4 : 70 ∉ ts) (h5 : 33 ∉ ts ∨ r.gones.l = []) : RecO w' base r := by
  have n' := t.own k.news (.inl h1)
  have p' := t.own k.pts (.inl h2)
  have g' := t.own k.gones (.inl h3)
  have l' := fun x hx => (k.labs x hx).turn t h4
  obtain ⟨_, _, e1, _, r1⟩ := own_shape n'
  obtain ⟨_, _, e2, _, r2⟩ := own_shape p'
  obtain ⟨_, _, e3, _, r3⟩ := own_shape g'
  obtain ⟨⟨nA, nn, nc, nl⟩, ⟨pA, pn, pc, pl⟩, ⟨gA, gn, gc, gl⟩⟩ := r
  simp only [Sl.val, Value.slice.injEq, true_and] at e1 e2 e3
  obtain ⟨rfl, rfl⟩ := e1
  obtain ⟨rfl, rfl⟩ := e2
  obtain ⟨rfl, rfl⟩ := e3
  have a := k.at_
  refine ⟨⟨⟨a.news.1, a.news.2.1, r1⟩, fun x hx => ⟨(l' x hx).f, (a.labs x hx).2⟩, a.newI, ⟨a.pts.1, a.pts.2.1, r2⟩, a.ptI, ⟨a.gones.1, a.gones.2.1, r3⟩, fun x hx => ?_, a.gonI, a.few⟩, n', l', p', g', fun x hx => ?_⟩
  · rcases h5 with h5 | h5
    · have s' := t.own (k.spns x hx) (.inl h5)
      obtain ⟨_, _, e4, hc4, r4⟩ := own_shape s'
      obtain ⟨xr, xs, ⟨sA, sn, sc, sl⟩⟩ := x
      simp only [Sl.val, Value.slice.injEq, true_and] at e4
      obtain ⟨rfl, rfl⟩ := e4
      exact ⟨⟨hc4, (a.spans _ hx).1.2.1, r4⟩, (a.spans _ hx).2⟩
    · simp only at h5 hx
      rw [h5] at hx
      cases hx
  · rcases h5 with h5 | h5
    · exact t.own (k.spns x hx) (.inl h5)
    · simp only at h5 hx
      rw [h5] at hx
      cases hx
end
end Go.Proofs.YthncochjhbmceaaGreat
