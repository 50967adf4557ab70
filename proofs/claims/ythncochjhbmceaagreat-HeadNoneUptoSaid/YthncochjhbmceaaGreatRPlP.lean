/- The document's plan and its record, as they lie. No program is walked here. -/
import Derived.Test.YthncochjhbmceaaGreatHedBat
import Derived.Test.YthncochjhbmceaaGreatHedPlP
import Derived.Test.YthncochjhbmceaaGreatCkP
namespace Go.Proofs.YthncochjhbmceaaGreat
set_option maxRecDepth 100000
open Go.RowKit

/-- one cell of an element is written -/
theorem fm_set1 {α : Type} {enc : α → List Value} {k : Nat} (hk : ∀ x, (enc x).length = k) (u : Value) (q : Nat) (hq : q < k) (y : α) : ∀ (l : List α) (i : Nat) (x : α), l[i]? = some x → enc y = (enc x).set q u → (l.flatMap enc).set (i * k + q) u = (l.set i y).flatMap enc
  | [], i, x, h, _ => by simp at h
  | a :: l, 0, x, h, hy => by
    simp only [List.getElem?_cons_zero, Option.some.injEq] at h
    subst h
    rw [List.set_cons_zero, List.flatMap_cons, List.flatMap_cons, hy, Nat.zero_mul, Nat.zero_add, List.set_append_left _ _ (by rw [hk]; exact hq)]
  | a :: l, i + 1, x, h, hy => by
    rw [List.getElem?_cons_succ] at h
    rw [List.set_cons_succ, List.flatMap_cons, List.flatMap_cons, List.set_append_right _ _ (by rw [hk, Nat.succ_mul]; omega), hk, show (i + 1) * k + q - k = i * k + q by rw [Nat.succ_mul]; omega, fm_set1 hk u q hq y l i x h hy]
theorem own_cell {α : Type} {enc : α → List Value} {k : Nat} (hk : ∀ x, (enc x).length = k) {w : World} {base n c : Nat} {T : TypeId} {A : Option Addr} {l : List α} (h : w.ownsRow base T k (.slice A n c) n (l.flatMap enc)) (hl : l.length = n) {i q : Nat} {x y : α} {u : Value} (hx : l[i]? = some x) (hq : q < k) (hy : enc y = (enc x).set q u) :
    ∃ g cs, A = some ⟨g, 0, none⟩ ∧ base ≤ g ∧ Whole1 w g T cs ∧ i * k + q < cs.size ∧ (w.setCell ⟨g, i * k + q, none⟩ u).ownsRow base T k (.slice A n c) n ((l.set i y).flatMap enc) := by
  have hi := (List.getElem?_eq_some_iff.1 hx).1
  obtain ⟨hl0, h2⟩ := h
  rcases h2 with ⟨_, h0⟩ | ⟨g, cap, cur, hv, hb, hg, hnc, hc, hs, ht⟩
  · omega
  · have hw : Whole1 w g T cur := hg
    injection hv with e1 _ e3
    subst e1 e3
    have hk0 : i * k + q < n * k := by
      have : (i + 1) * k ≤ n * k := Nat.mul_le_mul_right _ (by omega)
      rw [Nat.succ_mul] at this
      omega
    have hcs : n * k ≤ cur.size := by rw [hs]; exact Nat.mul_le_mul_right _ hnc
    refine ⟨g, cur, rfl, hb, hw, by omega, by rw [fm_len hk, List.length_set, hl], .inr ⟨g, c, cur.setIfInBounds (i * k + q) u, rfl, hb, hw.put _ u, hnc, hc, by simpa using hs, ?_⟩⟩
    rw [Array.toList_setIfInBounds, List.take_set, ht]
    exact fm_set1 hk u q hq y l i x hx hy
/-- a new series, by what it says -/
def nwV (x : NewQ) : Int × List Lbl := (x.ref, x.lab.l)
/-- new series of a record for the reference: the row from base on, the labels from lb on -/
structure NewsR (w : World) (base lb : Nat) (v : Value) (L : List NewQ) : Prop where
  row : w.ownsRow base 202 2 v L.length (L.flatMap NewQ.cells)
  labs : ∀ x ∈ L, w.ownsRow lb 167 2 x.lab.val x.lab.n (x.lab.l.flatMap Lbl.cells) ∧ x.lab.l.length = x.lab.n
section
variable {w w' : World} {base lb b : Nat} {v : Value} {L : List NewQ} {ts : List TypeId} {mp : Bool}
theorem NewsR.turn (h : NewsR w base lb v L) (k : Turn b ts mp w w') (h1 : 202 ∉ ts) (h2 : 167 ∉ ts) : NewsR w' base lb v L :=
  ⟨k.own h.row (.inl h1), fun y hy => ⟨k.own (h.labs y hy).1 (.inl h2), (h.labs y hy).2⟩⟩
theorem NewsR.below (h : NewsR w base lb v L) (hb : Below w.heap.size w w') : NewsR w' base lb v L := h.turn (Turn.of_below hb 0 [] false) (by simp) (by simp)
theorem NewsR.nil : NewsR w base lb (.slice none 0 0) [] := ⟨World.ownsRow_nil _ _ _ _, by simp⟩
theorem NewsR.snoc {v' : Value} {x : NewQ} (h : NewsR w base lb v L) (hs : w.ownsRow lb 167 2 x.lab.val x.lab.n (x.lab.l.flatMap Lbl.cells) ∧ x.lab.l.length = x.lab.n)
    (hown : w'.ownsRow base 202 2 v' (L.length + 1) (L.flatMap NewQ.cells ++ x.cells)) (hg : w.grownBy w' v.ownBlock) : NewsR w' base lb v' (L ++ [x]) := by
  have k : Turn base [202] false w w' := Turn.of_own h.row (Nat.le_refl _) (by simp) hg
  refine ⟨by simpa using hown, fun y hy => ?_⟩
  rcases List.mem_append.1 hy with hy | hy
  · exact ⟨k.own (h.labs y hy).1 (.inl (by decide)), (h.labs y hy).2⟩
  · rw [List.mem_singleton.1 hy]; exact ⟨k.own hs.1 (.inl (by decide)), hs.2⟩
end
/-- a record for the reference under way: w0 the world that it began in, R its block -/
structure RecU (w0 w : World) (lb R : Nat) (nv pv : Value) (L : List NewQ) (P : List PntR) : Prop where
  rec_ : Whole1 w R 126 #[nv, pv, .slice none 0 0]
  news : NewsR w w0.heap.size lb nv L
  pts : w.ownsRow w0.heap.size 203 3 pv P.length (P.flatMap PntR.cells)
  below : Below w0.heap.size w0 w
  rb : w0.heap.size ≤ R
section
variable {w0 w w' : World} {lb R b : Nat} {nv pv : Value} {L : List NewQ} {P : List PntR} {ts : List TypeId} {mp : Bool}
theorem RecU.turn (h : RecU w0 w lb R nv pv L P) (k : Turn w0.heap.size ts mp w w') (hn : ∀ u ∈ [126, 202, 203, 167], u ∉ ts) : RecU w0 w' lb R nv pv L P :=
  ⟨k.whole h.rec_ (.inr (hn _ (by simp))), h.news.turn k (hn _ (by simp)) (hn _ (by simp)), k.own h.pts (.inl (hn _ (by simp))), h.below.trans (k.below (Nat.le_refl _) h.below.size), h.rb⟩
theorem RecU.on (h : RecU w0 w lb R nv pv L P) (hb : Below w.heap.size w w') : RecU w0 w' lb R nv pv L P := h.turn (Turn.of_below hb _ [] false) (by simp)
/-- a new series more -/
theorem RecU.newS {v' : Value} {x : NewQ} (h : RecU w0 w lb R nv pv L P) (hs : w.ownsRow lb 167 2 x.lab.val x.lab.n (x.lab.l.flatMap Lbl.cells) ∧ x.lab.l.length = x.lab.n)
    (hown : w'.ownsRow w0.heap.size 202 2 v' (L.length + 1) (L.flatMap NewQ.cells ++ x.cells)) (hg : w.grownBy w' nv.ownBlock) :
    Whole1 w' R 126 #[nv, pv, .slice none 0 0] ∧ RecU w0 (w'.setCell ⟨R, 0, none⟩ v') lb R v' pv (L ++ [x]) P ∧ Turn w0.heap.size [202, 126] false w (w'.setCell ⟨R, 0, none⟩ v') := by
  have k : Turn w0.heap.size [202] false w w' := Turn.of_own h.news.row (Nat.le_refl _) (by simp) hg
  have hr := k.whole h.rec_ (.inr (by decide))
  have k2 : Turn w0.heap.size [126] false w' (w'.setCell ⟨R, 0, none⟩ v') := Turn.put hr h.rb (by simp) 0 v'
  refine ⟨hr, ⟨hr.put 0 v', (h.news.snoc hs hown hg).turn k2 (by decide) (by decide), k2.own (k.own h.pts (.inl (by decide))) (.inl (by decide)), (h.below.trans (k.below (Nat.le_refl _) h.below.size)).trans (k2.below (Nat.le_refl _) (Nat.le_trans h.below.size k.size)), h.rb⟩, (k.wider (Nat.le_refl _) (by simp) id).trans (k2.wider (Nat.le_refl _) (by simp) id)⟩
/-- a point more -/
theorem RecU.point {v' : Value} {x : PntR} (h : RecU w0 w lb R nv pv L P) (hown : w'.ownsRow w0.heap.size 203 3 v' (P.length + 1) (P.flatMap PntR.cells ++ x.cells)) (hg : w.grownBy w' pv.ownBlock) :
    Whole1 w' R 126 #[nv, pv, .slice none 0 0] ∧ RecU w0 (w'.setCell ⟨R, 1, none⟩ v') lb R nv v' L (P ++ [x]) ∧ Turn w0.heap.size [203, 126] false w (w'.setCell ⟨R, 1, none⟩ v') := by
  have k : Turn w0.heap.size [203] false w w' := Turn.of_own h.pts (Nat.le_refl _) (by simp) hg
  have hr := k.whole h.rec_ (.inr (by decide))
  have k2 : Turn w0.heap.size [126] false w' (w'.setCell ⟨R, 1, none⟩ v') := Turn.put hr h.rb (by simp) 1 v'
  refine ⟨hr, ⟨hr.put 1 v', (h.news.turn k (by decide) (by decide)).turn k2 (by decide) (by decide), ?_, (h.below.trans (k.below (Nat.le_refl _) h.below.size)).trans (k2.below (Nat.le_refl _) (Nat.le_trans h.below.size k.size)), h.rb⟩, (k.wider (Nat.le_refl _) (by simp) id).trans (k2.wider (Nat.le_refl _) (by simp) id)⟩
  have := k2.own hown (.inl (by decide))
  simpa using this
end
/-- a series of the document's trial, as it lies -/
structure TrR where
  lab : Sl Lbl
  mx : Int
def TrR.cells (x : TrR) : List Value := [x.lab.val, .int .i64 x.mx, .slice none 0 0, .slice none 0 0, .slice none 0 0, .slice none 0 0]
def TrR.p (x : TrR) : List Lbl × Int := (x.lab.l, x.mx)
/-- the types of the blocks that the document's plan writes -/
abbrev rpT : List TypeId := [126, 202, 203, 153, 50, 3]
/-- the document's plan under way: H its head's block -/
structure RPl (w0 w : World) (lb H R : Nat) (lv nv pv vv : Value) (T : List TrR) (L : List NewQ) (P : List PntR) (V : List Int) : Prop where
  rc : RecU w0 w lb R nv pv L P
  head : Whole1 w H 50 #[lv]
  list : w.ownsRow w0.heap.size 153 6 lv T.length (T.flatMap TrR.cells)
  labs : ∀ x ∈ T, w.ownsRow lb 167 2 x.lab.val x.lab.n (x.lab.l.flatMap Lbl.cells) ∧ x.lab.l.length = x.lab.n
  ver : w.ownsRow w0.heap.size 3 1 vv V.length (V.map (Value.int .i64))
  hb : w0.heap.size ≤ H
section
variable {w0 w w' : World} {lb H R : Nat} {lv nv pv vv : Value} {T : List TrR} {L : List NewQ} {P : List PntR} {V : List Int} {ts : List TypeId} {mp : Bool}
theorem RPl.on (h : RPl w0 w lb H R lv nv pv vv T L P V) (hb : Below w.heap.size w w') : RPl w0 w' lb H R lv nv pv vv T L P V := by
  have k := Turn.of_below hb w0.heap.size [] false
  exact ⟨h.rc.on hb, h.head.below hb h.head.lt, own_below h.list hb (Nat.le_refl _), fun x hx => ⟨k.own (h.labs x hx).1 (.inl (by simp)), (h.labs x hx).2⟩, own_below h.ver hb (Nat.le_refl _), h.hb⟩
/-- a verdict more -/
theorem RPl.verdict {v' : Value} {x : Int} (h : RPl w0 w lb H R lv nv pv vv T L P V) (hown : w'.ownsRow w0.heap.size 3 1 v' (V.length + 1) (V.map (Value.int .i64) ++ [.int .i64 x])) (hg : w.grownBy w' vv.ownBlock) : RPl w0 w' lb H R lv nv pv v' T L P (V ++ [x]) ∧ Turn w0.heap.size rpT false w w' := by
  have k : Turn w0.heap.size [3] false w w' := Turn.of_own h.ver (Nat.le_refl _) (by simp) hg
  exact ⟨⟨h.rc.turn k (by decide), k.whole h.head (.inr (by decide)), k.own h.list (.inl (by decide)), fun y hy => ⟨k.own (h.labs y hy).1 (.inl (by decide)), (h.labs y hy).2⟩, by simpa using hown, h.hb⟩, k.wider (Nat.le_refl _) (by simp) id⟩
/-- a series more on trial -/
theorem RPl.trial {v' : Value} {x : TrR} (h : RPl w0 w lb H R lv nv pv vv T L P V) (hs : w.ownsRow lb 167 2 x.lab.val x.lab.n (x.lab.l.flatMap Lbl.cells) ∧ x.lab.l.length = x.lab.n)
    (hown : w'.ownsRow w0.heap.size 153 6 v' (T.length + 1) (T.flatMap TrR.cells ++ x.cells)) (hg : w.grownBy w' lv.ownBlock) :
    Whole1 w' H 50 #[lv] ∧ RPl w0 (w'.setCell ⟨H, 0, none⟩ v') lb H R v' nv pv vv (T ++ [x]) L P V ∧ Turn w0.heap.size rpT false w (w'.setCell ⟨H, 0, none⟩ v') := by
  have k : Turn w0.heap.size [153] false w w' := Turn.of_own h.list (Nat.le_refl _) (by simp) hg
  have hr := k.whole h.head (.inr (by decide))
  have k2 : Turn w0.heap.size [50] false w' (w'.setCell ⟨H, 0, none⟩ v') := Turn.put hr h.hb (by simp) 0 v'
  refine ⟨hr, ⟨(h.rc.turn k (by decide)).turn k2 (by decide), hr.put 0 v', ?_, fun y hy => ?_, k2.own (k.own h.ver (.inl (by decide))) (.inl (by decide)), h.hb⟩, (k.wider (Nat.le_refl _) (by simp) id).trans (k2.wider (Nat.le_refl _) (by simp) id)⟩
  · have := k2.own hown (.inl (by decide))
    simpa using this
  · rcases List.mem_append.1 hy with hy | hy
    · exact ⟨k2.own (k.own (h.labs y hy).1 (.inl (by decide))) (.inl (by decide)), (h.labs y hy).2⟩
    · rw [List.mem_singleton.1 hy]
      exact ⟨k2.own (k.own hs.1 (.inl (by decide))) (.inl (by decide)), hs.2⟩
/-- the record got a new series -/
theorem RPl.newS {v' : Value} {x : NewQ} (h : RPl w0 w lb H R lv nv pv vv T L P V) (hs : w.ownsRow lb 167 2 x.lab.val x.lab.n (x.lab.l.flatMap Lbl.cells) ∧ x.lab.l.length = x.lab.n)
    (hown : w'.ownsRow w0.heap.size 202 2 v' (L.length + 1) (L.flatMap NewQ.cells ++ x.cells)) (hg : w.grownBy w' nv.ownBlock) :
    Whole1 w' R 126 #[nv, pv, .slice none 0 0] ∧ RPl w0 (w'.setCell ⟨R, 0, none⟩ v') lb H R lv v' pv vv T (L ++ [x]) P V ∧ Turn w0.heap.size rpT false w (w'.setCell ⟨R, 0, none⟩ v') := by
  obtain ⟨h1, h2, k⟩ := h.rc.newS hs hown hg
  exact ⟨h1, ⟨h2, k.whole h.head (.inr (by decide)), k.own h.list (.inl (by decide)), fun y hy => ⟨k.own (h.labs y hy).1 (.inl (by decide)), (h.labs y hy).2⟩, k.own h.ver (.inl (by decide)), h.hb⟩, k.wider (Nat.le_refl _) (by simp) id⟩
/-- the record got a point -/
theorem RPl.point {v' : Value} {x : PntR} (h : RPl w0 w lb H R lv nv pv vv T L P V) (hown : w'.ownsRow w0.heap.size 203 3 v' (P.length + 1) (P.flatMap PntR.cells ++ x.cells)) (hg : w.grownBy w' pv.ownBlock) :
    Whole1 w' R 126 #[nv, pv, .slice none 0 0] ∧ RPl w0 (w'.setCell ⟨R, 1, none⟩ v') lb H R lv nv v' vv T L (P ++ [x]) V ∧ Turn w0.heap.size rpT false w (w'.setCell ⟨R, 1, none⟩ v') := by
  obtain ⟨h1, h2, k⟩ := h.rc.point hown hg
  exact ⟨h1, ⟨h2, k.whole h.head (.inr (by decide)), k.own h.list (.inl (by decide)), fun y hy => ⟨k.own (h.labs y hy).1 (.inl (by decide)), (h.labs y hy).2⟩, k.own h.ver (.inl (by decide)), h.hb⟩, k.wider (Nat.le_refl _) (by simp) id⟩
/-- a series on trial got a greatest time -/
theorem RPl.time {A : Option Addr} {n c i : Nat} {x : TrR} (h : RPl w0 w lb H R (.slice A n c) nv pv vv T L P V) (hn : T.length = n) (hx : T[i]? = some x) (t : Int) :
    ∃ g cs, A = some ⟨g, 0, none⟩ ∧ Whole1 w g 153 cs ∧ i * 6 + 1 < cs.size ∧ RPl w0 (w.setCell ⟨g, i * 6 + 1, none⟩ (.int .i64 t)) lb H R (.slice A n c) nv pv vv (T.set i ⟨x.lab, t⟩) L P V ∧ Turn w0.heap.size rpT false w (w.setCell ⟨g, i * 6 + 1, none⟩ (.int .i64 t)) := by
  subst hn
  obtain ⟨g, cs, hA, hg, hw, hs, ho⟩ := own_cell (enc := TrR.cells) (k := 6) (q := 1) (u := .int .i64 t) (y := ⟨x.lab, t⟩) (fun _ => rfl) h.list rfl hx (by omega) rfl
  have k : Turn w0.heap.size [153] false w (w.setCell ⟨g, i * 6 + 1, none⟩ (.int .i64 t)) := Turn.put hw hg (by simp) _ _
  refine ⟨g, cs, hA, hw, hs, ⟨h.rc.turn k (by decide), k.whole h.head (.inr (by decide)), by rw [List.length_set]; exact ho, fun y hy => ?_, k.own h.ver (.inl (by decide)), h.hb⟩, k.wider (Nat.le_refl _) (by simp) id⟩
  obtain ⟨z, hz, e⟩ : ∃ z ∈ T, z.lab = y.lab := by
    rcases List.mem_or_eq_of_mem_set hy with hy | rfl
    · exact ⟨y, hy, rfl⟩
    · exact ⟨x, List.mem_of_getElem? hx, rfl⟩
  rw [← e]
  exact ⟨k.own (h.labs z hz).1 (.inl (by decide)), (h.labs z hz).2⟩
end
end Go.Proofs.YthncochjhbmceaaGreat
