/- head.Plan under way, as it lies. No program is walked here. -/
import Derived.Test.YthncochjhbmceaaGreatHedNew
import Derived.Test.YthncochjhbmceaaGreatPk7241a866
namespace Go.Proofs.YthncochjhbmceaaGreat
set_option maxRecDepth 100000
open Go.RowKit

/-- a list that another map's writing leaves -/
theorem IdxQ.store {S : Value → Prop} {w w' : World} {base p q : Nat} {E : List (List Lbl)} {mq : List (Value × Value)} (h : IdxQ w base p E q) (hm : MapV S w q mq) (hg : w.grownBy w' (some q)) : IdxQ w' base p E q := by
  obtain ⟨sv, L, bn, bl, mn, ml, oM, oI, h, e, hqn, hql, hqo⟩ := h
  have k : Turn 0 [] true w w' := Turn.of_map hm (Nat.zero_le _) hg
  have hb : IdxB w' base p sv L bn bl mn := ⟨k.whole h.b.blk (.inr (by simp)), h.b.pb, k.own h.b.sets (.inl (by simp)), fun s hs => k.own (h.b.lab s hs) (.inl (by simp)), h.b.num.kept (hg.block bn h.b.num.lt (by simpa using Ne.symm hqn)), h.b.nb, h.b.ne⟩
  have hl := h.lists
  refine ⟨sv, L, bn, bl, mn, ml, oM, oI, ⟨hb, h.val, h.dist, h.find, ⟨hl.map.kept (hg.block bl hl.map.lt (by simpa using Ne.symm hql)), hl.old, hl.miss, fun nm v hv => ?_, hl.all⟩, h.noM⟩, e, hqn, hql, hqo⟩
  obtain ⟨h1, bi, mi, h2, h3, h4, h5, h6, h7⟩ := hl.hit nm v hv
  exact ⟨h1, bi, mi, h2, h3, h4, h5, h6.kept (hg.block bi h6.lt fun e => by cases e; rw [hqo] at h5; cases h5), h7.turn k (by simp)⟩
open Classical in
/-- an index, and a map made behind it -/
theorem Idx.apart {w : World} {base p : Nat} {E : List (List Lbl)} (h : Idx w base p E) : IdxQ (w.alloc (.map #[] 0)) base p E w.heap.size := by
  obtain ⟨sv, L, bn, bl, mn, ml, oM, oI, h, e⟩ := h
  have hl := h.lists
  have hb1 := h.b.num.lt
  have hb2 := hl.map.lt
  have hq : IdxQ w base p E w.heap.size := ⟨sv, L, bn, bl, mn, ml, fun g => if g < w.heap.size then oM g else none, oI, ⟨h.b, h.val, h.dist, h.find, ⟨hl.map, hl.old, hl.miss, fun nm v hv => by
    obtain ⟨h1, bi, mi, h2, h3, h4, h5, h6, h7⟩ := hl.hit nm v hv
    exact ⟨h1, bi, mi, h2, h3, h4, by rw [if_pos h6.lt]; exact h5, h6, h7⟩, hl.all⟩, by rw [if_pos hb1]; exact h.noM⟩, e, by omega, by omega, if_neg (Nat.lt_irrefl _)⟩
  exact hq.below ((Below.refl _ _).alloc (Nat.le_refl _) _)
/-- the greatest times as the map last holds them -/
def LastR (m : List (Value × Value)) (ne : Nat) (mx : List Int) (T : List (List Lbl × Int)) : Prop :=
  ∀ n, n < T.length → atV m (.int .i64 (n : Nat)) = some (.int .i64 (lastT T n)) ∨ (atV m (.int .i64 (n : Nat)) = none ∧ n < ne ∧ mx[n]? = some (lastT T n))
/-- new series so far -/
structure NewsO (w : World) (base k0 : Nat) (v : Value) (N : List (List Lbl)) (L : List NewQ) : Prop where
  row : w.ownsRow base 113 2 v L.length (L.flatMap NewQ.cells)
  sets : L.map (fun x => x.lab.l) = N
  refs : ∀ (i : Nat) (x : NewQ), L[i]? = some x → x.ref = ((k0 + i : Nat) : Int)
  labs : ∀ x ∈ L, w.ownsRow base 70 2 x.lab.val x.lab.n (x.lab.l.flatMap Lbl.cells) ∧ x.lab.l.length = x.lab.n
theorem gbB {a w w' : World} {row : Option Nat} (h : a.grownBy w row) (k : Below a.heap.size w w') : a.grownBy w' row := ⟨k.os.trans h.os, k.tape.trans h.tape, k.output.trans h.output, Nat.le_trans h.size k.size, fun i hi hn => (k.block i hi).trans (h.block i hi hn)⟩
/-- a plan under way: w0 the world that it began in, wx the world behind a nil head's New; F what is fresh, N the new ones, P the points, V the verdicts, m the map last -/
structure PlanG (w0 wx w : World) (R p q ne : Nat) (vv nv pv : Value) (F N : List (List Lbl)) (L : List NewQ) (P : List PntR) (V : List Int) (m : List (Value × Value)) : Prop where
  rec_ : Whole1 w R 31 #[nv, pv, .slice none 0 0]
  news : NewsO w wx.heap.size ne nv N L
  pts : w.ownsRow wx.heap.size 115 3 pv P.length (P.flatMap PntR.cells)
  ver : w.ownsRow wx.heap.size 41 1 vv V.length (V.map (Value.int .i64))
  fresh : IdxQ w wx.heap.size p F q
  last : MapV (IsInt .i64) w q m
  below : Below w0.heap.size w0 w
  rb : w0.heap.size ≤ R
  far : wx.grownBy w (some R)
  hx : w0.heap.size ≤ wx.heap.size
section
variable {w0 wx w w' : World} {R p q ne : Nat} {vv nv pv : Value} {F N : List (List Lbl)} {L : List NewQ} {P : List PntR} {V : List Int} {m : List (Value × Value)} {ts : List TypeId}
theorem NewsO.turn {base k0 : Nat} {v : Value} {b : Nat} {mp : Bool} (h : NewsO w base k0 v N L) (k : Turn b ts mp w w') (h1 : 113 ∉ ts) (h2 : 70 ∉ ts) : NewsO w' base k0 v N L :=
  ⟨k.own h.row (.inl h1), h.sets, h.refs, fun x hx => ⟨k.own (h.labs x hx).1 (.inl h2), (h.labs x hx).2⟩⟩
theorem PlanG.on (h : PlanG w0 wx w R p q ne vv nv pv F N L P V m) (hb : Below w.heap.size w w') : PlanG w0 wx w' R p q ne vv nv pv F N L P V m := by
  have k := Turn.of_below hb w.heap.size [] false
  exact ⟨h.rec_.below hb h.rec_.lt, h.news.turn k (by simp) (by simp), own_below h.pts hb (Nat.le_refl _), own_below h.ver hb (Nat.le_refl _), h.fresh.below hb, h.last.kept (hb.block q h.last.lt), h.below.trans (hb.mono h.below.size), h.rb, gb_far h.far (gb_below hb none) (fun j e => by cases e), h.hx⟩
/-- a verdict more -/
theorem PlanG.verdict {v' : Value} {x : Int} (h : PlanG w0 wx w R p q ne vv nv pv F N L P V m) (hown : w'.ownsRow wx.heap.size 41 1 v' (V.length + 1) (V.map (Value.int .i64) ++ [.int .i64 x])) (hg : w.grownBy w' vv.ownBlock) : PlanG w0 wx w' R p q ne v' nv pv F N L P (V ++ [x]) m := by
  have k : Turn wx.heap.size [41] false w w' := Turn.of_own h.ver (Nat.le_refl _) (by simp) hg
  exact ⟨k.whole h.rec_ (.inr (by decide)), h.news.turn k (by decide) (by decide), k.own h.pts (.inl (by decide)), by simpa using hown, h.fresh.turn k (by decide) (by decide) (by decide) (by decide), k.mapV h.last (.inr rfl), h.below.trans (k.below h.hx h.below.size), h.rb, gb_far h.far hg (fun j e => (h.ver.lt j e).1), h.hx⟩
/-- the fresh index got a set -/
theorem PlanG.added {F' : List (List Lbl)} (h : PlanG w0 wx w R p q ne vv nv pv F N L P V m) (hf : IdxQ w' wx.heap.size p F' q) (k : TurnQ (IsInt .i64) q m wx.heap.size w w') : PlanG w0 wx w' R p q ne vv nv pv F' N L P V m :=
  ⟨k.t.whole h.rec_ (.inr (by decide)), h.news.turn k.t (by decide) (by decide), k.t.own h.pts (.inl (by decide)), k.t.own h.ver (.inl (by decide)), hf, k.m, h.below.trans (k.t.below h.hx h.below.size), h.rb, gbB h.far (k.t.below (Nat.le_refl _) h.far.size), h.hx⟩
/-- the map was written -/
theorem PlanG.put {m' : List (Value × Value)} (h : PlanG w0 wx w R p q ne vv nv pv F N L P V m) (hq : wx.heap.size ≤ q) (hm : MapV (IsInt .i64) w' q m') (hg : w.grownBy w' (some q)) : PlanG w0 wx w' R p q ne vv nv pv F N L P V m' := by
  have k : Turn wx.heap.size [] true w w' := Turn.of_map h.last hq hg
  exact ⟨k.whole h.rec_ (.inr (by simp)), h.news.turn k (by simp) (by simp), k.own h.pts (.inl (by simp)), k.own h.ver (.inl (by simp)), h.fresh.store h.last hg, hm, h.below.trans (k.below h.hx h.below.size), h.rb, gb_far h.far hg (fun j e => by cases e; exact hq), h.hx⟩
/-- a new series more, laid into the record -/
theorem PlanG.newS {v' : Value} {x : NewQ} (h : PlanG w0 wx w R p q ne vv nv pv F N L P V m) (hx : x.ref = ((ne + L.length : Nat) : Int)) (hlab : w.ownsRow wx.heap.size 70 2 x.lab.val x.lab.n (x.lab.l.flatMap Lbl.cells)) (hll : x.lab.l.length = x.lab.n) (hown : w'.ownsRow wx.heap.size 113 2 v' (L.length + 1) (L.flatMap NewQ.cells ++ x.cells)) (hg : w.grownBy w' nv.ownBlock) :
    Whole1 w' R 31 #[nv, pv, .slice none 0 0] ∧ PlanG w0 wx (w'.setCell ⟨R, 0, none⟩ v') R p q ne vv v' pv F (N ++ [x.lab.l]) (L ++ [x]) P V m := by
  have k : Turn wx.heap.size [113] false w w' := Turn.of_own h.news.row (Nat.le_refl _) (by simp) hg
  have hr := k.whole h.rec_ (.inr (by decide))
  have k2 : Turn w0.heap.size [31] false w' (w'.setCell ⟨R, 0, none⟩ v') := Turn.put hr h.rb (by simp) 0 v'
  refine ⟨hr, hr.put 0 v', ⟨?_, by rw [List.map_append, h.news.sets]; rfl, fun i y hy => ?_, fun y hy => ?_⟩, k2.own (k.own h.pts (.inl (by decide))) (.inl (by decide)), k2.own (k.own h.ver (.inl (by decide))) (.inl (by decide)), (h.fresh.turn k (by decide) (by decide) (by decide) (by decide)).turn k2 (by decide) (by decide) (by decide) (by decide), k2.mapV (k.mapV h.last (.inr rfl)) (.inr rfl), (h.below.trans (k.below h.hx h.below.size)).trans (k2.below (Nat.le_refl _) (Nat.le_trans h.below.size k.size)), h.rb, gb_put (gb_far h.far hg (fun j e => (h.news.row.lt j e).1)) 0 v', h.hx⟩
  · have := k2.own hown (.inl (by decide))
    simpa using this
  · rcases Nat.lt_or_ge i L.length with hi | hi
    · rw [List.getElem?_append_left hi] at hy
      exact h.news.refs i y hy
    · rw [List.getElem?_append_right hi] at hy
      obtain ⟨h0, e⟩ := List.getElem?_eq_some_iff.1 hy
      have hi2 : i = L.length := by simp at h0; omega
      subst hi2
      simp only [Nat.sub_self, List.getElem_cons_zero] at e
      rw [← e]; exact hx
  · rcases List.mem_append.1 hy with hy | hy
    · exact ⟨k2.own (k.own (h.news.labs y hy).1 (.inl (by decide))) (.inl (by decide)), (h.news.labs y hy).2⟩
    · rw [List.mem_singleton.1 hy]
      exact ⟨k2.own (k.own hlab (.inl (by decide))) (.inl (by decide)), hll⟩
/-- a point more, laid into the record -/
theorem PlanG.point {v' : Value} {x : PntR} (h : PlanG w0 wx w R p q ne vv nv pv F N L P V m) (hown : w'.ownsRow wx.heap.size 115 3 v' (P.length + 1) (P.flatMap PntR.cells ++ x.cells)) (hg : w.grownBy w' pv.ownBlock) :
    Whole1 w' R 31 #[nv, pv, .slice none 0 0] ∧ PlanG w0 wx (w'.setCell ⟨R, 1, none⟩ v') R p q ne vv nv v' F N L (P ++ [x]) V m := by
  have k : Turn wx.heap.size [115] false w w' := Turn.of_own h.pts (Nat.le_refl _) (by simp) hg
  have hr := k.whole h.rec_ (.inr (by decide))
  have k2 : Turn w0.heap.size [31] false w' (w'.setCell ⟨R, 1, none⟩ v') := Turn.put hr h.rb (by simp) 1 v'
  refine ⟨hr, hr.put 1 v', (h.news.turn k (by decide) (by decide)).turn k2 (by decide) (by decide), ?_, k2.own (k.own h.ver (.inl (by decide))) (.inl (by decide)), (h.fresh.turn k (by decide) (by decide) (by decide) (by decide)).turn k2 (by decide) (by decide) (by decide) (by decide), k2.mapV (k.mapV h.last (.inr rfl)) (.inr rfl), (h.below.trans (k.below h.hx h.below.size)).trans (k2.below (Nat.le_refl _) (Nat.le_trans h.below.size k.size)), h.rb, gb_put (gb_far h.far hg (fun j e => (h.pts.lt j e).1)) 1 v', h.hx⟩
  have := k2.own hown (.inl (by decide))
  simpa using this
end
/-! the map last -/
theorem LastR.put_old {m : List (Value × Value)} {ne n : Nat} {mx : List Int} {T : List (List Lbl × Int)} {l : List Lbl} {t : Int} (h : LastR m ne mx T) (hn : n < T.length) : LastR (putV m (.int .i64 (n : Nat)) (.int .i64 t)) ne mx (T.set n (l, t)) := fun k hk => by
  rw [List.length_set] at hk
  by_cases e : k = n
  · subst e
    refine .inl ?_
    rw [atV_put_same, lastT_at (p := (l, t)) (by rw [List.getElem?_set_self hn])]
  · have e2 : lastT (T.set n (l, t)) k = lastT T k := by
      unfold lastT
      rw [List.getD_eq_getElem?_getD, List.getD_eq_getElem?_getD, List.map_set, List.getElem?_set_ne (Ne.symm e)]
    rw [e2, atV_put_other _ _ _ (by simp only [ne_eq, Value.int.injEq, true_and]; omega)]
    exact h k hk
theorem LastR.put_same {m : List (Value × Value)} {ne n : Nat} {mx : List Int} {T : List (List Lbl × Int)} (h : LastR m ne mx T) (hn : n < T.length) : LastR (putV m (.int .i64 (n : Nat)) (.int .i64 (lastT T n))) ne mx T := fun k hk => by
  by_cases e : k = n
  · subst e
    exact .inl (atV_put_same _ _ _)
  · rw [atV_put_other _ _ _ (by simp only [ne_eq, Value.int.injEq, true_and]; omega)]
    exact h k hk
theorem LastR.put_new {m : List (Value × Value)} {ne : Nat} {mx : List Int} {T : List (List Lbl × Int)} {l : List Lbl} {t : Int} (h : LastR m ne mx T) : LastR (putV m (.int .i64 (T.length : Nat)) (.int .i64 t)) ne mx (T ++ [(l, t)]) := fun k hk => by
  rw [List.length_append, List.length_singleton] at hk
  by_cases e : k = T.length
  · subst e
    refine .inl ?_
    rw [atV_put_same, lastT_at (p := (l, t)) (by simp)]
  · have e2 : lastT (T ++ [(l, t)]) k = lastT T k := by
      unfold lastT
      rw [List.getD_eq_getElem?_getD, List.getD_eq_getElem?_getD, List.map_append, List.getElem?_append_left (by simp; omega)]
    rw [e2, atV_put_other _ _ _ (by simp only [ne_eq, Value.int.injEq, true_and]; omega)]
    exact h k (by omega)
theorem infoNew : (Tryz.prog.info? 113).map (fun i => (i.zero, i.size, i.bytes)) = some (some (.agg #[.int .i64 0, .slice none 0 0]), 2, 32) := by kernel_rfl
theorem infoErr : (Tryz.prog.info? 41).map (fun i => (i.zero, i.size, i.bytes)) = some (some (.int .i64 0), 1, 8) := by kernel_rfl
/-- the sets of a head, each with its greatest time -/
def T0 (E : List (List Lbl)) (X : List HsR) : List (List Lbl × Int) := E.zip (X.map HsR.mx)
theorem entP_snoc {xs : List EntR} {k : Nat} {x : EntR} (h : xs[k]? = some x) (T : List (List Lbl × Int)) : planB T ((xs.take (k + 1)).map EntR.p) = planStep (planB T ((xs.take k).map EntR.p)) x.p := by
  rw [take_snoc? h, List.map_append, List.map_singleton, planB_snoc]
theorem planB_lens (T : List (List Lbl × Int)) (xs : List EntP) : (planB T xs).V.length = xs.length ∧ (planB T xs).P.length ≤ xs.length ∧ (planB T xs).N.length ≤ xs.length ∧ (planB T xs).T.length = T.length + (planB T xs).N.length := by
  generalize hk : xs.length = k
  induction k generalizing xs with
  | zero =>
    obtain rfl := List.eq_nil_of_length_eq_zero hk
    exact ⟨rfl, Nat.le_refl _, Nat.le_refl _, rfl⟩
  | succ k ih =>
    obtain ⟨ys, y, rfl⟩ : ∃ ys y, xs = ys ++ [y] := ⟨_, _, (List.dropLast_concat_getLast (fun e => by rw [e] at hk; cases hk)).symm⟩
    rw [List.length_append, List.length_singleton] at hk
    obtain ⟨h1, h2, h3, h4⟩ := ih ys (by omega)
    rw [planB_snoc]
    generalize planB T ys = s at h1 h2 h3 h4
    unfold planStep
    split
    · simp only [List.length_append, List.length_singleton]; omega
    · split
      · simp only [List.length_append, List.length_singleton]; omega
      · split
        · simp only [List.length_append, List.length_singleton]; omega
        · simp only [List.length_append, List.length_singleton, List.length_set]; omega
/-- an entry's set is put among those of the trial -/
def MidS (s : PlanS) (l : List Lbl) (nn : Nat) (T' : List (List Lbl × Int)) (N' : List (List Lbl)) : Prop :=
  (atE (s.T.map (·.1)) l = some nn ∧ T' = s.T ∧ N' = s.N) ∨ (atE (s.T.map (·.1)) l = none ∧ nn = s.T.length ∧ T' = s.T ++ [(l, -1)] ∧ N' = s.N ++ [l])
theorem planStep_old {s : PlanS} {x : EntP} {nn : Nat} {T' : List (List Lbl × Int)} {N' : List (List Lbl)} (h0 : entE x = 0) (h : MidS s x.l nn T' N') (hle : x.t ≤ lastT T' nn) : planStep s x = ⟨T', N', s.P, s.V ++ [270]⟩ := by
  unfold planStep
  rw [if_neg (by simp [h0])]
  rcases h with ⟨h1, rfl, rfl⟩ | ⟨h1, rfl, rfl, rfl⟩
  · rw [h1]
    exact if_pos hle
  · rw [lastT_at (p := (x.l, -1)) (by simp)] at hle
    exact absurd (entE_zero h0).2.1 (by simp only at hle; omega)
theorem planStep_new {s : PlanS} {x : EntP} {nn : Nat} {T' : List (List Lbl × Int)} {N' : List (List Lbl)} (h0 : entE x = 0) (h : MidS s x.l nn T' N') (hle : ¬ x.t ≤ lastT T' nn) : planStep s x = ⟨T'.set nn (x.l, x.t), N', s.P ++ [⟨(nn : Nat), x.t, x.v⟩], s.V ++ [0]⟩ := by
  unfold planStep
  rw [if_neg (by simp [h0])]
  rcases h with ⟨h1, rfl, rfl⟩ | ⟨h1, rfl, rfl, rfl⟩
  · rw [h1]
    exact if_neg hle
  · rw [h1]
    simp
theorem MidS.lt {s : PlanS} {l : List Lbl} {nn : Nat} {T' : List (List Lbl × Int)} {N' : List (List Lbl)} (h : MidS s l nn T' N') : nn < T'.length := by
  rcases h with ⟨h1, rfl, rfl⟩ | ⟨h1, rfl, rfl, rfl⟩
  · have := (List.getElem?_eq_some_iff.1 (atE_some h1)).1
    simpa using this
  · simp
theorem infoPnt : (Tryz.prog.info? 115).map (fun i => (i.zero, i.size, i.bytes)) = some (some (.agg #[.int .i64 0, .int .i64 0, .int .u64 0]), 3, 24) := by kernel_rfl
theorem atE_app (E F : List (List Lbl)) (l : List Lbl) : atE (E ++ F) l = (atE E l).or ((atE F l).map fun i => E.length + i) := by
  unfold atE
  rw [List.findIdx?_append]
  generalize E.findIdx? _ = a
  cases a <;> simp [Nat.add_comm]
theorem planB_sets (T : List (List Lbl × Int)) (xs : List EntP) : (planB T xs).T.map (·.1) = T.map (·.1) ++ (planB T xs).N := by
  generalize hk : xs.length = k
  induction k generalizing xs with
  | zero =>
    obtain rfl := List.eq_nil_of_length_eq_zero hk
    simp [planB]
  | succ k ih =>
    obtain ⟨ys, y, rfl⟩ : ∃ ys y, xs = ys ++ [y] := ⟨_, _, (List.dropLast_concat_getLast (fun e => by rw [e] at hk; cases hk)).symm⟩
    rw [List.length_append, List.length_singleton] at hk
    have h1 := ih ys (by omega)
    rw [planB_snoc]
    generalize planB T ys = s at h1
    unfold planStep
    split
    · exact h1
    · split
      · show (s.T ++ _).map _ = _
        rw [List.map_append, h1, List.append_assoc]; rfl
      · rename_i n hn
        split
        · exact h1
        · show (s.T.set n _).map _ = _
          rw [set_fst (atE_some hn), h1]
theorem zero_l (w : World) : (zeroValue 2).run Tryz.prog w = .ok (.int .i64 0) w := by
  have h : (Tryz.prog.info? 2).map (fun i => i.zero) = some (some (.int .i64 0)) := by kernel_rfl
  obtain ⟨i, h1, h2⟩ := Option.map_eq_some_iff.1 h
  simp [zeroValue, typeInfo, h1, h2]
theorem keyInt : KeyEq Tryz.prog 3 (fun _ => IsInt .i64) := keyEq_int Tryz.underlying3
theorem last_look {w : World} {q : Nat} {m : List (Value × Value)} (h : MapV (IsInt .i64) w q m) (j : Int) (c : Bool) : (Instr.lookup 100 (.map (some q)) (.int .i64 j) c).run Tryz.prog w = .ok (if c then .tuple #[(atV m (.int .i64 j)).getD (.int .i64 0), .bool (atV m (.int .i64 j)).isSome] else (atV m (.int .i64 j)).getD (.int .i64 0)) w :=
  h.look keyInt h.2 Tryz.underlying100 (zero_l w) ⟨_, rfl⟩ c
theorem last_store {w : World} {q : Nat} {m : List (Value × Value)} (h : MapV (IsInt .i64) w q m) (j : Int) (v : Value) : ∃ w', (Instr.mapUpdate 100 (.map (some q)) (.int .i64 j) v).run Tryz.prog w = .ok () w' ∧ MapV (IsInt .i64) w' q (putV m (.int .i64 j) v) ∧ w.grownBy w' (some q) ∧ w'.heap.size = w.heap.size :=
  h.store keyInt h.2 Tryz.underlying100 ⟨_, rfl⟩ ⟨_, rfl⟩ v
theorem planStep_bad {s : PlanS} {x : EntP} (h : entE x ≠ 0) : planStep s x = ⟨s.T, s.N, s.P, s.V ++ [entE x]⟩ := if_pos h
theorem mkLast (w : World) : (Instr.makeMap 100 none).run Tryz.prog w = .ok (.map (some w.heap.size)) (w.alloc (.map #[] 0)) := by simp [Instr.makeMap, Result.andThen]
/-- what Plan answers -/
def PlanAns (w : World) (ne : Nat) (s : PlanS) (e : Ending) (w' : World) : Prop :=
  ∃ nv pv vv L, e = .returned (.tuple #[.agg #[nv, pv, .slice none 0 0], vv]) ∧ NewsO w' w.heap.size ne nv s.N L ∧ w'.ownsRow w.heap.size 115 3 pv s.P.length (s.P.flatMap PntR.cells) ∧ w'.ownsRow w.heap.size 41 1 vv s.V.length (s.V.map (Value.int .i64)) ∧ Below w.heap.size w w'
theorem lastR_start {E : List (List Lbl)} {X : List HsR} (hl : X.length = E.length) : LastR [] E.length (X.map HsR.mx) (T0 E X) := fun n hn => by
  have h2 : (T0 E X).map (·.2) = X.map HsR.mx := by unfold T0; exact List.map_snd_zip (by rw [List.length_map, hl]; exact Nat.le_refl _)
  have hn1 : n < E.length := by unfold T0 at hn; rw [List.length_zip] at hn; omega
  refine .inr ⟨rfl, hn1, ?_⟩
  unfold lastT
  rw [h2, List.getD_eq_getElem?_getD, List.getElem?_eq_getElem (by rw [List.length_map]; omega)]
  rfl
end Go.Proofs.YthncochjhbmceaaGreat
