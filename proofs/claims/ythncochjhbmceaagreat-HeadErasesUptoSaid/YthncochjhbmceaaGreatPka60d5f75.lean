/- head.Plan under way, as it lies. No program is walked here. head.fits, walked. Condition: the head is one, the record is within the bulk. -/
import Derived.Test.YthncochjhbmceaaGreatPkf9befb46
import Derived.Test.YthncochjhbmceaaGreatPk95d54107
import Derived.Test.YthncochjhbmceaaGreatPk7815fe5e
import Derived.Test.YthncochjhbmceaaGreatPk1dcfe404
import Derived.BigQuiet
namespace Go.Proofs.YthncochjhbmceaaGreat
set_option maxRecDepth 100000
open Go.RowKit

/-- a list that another map's writing leaves -/
theorem IdxQ.store {S : Value → Prop} {w w' : World} {base p q : Nat} {E : List (List Lbl)} {mq : List (Value × Value)} (h : IdxQ w base p E q) (hm : MapV S w q mq) (hg : w.grownBy w' (some q)) : IdxQ w' base p E q := by
  obtain ⟨sv, L, bn, bl, mn, ml, oM, oI, h, e, hqn, hql, hqo⟩ := h
  have k : Turn 0 [] true w w' := Turn.of_map hm (Nat.zero_le _) hg
  have hb : IdxB w' base p sv L bn bl mn := ⟨k.whole h.b.blk (.inr (by simp)), h.b.pb, k.own h.b.sets (.inl (by simp)), fun s hs => k.own (h.b.lab s hs) (.inl (by simp)), h.b.num.kept (hg.block bn h.b.num.lt (by simpa using Ne.symm hqn)), h.b.nb, h.b.ne⟩
  have hl := h.lists
  refine ⟨sv, L, bn, bl, mn, ml, oM, oI, ⟨hb, h.val, h.dist, h.find, ⟨hl.map.kept (hg.block bl hl.map.lt (by simpa using Ne.symm hql)), hl.old, hl.miss, fun nm v hv => ?_, hl.all⟩, h.noM⟩, e, hqn, hql, hqo⟩
  obtain ⟨h1, bi, mi, h2, h3, h4, h5, h6, h7⟩ := hl.hit nm v hv
  exact ⟨h1, bi, mi, h2, h3, h4, h5, h6.kept (hg.block bi h6.lt fun e => by cases e; rw [hqo] at h5; cases h5), h7.turn k (by simp)⟩
open Classical in
/-- an index, and a map made behind it -/
theorem Idx.apart {w : World} {base p : Nat} {E : List (List Lbl)} (h : Idx w base p E) : IdxQ (w.alloc (.map #[] 0)) base p E w.heap.size := by
  obtain ⟨sv, L, bn, bl, mn, ml, oM, oI, h, e⟩ := h
  have hl := h.lists
  have hb1 := h.b.num.lt
  have hb2 := hl.map.lt
  have hq : IdxQ w base p E w.heap.size := ⟨sv, L, bn, bl, mn, ml, fun g => if g < w.heap.size then oM g else none, oI, ⟨h.b, h.val, h.dist, h.find, ⟨hl.map, hl.old, hl.miss, fun nm v hv => by
    obtain ⟨h1, bi, mi, h2, h3, h4, h5, h6, h7⟩ := hl.hit nm v hv
    exact ⟨h1, bi, mi, h2, h3, h4, by rw [if_pos h6.lt]; exact h5, h6, h7⟩, hl.all⟩, by rw [if_pos hb1]; exact h.noM⟩, e, by omega, by omega, if_neg (Nat.lt_irrefl _)⟩
  exact hq.below ((Below.refl _ _).alloc (Nat.le_refl _) _)
/-- the greatest times as the map last holds them -/
def LastR (m : List (Value × Value)) (ne : Nat) (mx : List Int) (T : List (List Lbl × Int)) : Prop :=
  ∀ n, n < T.length → atV m (.int .i64 (n : Nat)) = some (.int .i64 (lastT T n)) ∨ (atV m (.int .i64 (n : Nat)) = none ∧ n < ne ∧ mx[n]? = some (lastT T n))
/-- new series so far -/
structure NewsO (w : World) (base k0 : Nat) (v : Value) (N : List (List Lbl)) (L : List NewQ) : Prop where
  row : w.ownsRow base 113 2 v L.length (L.flatMap NewQ.cells)
  sets : L.map (fun x => x.lab.l) = N
  refs : ∀ (i : Nat) (x : NewQ), L[i]? = some x → x.ref = ((k0 + i : Nat) : Int)
  labs : ∀ x ∈ L, w.ownsRow base 70 2 x.lab.val x.lab.n (x.lab.l.flatMap Lbl.cells) ∧ x.lab.l.length = x.lab.n
/-- a plan under way: w0 the world that it began in; F what is fresh, N the new ones, P the points, V the verdicts, m the map last -/
structure PlanG (w0 w : World) (R p q ne : Nat) (vv nv pv : Value) (F N : List (List Lbl)) (L : List NewQ) (P : List PntR) (V : List Int) (m : List (Value × Value)) : Prop where
  rec_ : Whole1 w R 31 #[nv, pv, .slice none 0 0]
  news : NewsO w w0.heap.size ne nv N L
  pts : w.ownsRow w0.heap.size 115 3 pv P.length (P.flatMap PntR.cells)
  ver : w.ownsRow w0.heap.size 41 1 vv V.length (V.map (Value.int .i64))
  fresh : IdxQ w w0.heap.size p F q
  last : MapV (IsInt .i64) w q m
  below : Below w0.heap.size w0 w
  rb : w0.heap.size ≤ R
section
variable {w0 w w' : World} {R p q ne : Nat} {vv nv pv : Value} {F N : List (List Lbl)} {L : List NewQ} {P : List PntR} {V : List Int} {m : List (Value × Value)} {ts : List TypeId}
theorem NewsO.turn {base k0 : Nat} {v : Value} {b : Nat} {mp : Bool} (h : NewsO w base k0 v N L) (k : Turn b ts mp w w') (h1 : 113 ∉ ts) (h2 : 70 ∉ ts) : NewsO w' base k0 v N L :=
  ⟨k.own h.row (.inl h1), h.sets, h.refs, fun x hx => ⟨k.own (h.labs x hx).1 (.inl h2), (h.labs x hx).2⟩⟩
theorem PlanG.on (h : PlanG w0 w R p q ne vv nv pv F N L P V m) (hb : Below w.heap.size w w') : PlanG w0 w' R p q ne vv nv pv F N L P V m := by
  have k := Turn.of_below hb w.heap.size [] false
  exact ⟨h.rec_.below hb h.rec_.lt, h.news.turn k (by simp) (by simp), own_below h.pts hb (Nat.le_refl _), own_below h.ver hb (Nat.le_refl _), h.fresh.below hb, h.last.kept (hb.block q h.last.lt), h.below.trans (hb.mono h.below.size), h.rb⟩
/-- a verdict more -/
theorem PlanG.verdict {v' : Value} {x : Int} (h : PlanG w0 w R p q ne vv nv pv F N L P V m) (hown : w'.ownsRow w0.heap.size 41 1 v' (V.length + 1) (V.map (Value.int .i64) ++ [.int .i64 x])) (hg : w.grownBy w' vv.ownBlock) : PlanG w0 w' R p q ne v' nv pv F N L P (V ++ [x]) m := by
  have k : Turn w0.heap.size [41] false w w' := Turn.of_own h.ver (Nat.le_refl _) (by simp) hg
  exact ⟨k.whole h.rec_ (.inr (by decide)), h.news.turn k (by decide) (by decide), k.own h.pts (.inl (by decide)), by simpa using hown, h.fresh.turn k (by decide) (by decide) (by decide) (by decide), k.mapV h.last (.inr rfl), h.below.trans (k.below (Nat.le_refl _) h.below.size), h.rb⟩
/-- the fresh index got a set -/
theorem PlanG.added {F' : List (List Lbl)} (h : PlanG w0 w R p q ne vv nv pv F N L P V m) (hf : IdxQ w' w0.heap.size p F' q) (k : TurnQ (IsInt .i64) q m w0.heap.size w w') : PlanG w0 w' R p q ne vv nv pv F' N L P V m :=
  ⟨k.t.whole h.rec_ (.inr (by decide)), h.news.turn k.t (by decide) (by decide), k.t.own h.pts (.inl (by decide)), k.t.own h.ver (.inl (by decide)), hf, k.m, h.below.trans (k.t.below (Nat.le_refl _) h.below.size), h.rb⟩
/-- the map was written -/
theorem PlanG.put {m' : List (Value × Value)} (h : PlanG w0 w R p q ne vv nv pv F N L P V m) (hq : w0.heap.size ≤ q) (hm : MapV (IsInt .i64) w' q m') (hg : w.grownBy w' (some q)) : PlanG w0 w' R p q ne vv nv pv F N L P V m' := by
  have k : Turn w0.heap.size [] true w w' := Turn.of_map h.last hq hg
  exact ⟨k.whole h.rec_ (.inr (by simp)), h.news.turn k (by simp) (by simp), k.own h.pts (.inl (by simp)), k.own h.ver (.inl (by simp)), h.fresh.store h.last hg, hm, h.below.trans (k.below (Nat.le_refl _) h.below.size), h.rb⟩
/-- a new series more, laid into the record -/
theorem PlanG.newS {v' : Value} {x : NewQ} (h : PlanG w0 w R p q ne vv nv pv F N L P V m) (hx : x.ref = ((ne + L.length : Nat) : Int)) (hlab : w.ownsRow w0.heap.size 70 2 x.lab.val x.lab.n (x.lab.l.flatMap Lbl.cells)) (hll : x.lab.l.length = x.lab.n) (hown : w'.ownsRow w0.heap.size 113 2 v' (L.length + 1) (L.flatMap NewQ.cells ++ x.cells)) (hg : w.grownBy w' nv.ownBlock) :
    Whole1 w' R 31 #[nv, pv, .slice none 0 0] ∧ PlanG w0 (w'.setCell ⟨R, 0, none⟩ v') R p q ne vv v' pv F (N ++ [x.lab.l]) (L ++ [x]) P V m := by
  have k : Turn w0.heap.size [113] false w w' := Turn.of_own h.news.row (Nat.le_refl _) (by simp) hg
  have hr := k.whole h.rec_ (.inr (by decide))
  have k2 : Turn w0.heap.size [31] false w' (w'.setCell ⟨R, 0, none⟩ v') := Turn.put hr h.rb (by simp) 0 v'
  refine ⟨hr, hr.put 0 v', ⟨?_, by rw [List.map_append, h.news.sets]; rfl, fun i y hy => ?_, fun y hy => ?_⟩, k2.own (k.own h.pts (.inl (by decide))) (.inl (by decide)), k2.own (k.own h.ver (.inl (by decide))) (.inl (by decide)), (h.fresh.turn k (by decide) (by decide) (by decide) (by decide)).turn k2 (by decide) (by decide) (by decide) (by decide), k2.mapV (k.mapV h.last (.inr rfl)) (.inr rfl), (h.below.trans (k.below (Nat.le_refl _) h.below.size)).trans (k2.below (Nat.le_refl _) (Nat.le_trans h.below.size k.size)), h.rb⟩
  · have := k2.own hown (.inl (by decide))
    simpa using this
  · rcases Nat.lt_or_ge i L.length with hi | hi
    · rw [List.getElem?_append_left hi] at hy
      exact h.news.refs i y hy
    · rw [List.getElem?_append_right hi] at hy
      obtain ⟨h0, e⟩ := List.getElem?_eq_some_iff.1 hy
      have hi2 : i = L.length := by simp at h0; omega
      subst hi2
      simp only [Nat.sub_self, List.getElem_cons_zero] at e
      rw [← e]; exact hx
  · rcases List.mem_append.1 hy with hy | hy
    · exact ⟨k2.own (k.own (h.news.labs y hy).1 (.inl (by decide))) (.inl (by decide)), (h.news.labs y hy).2⟩
    · rw [List.mem_singleton.1 hy]
      exact ⟨k2.own (k.own hlab (.inl (by decide))) (.inl (by decide)), hll⟩
/-- a point more, laid into the record -/
theorem PlanG.point {v' : Value} {x : PntR} (h : PlanG w0 w R p q ne vv nv pv F N L P V m) (hown : w'.ownsRow w0.heap.size 115 3 v' (P.length + 1) (P.flatMap PntR.cells ++ x.cells)) (hg : w.grownBy w' pv.ownBlock) :
    Whole1 w' R 31 #[nv, pv, .slice none 0 0] ∧ PlanG w0 (w'.setCell ⟨R, 1, none⟩ v') R p q ne vv nv v' F N L (P ++ [x]) V m := by
  have k : Turn w0.heap.size [115] false w w' := Turn.of_own h.pts (Nat.le_refl _) (by simp) hg
  have hr := k.whole h.rec_ (.inr (by decide))
  have k2 : Turn w0.heap.size [31] false w' (w'.setCell ⟨R, 1, none⟩ v') := Turn.put hr h.rb (by simp) 1 v'
  refine ⟨hr, hr.put 1 v', (h.news.turn k (by decide) (by decide)).turn k2 (by decide) (by decide), ?_, k2.own (k.own h.ver (.inl (by decide))) (.inl (by decide)), (h.fresh.turn k (by decide) (by decide) (by decide) (by decide)).turn k2 (by decide) (by decide) (by decide) (by decide), k2.mapV (k.mapV h.last (.inr rfl)) (.inr rfl), (h.below.trans (k.below (Nat.le_refl _) h.below.size)).trans (k2.below (Nat.le_refl _) (Nat.le_trans h.below.size k.size)), h.rb⟩
  have := k2.own hown (.inl (by decide))
  simpa using this
end
/-! the map last -/
theorem LastR.put_old {m : List (Value × Value)} {ne n : Nat} {mx : List Int} {T : List (List Lbl × Int)} {l : List Lbl} {t : Int} (h : LastR m ne mx T) (hn : n < T.length) : LastR (putV m (.int .i64 (n : Nat)) (.int .i64 t)) ne mx (T.set n (l, t)) := fun k hk => by
  rw [List.length_set] at hk
  by_cases e : k = n
  · subst e
    refine .inl ?_
    rw [atV_put_same, lastT_at (p := (l, t)) (by rw [List.getElem?_set_self hn])]
  · have e2 : lastT (T.set n (l, t)) k = lastT T k := by
      unfold lastT
      rw [List.getD_eq_getElem?_getD, List.getD_eq_getElem?_getD, List.map_set, List.getElem?_set_ne (Ne.symm e)]
    rw [e2, atV_put_other _ _ _ (by simp only [ne_eq, Value.int.injEq, true_and]; omega)]
    exact h k hk
theorem LastR.put_same {m : List (Value × Value)} {ne n : Nat} {mx : List Int} {T : List (List Lbl × Int)} (h : LastR m ne mx T) (hn : n < T.length) : LastR (putV m (.int .i64 (n : Nat)) (.int .i64 (lastT T n))) ne mx T := fun k hk => by
  by_cases e : k = n
  · subst e
    exact .inl (atV_put_same _ _ _)
  · rw [atV_put_other _ _ _ (by simp only [ne_eq, Value.int.injEq, true_and]; omega)]
    exact h k hk
theorem LastR.put_new {m : List (Value × Value)} {ne : Nat} {mx : List Int} {T : List (List Lbl × Int)} {l : List Lbl} {t : Int} (h : LastR m ne mx T) : LastR (putV m (.int .i64 (T.length : Nat)) (.int .i64 t)) ne mx (T ++ [(l, t)]) := fun k hk => by
  rw [List.length_append, List.length_singleton] at hk
  by_cases e : k = T.length
  · subst e
    refine .inl ?_
    rw [atV_put_same, lastT_at (p := (l, t)) (by simp)]
  · have e2 : lastT (T ++ [(l, t)]) k = lastT T k := by
      unfold lastT
      rw [List.getD_eq_getElem?_getD, List.getD_eq_getElem?_getD, List.map_append, List.getElem?_append_left (by simp; omega)]
    rw [e2, atV_put_other _ _ _ (by simp only [ne_eq, Value.int.injEq, true_and]; omega)]
    exact h k (by omega)
theorem infoNew : (Tryz.prog.info? 113).map (fun i => (i.zero, i.size, i.bytes)) = some (some (.agg #[.int .i64 0, .slice none 0 0]), 2, 32) := by kernel_rfl
theorem infoErr : (Tryz.prog.info? 41).map (fun i => (i.zero, i.size, i.bytes)) = some (some (.int .i64 0), 1, 8) := by kernel_rfl
/-- the sets of a head, each with its greatest time -/
def T0 (E : List (List Lbl)) (X : List HsR) : List (List Lbl × Int) := E.zip (X.map HsR.mx)
theorem entP_snoc {xs : List EntR} {k : Nat} {x : EntR} (h : xs[k]? = some x) (T : List (List Lbl × Int)) : planB T ((xs.take (k + 1)).map EntR.p) = planStep (planB T ((xs.take k).map EntR.p)) x.p := by
  rw [take_snoc? h, List.map_append, List.map_singleton, planB_snoc]
theorem planB_lens (T : List (List Lbl × Int)) (xs : List EntP) : (planB T xs).V.length = xs.length ∧ (planB T xs).P.length ≤ xs.length ∧ (planB T xs).N.length ≤ xs.length ∧ (planB T xs).T.length = T.length + (planB T xs).N.length := by
  generalize hk : xs.length = k
  induction k generalizing xs with
  | zero =>
    obtain rfl := List.eq_nil_of_length_eq_zero hk
    exact ⟨rfl, Nat.le_refl _, Nat.le_refl _, rfl⟩
  | succ k ih =>
    obtain ⟨ys, y, rfl⟩ : ∃ ys y, xs = ys ++ [y] := ⟨_, _, (List.dropLast_concat_getLast (fun e => by rw [e] at hk; cases hk)).symm⟩
    rw [List.length_append, List.length_singleton] at hk
    obtain ⟨h1, h2, h3, h4⟩ := ih ys (by omega)
    rw [planB_snoc]
    generalize planB T ys = s at h1 h2 h3 h4
    unfold planStep
    split
    · simp only [List.length_append, List.length_singleton]; omega
    · split
      · simp only [List.length_append, List.length_singleton]; omega
      · split
        · simp only [List.length_append, List.length_singleton]; omega
        · simp only [List.length_append, List.length_singleton, List.length_set]; omega
/-- an entry's set is put among those of the trial -/
def MidS (s : PlanS) (l : List Lbl) (nn : Nat) (T' : List (List Lbl × Int)) (N' : List (List Lbl)) : Prop :=
  (atE (s.T.map (·.1)) l = some nn ∧ T' = s.T ∧ N' = s.N) ∨ (atE (s.T.map (·.1)) l = none ∧ nn = s.T.length ∧ T' = s.T ++ [(l, -1)] ∧ N' = s.N ++ [l])
theorem planStep_old {s : PlanS} {x : EntP} {nn : Nat} {T' : List (List Lbl × Int)} {N' : List (List Lbl)} (h0 : entE x = 0) (h : MidS s x.l nn T' N') (hle : x.t ≤ lastT T' nn) : planStep s x = ⟨T', N', s.P, s.V ++ [270]⟩ := by
  unfold planStep
  rw [if_neg (by simp [h0])]
  rcases h with ⟨h1, rfl, rfl⟩ | ⟨h1, rfl, rfl, rfl⟩
  · rw [h1]
    exact if_pos hle
  · rw [lastT_at (p := (x.l, -1)) (by simp)] at hle
    exact absurd (entE_zero h0).2.1 (by simp only at hle; omega)
theorem planStep_new {s : PlanS} {x : EntP} {nn : Nat} {T' : List (List Lbl × Int)} {N' : List (List Lbl)} (h0 : entE x = 0) (h : MidS s x.l nn T' N') (hle : ¬ x.t ≤ lastT T' nn) : planStep s x = ⟨T'.set nn (x.l, x.t), N', s.P ++ [⟨(nn : Nat), x.t, x.v⟩], s.V ++ [0]⟩ := by
  unfold planStep
  rw [if_neg (by simp [h0])]
  rcases h with ⟨h1, rfl, rfl⟩ | ⟨h1, rfl, rfl, rfl⟩
  · rw [h1]
    exact if_neg hle
  · rw [h1]
    simp
theorem MidS.lt {s : PlanS} {l : List Lbl} {nn : Nat} {T' : List (List Lbl × Int)} {N' : List (List Lbl)} (h : MidS s l nn T' N') : nn < T'.length := by
  rcases h with ⟨h1, rfl, rfl⟩ | ⟨h1, rfl, rfl, rfl⟩
  · have := (List.getElem?_eq_some_iff.1 (atE_some h1)).1
    simpa using this
  · simp
theorem infoPnt : (Tryz.prog.info? 115).map (fun i => (i.zero, i.size, i.bytes)) = some (some (.agg #[.int .i64 0, .int .i64 0, .int .u64 0]), 3, 24) := by kernel_rfl
theorem atE_app (E F : List (List Lbl)) (l : List Lbl) : atE (E ++ F) l = (atE E l).or ((atE F l).map fun i => E.length + i) := by
  unfold atE
  rw [List.findIdx?_append]
  generalize E.findIdx? _ = a
  cases a <;> simp [Nat.add_comm]
theorem planB_sets (T : List (List Lbl × Int)) (xs : List EntP) : (planB T xs).T.map (·.1) = T.map (·.1) ++ (planB T xs).N := by
  generalize hk : xs.length = k
  induction k generalizing xs with
  | zero =>
    obtain rfl := List.eq_nil_of_length_eq_zero hk
    simp [planB]
  | succ k ih =>
    obtain ⟨ys, y, rfl⟩ : ∃ ys y, xs = ys ++ [y] := ⟨_, _, (List.dropLast_concat_getLast (fun e => by rw [e] at hk; cases hk)).symm⟩
    rw [List.length_append, List.length_singleton] at hk
    have h1 := ih ys (by omega)
    rw [planB_snoc]
    generalize planB T ys = s at h1
    unfold planStep
    split
    · exact h1
    · split
      · show (s.T ++ _).map _ = _
        rw [List.map_append, h1, List.append_assoc]; rfl
      · rename_i n hn
        split
        · exact h1
        · show (s.T.set n _).map _ = _
          rw [set_fst (atE_some hn), h1]
theorem zero_l (w : World) : (zeroValue 2).run Tryz.prog w = .ok (.int .i64 0) w := by
  have h : (Tryz.prog.info? 2).map (fun i => i.zero) = some (some (.int .i64 0)) := by kernel_rfl
  obtain ⟨i, h1, h2⟩ := Option.map_eq_some_iff.1 h
  simp [zeroValue, typeInfo, h1, h2]
theorem keyInt : KeyEq Tryz.prog 3 (fun _ => IsInt .i64) := keyEq_int Tryz.underlying3
theorem last_look {w : World} {q : Nat} {m : List (Value × Value)} (h : MapV (IsInt .i64) w q m) (j : Int) (c : Bool) : (Instr.lookup 100 (.map (some q)) (.int .i64 j) c).run Tryz.prog w = .ok (if c then .tuple #[(atV m (.int .i64 j)).getD (.int .i64 0), .bool (atV m (.int .i64 j)).isSome] else (atV m (.int .i64 j)).getD (.int .i64 0)) w :=
  h.look keyInt h.2 Tryz.underlying100 (zero_l w) ⟨_, rfl⟩ c
theorem last_store {w : World} {q : Nat} {m : List (Value × Value)} (h : MapV (IsInt .i64) w q m) (j : Int) (v : Value) : ∃ w', (Instr.mapUpdate 100 (.map (some q)) (.int .i64 j) v).run Tryz.prog w = .ok () w' ∧ MapV (IsInt .i64) w' q (putV m (.int .i64 j) v) ∧ w.grownBy w' (some q) ∧ w'.heap.size = w.heap.size :=
  h.store keyInt h.2 Tryz.underlying100 ⟨_, rfl⟩ ⟨_, rfl⟩ v
theorem planStep_bad {s : PlanS} {x : EntP} (h : entE x ≠ 0) : planStep s x = ⟨s.T, s.N, s.P, s.V ++ [entE x]⟩ := if_pos h
theorem mkLast (w : World) : (Instr.makeMap 100 none).run Tryz.prog w = .ok (.map (some w.heap.size)) (w.alloc (.map #[] 0)) := by simp [Instr.makeMap, Result.andThen]
/-- what Plan answers -/
def PlanAns (w : World) (ne : Nat) (s : PlanS) (e : Ending) (w' : World) : Prop :=
  ∃ nv pv vv L, e = .returned (.tuple #[.agg #[nv, pv, .slice none 0 0], vv]) ∧ NewsO w' w.heap.size ne nv s.N L ∧ w'.ownsRow w.heap.size 115 3 pv s.P.length (s.P.flatMap PntR.cells) ∧ w'.ownsRow w.heap.size 41 1 vv s.V.length (s.V.map (Value.int .i64)) ∧ Below w.heap.size w w'
theorem lastR_start {E : List (List Lbl)} {X : List HsR} (hl : X.length = E.length) : LastR [] E.length (X.map HsR.mx) (T0 E X) := fun n hn => by
  have h2 : (T0 E X).map (·.2) = X.map HsR.mx := by unfold T0; exact List.map_snd_zip (by rw [List.length_map, hl]; exact Nat.le_refl _)
  have hn1 : n < E.length := by unfold T0 at hn; rw [List.length_zip] at hn; omega
  refine .inr ⟨rfl, hn1, ?_⟩
  unfold lastT
  rw [h2, List.getD_eq_getElem?_getD, List.getElem?_eq_getElem (by rw [List.length_map]; omega)]
  rfl
end Go.Proofs.YthncochjhbmceaaGreat

namespace Go.Proofs.YthncochjhbmceaaGreat
set_option maxRecDepth 100000
open Go.RowKit

/-- what a head asks of a record -/
structure FitsH (E : List (List Lbl)) (mx : List Int) (r : RecR) : Prop where
  rec_ : fitRec r
  refs : ∀ (i : Nat) (x : NewQ), r.news.l[i]? = some x → x.ref = ((E.length + i : Nat) : Int)
  apart : (E ++ r.news.l.map fun x => x.lab.l).Nodup
  pts : ptsOk (mx ++ List.replicate r.news.n (-1)) r.pts.l
  gones : ∀ x ∈ r.gones.l, x.ref < ((E.length + r.news.n : Nat) : Int)
/-- the map last as fits holds it -/
def FitR (m : List (Value × Value)) (M0 M : List Int) : Prop :=
  ∀ (n : Nat) (v : Int), M[n]? = some v → atV m (.int .i64 (n : Nat)) = some (.int .i64 v) ∨ (atV m (.int .i64 (n : Nat)) = none ∧ M0[n]? = some v)
theorem FitR.put {m : List (Value × Value)} {M0 M : List Int} (h : FitR m M0 M) (n : Nat) (t : Int) : FitR (putV m (.int .i64 (n : Nat)) (.int .i64 t)) M0 (M.set n t) := fun k v hk => by
  by_cases e : n = k
  · subst e
    rw [List.getElem?_set] at hk
    simp only [if_true] at hk
    split at hk
    · obtain rfl : t = v := by simpa using hk
      exact .inl (atV_put_same _ _ _)
    · cases hk
  · rw [List.getElem?_set_ne e] at hk
    rw [atV_put_other _ _ _ (by simp only [ne_eq, Value.int.injEq, true_and]; omega)]
    exact h k v hk
theorem FitR.putS {m : List (Value × Value)} {M0 M : List Int} (h : FitR m M0 M) {n : Nat} {t : Int} (hn : M[n]? = some t) : FitR (putV m (.int .i64 (n : Nat)) (.int .i64 t)) M0 M := by
  have := h.put n t
  rwa [show M.set n t = M from by
    obtain ⟨hi, e⟩ := List.getElem?_eq_some_iff.1 hn
    rw [← e]; exact List.set_getElem_self hi] at this
theorem encRec_no {r : RecR} (h : ¬ fitRec r) : (encRec r).2 = 150 := by unfold encRec; rw [if_neg h]
theorem encRec_ok {r : RecR} (h : fitRec r) : (encRec r).2 = 0 := by unfold encRec; rw [if_pos h]
set_option maxHeartbeats 6400000 in
theorem hed_fits_no (h : Nat) (r : RecR) (w : World) (hr : r.At w) (hf : ¬ fitRec r) :
    Calls Tryz.prog 33 #[.pointer (some ⟨h, 0, none⟩), r.val] w fun e w' => e = .returned (.bool false) ∧ Below w.heap.size w w' := by
  have hb : Below w.heap.size w (w.alloc (.cells #[r.news.val, r.pts.val, r.gones.val] 31)) := (Below.refl _ _).alloc (Nat.le_refl _) _
  have S1 := hidden (recEnc_any r _ (hr.on hb))
  have HB := hidden hb
  have he := encRec_no hf
  obtain ⟨⟨nA, nn, nc, nl⟩, ⟨pA, pn, pc, pl⟩, ⟨gA, gn, gc, gl⟩⟩ := r
  simp only [RecR.val, Sl.val] at S1 HB ⊢
  generalize (encRec _).1 = eb at S1
  rw [he] at S1
  clear hr hf he hb
  go_enter Tryz.func33, Tryz.ntmps33
  go_wp2_with fail
  refine S1.out.mono ?_
  rintro e w1 ⟨rfl, b1⟩
  have B1 := HB.out.trans (b1.mono HB.out.size)
  clear S1
  go_wp2_with fail
  go_ret
  exact ⟨rfl, B1⟩
theorem nodup_at {E F : List (List Lbl)} {k : Nat} {l : List Lbl} (h : (E ++ F).Nodup) (hk : F[k]? = some l) : atE E l = none ∧ atE (F.take k) l = none := by
  obtain ⟨h1, h2, h3⟩ := List.nodup_append.1 h
  have hm := List.mem_of_getElem? hk
  refine ⟨atE_none.2 fun he => h3 l he l hm rfl, atE_none.2 fun he => ?_⟩
  obtain ⟨j, hj, e⟩ := List.getElem_of_mem he
  have hj2 : j < k := by have := hj; simp at this; omega
  obtain ⟨hi, e2⟩ := List.getElem?_eq_some_iff.1 hk
  have := List.pairwise_iff_getElem.1 h2 j k (by omega) hi hj2
  rw [e2] at this
  rw [List.getElem_take] at e
  exact this e
theorem fits1_any (x : GonR) (Q : Nat) (v : Int) (w : World) (hQ : Whole1 w Q 3 #[.int .i64 v]) :
    Calls Tryz.prog 68 #[.agg #[.int .i64 x.ref, .int .i64 x.res, .slice x.sp.A x.sp.n x.sp.c], .pointer (some ⟨Q, 0, none⟩)] w fun e w' => e = .returned (.bool (decide (v ≤ x.ref))) ∧ Below w.heap.size w w' := by
  have hb : Below w.heap.size w (w.alloc (.cells #[.int .i64 x.ref, .int .i64 x.res, .slice x.sp.A x.sp.n x.sp.c] 118)) := (Below.refl _ _).alloc (Nat.le_refl _) _
  have c0 := (Whole1.new w 118 #[.int .i64 x.ref, .int .i64 x.res, .slice x.sp.A x.sp.n x.sp.c]).cell 0
  have q0 := (hQ.below hb hQ.lt).cell 0
  clear hQ
  go_enter Tryz.func68, Tryz.ntmps68
  go_wp2_with fail
  go_ret
  exact ⟨rfl, hb⟩
set_option maxHeartbeats 12800000 in
theorem hed_fits (w : World) {base h : Nat} {E : List (List Lbl)} {X : List HsR} (hh : Hed w base h E X) (r : RecR) (hr : r.At w) (hl : ∀ x ∈ r.news.l, LbT w x.lab.A x.lab.n x.lab.l) (hf : FitsH E (X.map HsR.mx) r) (hE : E.length + r.news.n ≤ 1048576) :
    Calls Tryz.prog 33 #[.pointer (some ⟨h, 0, none⟩), r.val] w fun e w' => e = .returned (.bool true) ∧ Below w.heap.size w w' := by
  have hb : Below w.heap.size w (w.alloc (.cells #[r.news.val, r.pts.val, r.gones.val] 31)) := (Below.refl _ _).alloc (Nat.le_refl _) _
  have hw0 := Whole1.new w 31 #[r.news.val, r.pts.val, r.gones.val]
  have S1 := hidden (recEnc_any r _ (hr.on hb))
  have he := encRec_ok hf.rec_
  have HR := hidden hr
  have HH := hidden hh
  have HF := hidden hf
  have HLB := hidden hl
  obtain ⟨⟨nA, nn, nc, nl⟩, ⟨pA, pn, pc, pl⟩, ⟨gA, gn, gc, gl⟩⟩ := r
  simp only [RecR.val, Sl.val] at S1 hb hw0 hE ⊢
  generalize (encRec _).1 = eb at S1
  rw [he] at S1
  clear hr hf he hh hl
  go_enter Tryz.func33, Tryz.ntmps33
  go_upto_region 1 with (fail)
  obtain ⟨R, hR⟩ : ∃ R, w.heap.size = R := ⟨_, rfl⟩
  generalize w.alloc (.cells #[.slice nA nn nc, .slice pA pn pc, .slice gA gn gc] 31) = w1 at *
  have HB1 := hidden hb
  rw [hR] at hw0 ⊢
  have HW1 := hidden hw0
  have HRR := hidden hR
  have q0 := hw0.cell 0
  have q1 := hw0.cell 1
  have q2 := hw0.cell 2
  clear hb hw0 hR
  go_wp2_with fail
  refine S1.out.mono ?_
  rintro e w2 ⟨rfl, b2⟩
  have HB2 := hidden (HB1.out.trans (b2.mono HB1.out.size))
  have HW2 := hidden (HW1.out.below b2 HW1.out.lt)
  have hw2 := HW2.out
  have q0 := hw2.cell 0
  have q1 := hw2.cell 1
  have q2 := hw2.cell 2
  have S2 := hidden (idx_new w2 (base := w.heap.size) HB2.out.size)
  clear S1 b2 HB1 HW1 hw2
  go_wp2_with fail
  refine S2.out.mono ?_
  rintro e w3 ⟨p, rfl, hi, b3⟩
  have HB3 := hidden (HB2.out.trans (b3.mono HB2.out.size))
  have HW3 := hidden (HW2.out.below b3 HW2.out.lt)
  have hw3 := HW3.out
  have q0 := hw3.cell 0
  have q1 := hw3.cell 1
  have q2 := hw3.cell 2
  have HI3 := hidden hi
  clear S2 b3 HB2 HW2 hw3 hi
  clear q0 q1 q2
  have hw3 := HW3.out
  have q0 := hw3.cell 0
  clear hw3
  go_wp2_with fail
  go_loopw [32] (fun vi wr => ∃ k : Nat, vi = .int .i64 (k : Int) ∧ k ≤ nn ∧ Hid (Idx wr w.heap.size p ((nl.take k).map fun x => x.lab.l)) ∧ Hid (Below w.heap.size w wr) ∧ Hid (Whole1 wr R 31 #[.slice nA nn nc, .slice pA pn pc, .slice gA gn gc])) (fun vi _ => nn - (intOf vi).toNat)
  case atStart => exact ⟨0, rfl, Nat.zero_le _, hidden (by simpa using HI3.out), HB3, HW3⟩
  case round =>
    obtain ⟨k, rfl, hk, hi, hb, hw⟩ := hrel
    have k0 : (0 : Int) ≤ (k : Int) := by omega
    by_cases hlt : k < nn
    · have k1 : (k : Int) < (nn : Int) := by omega
      have HLT := hidden (show k + 1 ≤ nn from hlt)
      have fwk : IntKind.i64.wrap ((k : Int) + 1) = (k : Int) + 1 := Go.IntWalk.i64_in _ (by omega)
      have fwe : IntKind.i64.wrap ((E.length : Int) + (k : Int)) = (E.length : Int) + (k : Int) := Go.IntWalk.i64_in _ (by omega)
      have hrr := HR.out.on hb.out
      obtain ⟨g, o, x, rfl, hg, hx, hc⟩ := row_at (enc := NewQ.cells) (k := 2) newK hrr.news.2.2 hrr.news.2.1 k hlt
      have hxm := List.mem_of_getElem? hx
      have hlb := HLB.out x hxm
      have hnc := (hrr.labs x hxm).2
      have href := HF.out.refs k x hx
      have hap := nodup_at HF.out.apart (l := x.lab.l) (k := k) (by rw [List.getElem?_map, hx]; rfl)
      have hval := (HF.out.rec_.1 x hxm).2
      have hsn := take_snoc? hx
      have c0 := hc 0 (by omega)
      have c1 := hc 1 (by omega)
      obtain ⟨xr, ⟨lA, lN, lC, ll⟩⟩ := x
      simp only [NewQ.cells, Sl.val, List.getElem?_cons_zero, List.getElem?_cons_succ, Nat.add_zero] at c0 c1 hlb hnc href hap hval
      have hrb : (xr != (E.length : Int) + (k : Int)) = false := by rw [href]; simp
      obtain ⟨hap1, hap2⟩ := hap
      rw [← List.map_take] at hap2
      have hae : addE ((nl.take k).map fun x => x.lab.l) ll = ((((((nl.take k).map fun x => x.lab.l).length : Nat) : Int), true, 0), ((nl.take k).map fun x => x.lab.l) ++ [ll]) := by
        unfold addE
        rw [if_neg (by simp [enc_fit.2 hval]), hap2]
      have hb1 : Below wr.heap.size wr (wr.alloc (.cells #[.int .i64 xr, .slice lA lN lC] 113)) := (Below.refl _ _).alloc (Nat.le_refl _) _
      have hw1 := Whole1.new wr 113 #[.int .i64 xr, .slice lA lN lC]
      obtain ⟨w4, hw4⟩ : ∃ w4, wr.alloc (.cells #[.int .i64 xr, .slice lA lN lC] 113) = w4 := ⟨_, rfl⟩
      obtain ⟨Y, hY⟩ : ∃ Y, wr.heap.size = Y := ⟨_, rfl⟩
      rw [hw4] at hb1 hw1
      rw [hY] at hw1
      have HAE := hidden hae
      have HAP1 := hidden hap1
      have HNC := hidden hnc
      have HSN := hidden (congrArg (List.map fun x : NewQ => x.lab.l) hsn)
      have HW4 := hidden hw4
      have HYY := hidden hY
      have HI4 := hidden (hi.out.below hb1)
      have HB4 := hidden (hb.out.trans (hb1.mono hb.out.size))
      have HR4 := hidden (hw.out.below hb1 hw.out.lt)
      have HN4 := hidden hw1
      have hhe := HH.out
      obtain ⟨ip, sv, hhe⟩ := hhe
      have hh4 := hhe.below HB4.out
      have ch0 := hh4.blk.cell 0
      have d0 := hw1.cell 0
      have d1 := hw1.cell 1
      have hlb4 : LbT w4 lA lN ll := hlb.turn (Turn.of_below HB4.out 0 [] false) (by simp)
      have HLB4 := hidden hlb4
      have S3 := fun W (hW : Below w4.heap.size w4 W) => idx_find lA lN lC ll W (hh4.idx.below hW) (hlb4.f.on hW) hnc
      rw [hap1] at S3
      have S3 := hidden S3
      clear href hrr hxm hlb hnc hap1 hap2 hval hsn hae hb1 hw1 hw4 hY hi hb hw hhe hh4 hlb4 hx hc
      go_upto_region 8 with (fail)
      rw [HW4.out, HYY.out]
      clear c0 c1
      go_cut [10, 11] (fun vn vk wx => vn = .int .i64 0 ∧ vk = .bool false ∧ Hid (Below w4.heap.size w4 wx))
      case first =>
        go_region_law (first
          | (go_simp; go_at_call 29; refine (S3.out _ (Below.refl _ _).drew).mono ?_; rintro e w5 ⟨rfl, b5⟩; have HB5 := hidden ((Below.refl w4.heap.size w4).drew.trans b5)))
        all_goals
          go_wp2_with fail
          go_meet
          exact ⟨rfl, rfl, HB5⟩
      case rest =>
        obtain ⟨rfl, rfl, HB5⟩ := hcut
        clear d0 d1 ch0 S3
        have HI5 := hidden (HI4.out.below HB5.out)
        have HN5 := hidden (HN4.out.below HB5.out HN4.out.lt)
        have HR5 := hidden (HR4.out.below HB5.out HR4.out.lt)
        have HB6 := hidden (HB4.out.trans (HB5.out.mono HB4.out.size))
        have S4 := idx_add lA lN lC ll wc HI5.out (HLB4.out.turn (Turn.of_below HB5.out 0 [] false) (by simp)) HNC.out HB6.out.size (by rw [List.length_map, List.length_take]; omega)
        rw [HAE.out] at S4
        have S4 := hidden S4
        have hn5 := HN5.out
        have d0 := hn5.cell 0
        have d1 := hn5.cell 1
        clear hn5 HI4 HB4 HR4 HN4 HLB4
        go_wp2_with fail
        refine S4.out.mono ?_
        rintro e w6 ⟨rfl, hi6, t6⟩
        have HI6 := hidden hi6
        have HB7 := hidden (HB6.out.trans (t6.below (Nat.le_refl _) HB6.out.size))
        have HR6 := hidden (t6.whole HR5.out (.inr (by decide)))
        have hn6 := t6.whole HN5.out (.inr (by decide))
        have d0 := hn6.cell 0
        have S5 := hidden (fun q => hed_len (w6.drewN q) (HH.out.below (below_drewN HB7.out q)))
        clear S4 hi6 t6 hn6 d1 HN5 HR5 HI5 HB6
        go_wp2_with fail
        go_quiet ((go_at_call 14; refine Calls.quiet_of_same (S5.out _)))
        go_wp2_with fail
        go_roundw
        case rel => exact ⟨k + 1, by go_num, HLT.out, hidden (by rw [HSN.out, List.map_append]; exact HI6.out.below (below_drewN (Below.refl _ _) _)), hidden (below_drewN HB7.out _), hidden (HR6.out.drewN _)⟩
        case measure => have := HLT.out; simp [intOf]; omega
    · obtain rfl : nn = k := by omega
      have q0 := hw.out.cell 0
      have q1 := hw.out.cell 1
      have q2 := hw.out.cell 2
      have fwe : IntKind.i64.wrap ((E.length : Int) + (nn : Int)) = (E.length : Int) + (nn : Int) := Go.IntWalk.i64_in _ (by omega)
      have HB := hidden hb.out
      have HW := hidden hw.out
      have hA : Below wr.heap.size wr (wr.alloc (.cells #[.int .i64 0] 3)) := (Below.refl _ _).alloc (Nat.le_refl _) _
      have hA0 := (hw.out.below hA hw.out.lt).cell 0
      have S6 := hidden (fun W (hW : Below w.heap.size w W) => hed_len W (HH.out.below hW))
      have HBa := hidden hb.out.drew
      have HBb := hidden ((hb.out.alloc hb.out.size (.cells #[.int .i64 0] 3)).drew)
      clear hi hb hw hA hk
      go_upto_region 13 with (fail)
      go_cut [15] (fun vq wx => ∃ Q, vq = .pointer (some ⟨Q, 0, none⟩) ∧ Hid (Whole1 wx Q 3 #[.int .i64 ((E.length : Int) + (nn : Int))]) ∧ Hid (Below w.heap.size w wx) ∧ Hid (Whole1 wx R 31 #[.slice nA nn nc, .slice pA pn pc, .slice gA gn gc]))
      case first =>
        go_region_law (first
          | (go_simp; go_at_call 14; refine (S6.out _ HBa.out).mono ?_; rintro e w5 ⟨rfl, rfl⟩)
          | (go_simp; go_at_call 14; refine (S6.out _ HBb.out).mono ?_; rintro e w5 ⟨rfl, rfl⟩))
        all_goals
          go_wp2_with fail
          go_meet
          exact ⟨wr.heap.size, rfl, hidden ((Whole1.new wr _ _).drew), hidden ((HB.out.alloc HB.out.size _).drew), hidden ((HW.out.alloc _).drew)⟩
      case rest =>
        obtain ⟨Q, rfl, HQ, HB8, HR8⟩ := hcut
        have mk := mkLast
        obtain ⟨M, hM⟩ : ∃ M, wc.heap.size = M := ⟨_, rfl⟩
        obtain ⟨w9, hw9⟩ : ∃ w9, wc.alloc (.map #[] 0) = w9 := ⟨_, rfl⟩
        have HM9 := hidden (show MapV (IsInt .i64) w9 M [] by rw [← hw9, ← hM]; exact mapV_made _ _)
        have HB9 := hidden (show Below w.heap.size w w9 by rw [← hw9]; exact HB8.out.alloc HB8.out.size _)
        have HR9 := hidden (show Whole1 w9 R _ _ by rw [← hw9]; exact HR8.out.alloc _)
        have HQ9 := hidden (show Whole1 w9 Q _ _ by rw [← hw9]; exact HQ.out.alloc _)
        have HMb := hidden (show w.heap.size ≤ M by rw [← hM]; exact HB8.out.size)
        clear HB8 HR8 HQ HB HW S6 HBa HBb
        have q1 := HR9.out.cell 1
        go_wp2_with fail
        clear hM hw9 q1 mk hA0
        have HLT := hidden (show (afterP (X.map HsR.mx ++ List.replicate nn (-1)) []).length = E.length + nn by
          rw [afterP_len, List.length_append, List.length_map, List.length_replicate]; obtain ⟨_, _, k⟩ := HH.out; rw [k.len])
        go_loopw [80] (fun vi wr => ∃ (k : Nat) (m : List (Value × Value)), vi = .int .i64 (k : Int) ∧ k ≤ pn ∧ Hid (MapV (IsInt .i64) wr M m) ∧ Hid (FitR m (X.map HsR.mx ++ List.replicate nn (-1)) (afterP (X.map HsR.mx ++ List.replicate nn (-1)) (pl.take k))) ∧ Hid (Below w.heap.size w wr) ∧ Hid (Whole1 wr R 31 #[.slice nA nn nc, .slice pA pn pc, .slice gA gn gc]) ∧ Hid (Whole1 wr Q 3 #[.int .i64 ((E.length : Int) + (nn : Int))])) (fun vi _ => pn - (intOf vi).toNat)
        case atStart => exact ⟨0, [], rfl, Nat.zero_le _, HM9, hidden (fun n v hv => .inr ⟨rfl, by simpa [afterP] using hv⟩), HB9, HR9, HQ9⟩
        case round =>
          obtain ⟨k, m, rfl, hk, hm, hfr, hb, hw, hq⟩ := hrel
          have k0 : (0 : Int) ≤ (k : Int) := by omega
          by_cases hlt : k < pn
          · have k1 : (k : Int) < (pn : Int) := by omega
            have HKT := hidden (show k + 1 ≤ pn from hlt)
            have hrr := HR.out.on hb.out
            have f2 := hrr.few.2.1
            have fwk : IntKind.i64.wrap ((k : Int) + 1) = (k : Int) + 1 := Go.IntWalk.i64_in _ (by simp only at f2; omega)
            obtain ⟨g, o, x, rfl, hg, hx, hc⟩ := row_at (enc := PntR.cells) (k := 3) pntK hrr.pts.2.2 hrr.pts.2.1 k hlt
            obtain ⟨h0, mm, hmm, hlt2⟩ := ptsOk_at HF.out.pts hx
            have hsn := congrArg (afterP (X.map HsR.mx ++ List.replicate nn (-1))) (take_snoc? hx)
            rw [afterP_snoc] at hsn
            have c0 := hc 0 (by omega)
            have c1 := hc 1 (by omega)
            have c2 := hc 2 (by omega)
            obtain ⟨pr, pt, pv⟩ := x
            obtain ⟨rn, rfl⟩ : ∃ rn : Nat, pr = (rn : Int) := ⟨pr.toNat, by simp only at h0; omega⟩
            simp only [PntR.cells, List.getElem?_cons_zero, List.getElem?_cons_succ, Nat.add_zero, Int.toNat_natCast] at c0 c1 c2 hmm hlt2 hsn h0
            have hrl := (List.getElem?_eq_some_iff.1 hmm).1
            have hl0 := HLT.out
            rw [afterP_len] at hrl hl0
            have hrn : ¬ ((E.length : Int) + (nn : Int) ≤ (rn : Int)) := by omega
            have hnle : ¬ pt ≤ mm := by omega
            have hb1 : Below wr.heap.size wr (wr.alloc (.cells #[.int .i64 (rn : Int), .int .i64 pt, .int .u64 (pv : Int)] 115)) := (Below.refl _ _).alloc (Nat.le_refl _) _
            have hw1 := Whole1.new wr 115 #[.int .i64 (rn : Int), .int .i64 pt, .int .u64 (pv : Int)]
            obtain ⟨w4, hw4⟩ : ∃ w4, wr.alloc (.cells #[.int .i64 (rn : Int), .int .i64 pt, .int .u64 (pv : Int)] 115) = w4 := ⟨_, rfl⟩
            obtain ⟨Y, hY⟩ : ∃ Y, wr.heap.size = Y := ⟨_, rfl⟩
            rw [hw4] at hb1 hw1
            rw [hY] at hw1
            have hq4 := hq.out.below hb1 hq.out.lt
            have HQ4 := hidden hq4
            have HR4 := hidden (hw.out.below hb1 hw.out.lt)
            have HB4 := hidden (hb.out.trans (hb1.mono hb.out.size))
            have HM4 := hidden (hm.out.kept (hb1.block M hm.out.lt))
            have HN4 := hidden hw1
            have HW4 := hidden hw4
            have HYY := hidden hY
            have HMM := hidden hmm
            have HSN := hidden hsn
            have d0 := hw1.cell 0
            have d1 := hw1.cell 1
            have e0 := hq4.cell 0
            have HRN := hidden hrl
            clear hrr f2 hx hc h0 hmm hsn hrl hl0 hb1 hw1 hq4 hq hw hb hm
            go_upto_region 18 with (fail)
            clear c0 c1 c2 hw4 hY
            have hlk := last_look HM4.out (rn : Int) true
            simp only [if_true] at hlk
            have hfr4 := hfr.out rn mm HMM.out
            obtain ⟨am, ham⟩ : ∃ am, atV m (.int .i64 (rn : Nat)) = am := ⟨_, rfl⟩
            rw [ham] at hlk hfr4
            have HAM := hidden ham
            have HF4 := hidden hfr4
            clear ham hfr4
            go_upto_if 96 with (fail)
            clear hlk e0 d1
            go_cut [] (fun wx => ∃ m', Hid (MapV (IsInt .i64) wx M m') ∧ Hid (FitR m' (X.map HsR.mx ++ List.replicate nn (-1)) (afterP (X.map HsR.mx ++ List.replicate nn (-1)) (pl.take k))) ∧ Hid (atV m' (.int .i64 (rn : Nat)) = some (.int .i64 mm)) ∧ Hid (Below w.heap.size w wx) ∧ Hid (Whole1 wx R 31 #[.slice nA nn nc, .slice (some ⟨g, o, none⟩) pn pc, .slice gA gn gc]) ∧ Hid (Whole1 wx Q 3 #[.int .i64 ((E.length : Int) + (nn : Int))]) ∧ Hid (Whole1 wx Y 115 #[.int .i64 (rn : Int), .int .i64 pt, .int .u64 (pv : Int)]))
            case first =>
              cases am with
              | some vm =>
                obtain rfl : vm = .int .i64 mm := by rcases HF4.out with h | ⟨h, _⟩; exact Option.some.inj h; cases h
                simp only [Option.isSome_some]
                go_wp2_with fail
                go_meet
                exact ⟨m, HM4, hfr, HAM, HB4, HR4, HQ4, HN4⟩
              | none =>
                have hm0 : (X.map HsR.mx ++ List.replicate nn (-1))[rn]? = some mm := by rcases HF4.out with h | ⟨_, h⟩; cases h; exact h
                obtain ⟨w5, hrun, hm5, hg5, hz5⟩ := last_store HM4.out (rn : Int) (.int .i64 (-1))
                have t5 : Turn w.heap.size [] true w4 w5 := Turn.of_map HM4.out HMb.out hg5
                have HM5 := hidden hm5
                have HB5 := hidden (HB4.out.trans (t5.below (Nat.le_refl _) HB4.out.size))
                have HR5 := hidden (t5.whole HR4.out (.inr (by simp)))
                have HQ5 := hidden (t5.whole HQ4.out (.inr (by simp)))
                have hn5 := t5.whole HN4.out (.inr (by simp))
                have HN5 := hidden hn5
                have HZ5 := hidden hz5
                have d0a := hn5.cell 0
                have S5 := hidden (fun q => hed_len (w5.drewN q) (HH.out.below (below_drewN HB5.out q)))
                clear hz5 hm5 hg5 t5 hn5
                simp only [Option.isSome_none]
                go_upto_region 23 with (fail)
                clear hrun d0
                go_quiet ((go_at_call 14; refine Calls.quiet_of_same (S5.out _)))
                obtain ⟨w6, hw6⟩ : ∃ w6, w5.drewN nq = w6 := ⟨_, rfl⟩
                have HM6 := hidden (show MapV (IsInt .i64) w6 M _ by rw [← hw6]; exact HM5.out.kept rfl)
                have HB6 := hidden (show Below w.heap.size w w6 by rw [← hw6]; exact below_drewN HB5.out _)
                have HR6 := hidden (show Whole1 w6 R _ _ by rw [← hw6]; exact HR5.out.drewN _)
                have HQ6 := hidden (show Whole1 w6 Q _ _ by rw [← hw6]; exact HQ5.out.drewN _)
                have HN6 := hidden (show Whole1 w6 Y _ _ by rw [← hw6]; exact HN5.out.drewN _)
                rw [hw6]
                clear hw6 HM5 HB5 HR5 HQ5 HN5 HZ5 S5 d0a
                by_cases hE2 : rn < E.length
                · have hE3 : (rn : Int) < (E.length : Int) := by omega
                  obtain ⟨ip, sv, hh6⟩ := HH.out.below HB6.out
                  have hX := hh6.len
                  rw [List.getElem?_append_left (by rw [List.length_map, hX]; exact hE2), List.getElem?_map] at hm0
                  obtain ⟨As, cs, rfl, _, hrow⟩ := own_shape hh6.row
                  rw [List.map_eq_flatMap] at hrow
                  obtain ⟨gs, os, x, rfl, _, hx, hcx⟩ := row_at (enc := fun x : HsR => [x.ptr]) (k := 1) (fun _ => rfl) hrow rfl rn (by rw [hX]; exact hE2)
                  have hxb := (hh6.at_ x (List.mem_of_getElem? hx)).blk
                  rw [hx] at hm0
                  have ch1 := hh6.blk.cell 1
                  rw [hX] at ch1
                  obtain ⟨xb, xmx, xgv, xgo, xsv, xsm⟩ := x
                  obtain rfl : xmx = mm := by simpa using hm0
                  have xc0 := hxb.cell 0
                  have cx0 := hcx 0 (by omega)
                  simp only [HsR.ptr, HsR.cells, List.getElem?_cons_zero, Nat.add_zero, Nat.mul_one] at cx0 xc0
                  have y0 := HN6.out.cell 0
                  have hmD : MapV (IsInt .i64) w6.drew M (putV m (.int .i64 (rn : Nat)) (.int .i64 (-1))) := HM6.out.kept rfl
                  obtain ⟨w7, hrun, hm7, hg7, hz7⟩ := last_store hmD (rn : Int) (.int .i64 xmx)
                  have t7 : Turn w.heap.size [] true w6.drew w7 := Turn.of_map hmD HMb.out hg7
                  have HM7 := hidden hm7
                  have HB7 := hidden ((HB6.out.drew).trans (t7.below (Nat.le_refl _) HB6.out.size))
                  have HR7 := hidden (t7.whole (HR6.out.drewN 1) (.inr (by simp)))
                  have HQ7 := hidden (t7.whole (HQ6.out.drewN 1) (.inr (by simp)))
                  have HN7 := hidden (t7.whole (HN6.out.drewN 1) (.inr (by simp)))
                  have HF7 : Hid (FitR (putV (putV m (.int .i64 (rn : Nat)) (.int .i64 (-1))) (.int .i64 (rn : Nat)) (.int .i64 xmx)) (X.map HsR.mx ++ List.replicate nn (-1)) (afterP (X.map HsR.mx ++ List.replicate nn (-1)) (pl.take k))) := hidden (fun n v hv => by
                    by_cases e : rn = n
                    · subst e
                      obtain rfl : xmx = v := by rw [HMM.out] at hv; exact Option.some.inj hv
                      exact .inl (atV_put_same _ _ _)
                    · rw [atV_put_other _ _ _ (by simp only [ne_eq, Value.int.injEq, true_and]; omega), atV_put_other _ _ _ (by simp only [ne_eq, Value.int.injEq, true_and]; omega)]
                      exact hfr.out n v hv)
                  clear hmD hm7 hg7 hz7 t7 hh6 hrow hcx hxb hx hm0 hE2
                  go_upto_region 24 with (fail)
                  go_region
                  all_goals
                    go_wp2_with fail
                    go_meet
                    exact ⟨_, HM7, HF7, hidden (atV_put_same _ _ _), HB7, HR7, HQ7, HN7⟩
                · have hE3 : ¬ ((rn : Int) < (E.length : Int)) := by omega
                  obtain rfl : mm = -1 := by
                    obtain ⟨_, _, kk⟩ := HH.out
                    rw [List.getElem?_append_right (by rw [List.length_map, kk.len]; omega), List.getElem?_replicate] at hm0
                    split at hm0
                    · exact (Option.some.inj hm0).symm
                    · cases hm0
                  have HF6 := hidden (hfr.out.putS HMM.out)
                  clear hm0 hE2
                  go_wp2_with fail
                  go_meet
                  exact ⟨_, HM6, HF6, hidden (atV_put_same _ _ _), HB6, HR6, HQ6, HN6⟩
            case rest =>
              obtain ⟨m2, HM8, HF8, HAT, HB8, HR8, HQ8, HN8⟩ := hcut
              clear HM4 HB4 HR4 HQ4 HN4 HW4 HYY HF4 hfr d0
              have hn8 := HN8.out
              have d0 := hn8.cell 0
              have d1 := hn8.cell 1
              have hlk := last_look HM8.out (rn : Int) false
              rw [HAT.out] at hlk
              simp only [Bool.false_eq_true, if_false, Option.getD_some] at hlk
              obtain ⟨w9, hrun, hm9, hg9, hz9⟩ := last_store HM8.out (rn : Int) (.int .i64 pt)
              have t9 : Turn w.heap.size [] true wc w9 := Turn.of_map HM8.out HMb.out hg9
              have HM9b := hidden hm9
              have HB9b := hidden (HB8.out.trans (t9.below (Nat.le_refl _) HB8.out.size))
              have HR9b := hidden (t9.whole HR8.out (.inr (by simp)))
              have HQ9b := hidden (t9.whole HQ8.out (.inr (by simp)))
              have HF9 := hidden (HF8.out.put rn pt)
              clear hm9 hg9 hz9 t9 hn8 HF8 HAT HAM
              go_wp2_with fail
              go_roundw
              case rel => exact ⟨k + 1, _, by go_num, HKT.out, HM9b, hidden (by rw [HSN.out]; exact HF9.out), HB9b, HR9b, HQ9b⟩
              case measure => have := HKT.out; simp [intOf]; omega
          · obtain rfl : pn = k := by omega
            have q2 := hw.out.cell 2
            have hq0 := hq.out.cell 0
            have hrr := HR.out.on hb.out
            have hga : (gl.any fun x => decide ((E.length : Int) + (nn : Int) ≤ x.ref)) = false := by
              rw [List.any_eq_false]
              intro x hx
              have := HF.out.gones x hx
              simp only at this
              simp only [decide_eq_true_eq]
              omega
            have HQF := hidden hq.out
            have HB := hidden hb.out
            have S7 := hidden (IdxGoR.contains_any gA gn gc gl 68 #[.pointer (some ⟨Q, 0, none⟩)] (fun x => decide ((E.length : Int) + (nn : Int) ≤ x.ref)) wr (enters_of Tryz.func68 (by kernel_rfl) rfl) (fun x hx W hW => fits1_any x Q _ W (HQF.out.below hW HQF.out.lt)) hrr.gones.2.2 hrr.gones.2.1 (by have := hrr.few.2.2.1; simp only at this; omega))
            rw [hga] at S7
            clear hrr hga hm hfr hb hw hq hq0
            go_wp2_with fail
            refine S7.out.mono ?_
            rintro e w9 ⟨rfl, b9⟩
            have HF := hidden (HB.out.trans (b9.mono HB.out.size))
            clear S7 b9
            go_wp2_with fail
            go_ret
            exact ⟨rfl, HF.out⟩
end Go.Proofs.YthncochjhbmceaaGreat
