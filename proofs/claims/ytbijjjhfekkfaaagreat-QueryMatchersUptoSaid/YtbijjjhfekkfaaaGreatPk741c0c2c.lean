/- Series put together, plainly: lists of series by what they tell; the one list that tells it. No condition. The reference's putting together, plainly: one sample, one window, one series more. No condition. -/
import Derived.Test.YtbijjjhfekkfaaaGreatPk67c722b2
namespace Go.Proofs.YtbijjjhfekkfaaaGreat
set_option maxRecDepth 100000
open Go.RowKit

instance labelsDec : DecidableEq (List Lbl) := fun a b => decidable_of_iff (cmpLs a b = 0) (cmpLs_zero a b)
/-- a series of these labels -/
def here (k : List Lbl) (s : SK) : Bool := decide (cmpLs s.1 k = 0)
theorem here_eq {k : List Lbl} {s : SK} : here k s = true ↔ s.1 = k := by unfold here; rw [decide_eq_true_eq, cmpLs_zero]
theorem here_self (s : SK) : here s.1 s = true := here_eq.2 rfl
theorem here_ne {k : List Lbl} {s : SK} (h : s.1 ≠ k) : here k s = false := by
  cases hh : here k s with
  | false => rfl
  | true => exact absurd (here_eq.1 hh) h
/-- all samples, all windows of these labels, in their order -/
def smpsOf (k : List Lbl) (all : List SK) : List Smp := (all.filter (here k)).flatMap fun s => s.2.1
def winsOf (k : List Lbl) (all : List SK) : List Win := (all.filter (here k)).flatMap fun s => s.2.2
theorem smpsOf_app (k : List Lbl) (a b : List SK) : smpsOf k (a ++ b) = smpsOf k a ++ smpsOf k b := by simp [smpsOf]
theorem winsOf_app (k : List Lbl) (a b : List SK) : winsOf k (a ++ b) = winsOf k a ++ winsOf k b := by simp [winsOf]
theorem smpsOf_one (k : List Lbl) (x : SK) : smpsOf k [x] = if x.1 = k then x.2.1 else [] := by
  by_cases h : x.1 = k
  · have := here_eq.2 h
    simp [smpsOf, this, h]
  · have := here_ne h
    simp [smpsOf, this, h]
theorem winsOf_one (k : List Lbl) (x : SK) : winsOf k [x] = if x.1 = k then x.2.2 else [] := by
  by_cases h : x.1 = k
  · have := here_eq.2 h
    simp [winsOf, this, h]
  · have := here_ne h
    simp [winsOf, this, h]
theorem of_none {k : List Lbl} {all : List SK} (h : ∀ x ∈ all, x.1 ≠ k) : smpsOf k all = [] ∧ winsOf k all = [] := by
  have : all.filter (here k) = [] := List.filter_eq_nil_iff.2 fun x hx => by rw [here_ne (h x hx)]; simp
  simp [smpsOf, winsOf, this]
/-- what a list tells of these labels at this time -/
def semS (all : List SK) (k : List Lbl) (t : Int) : Option Smp := (smpsOf k all).find? fun x => x.t == t
def semW (all : List SK) (k : List Lbl) (t : Int) : Option Win := (winsOf k all).find? fun x => x.start == t
def Eqv (a b : List SK) : Prop := ∀ (k : List Lbl) (t : Int), semS a k t = semS b k t ∧ semW a k t = semW b k t
theorem Eqv.refl (a : List SK) : Eqv a a := fun _ _ => ⟨rfl, rfl⟩
theorem Eqv.symm {a b : List SK} (h : Eqv a b) : Eqv b a := fun k t => ⟨(h k t).1.symm, (h k t).2.symm⟩
theorem Eqv.trans {a b c : List SK} (h : Eqv a b) (g : Eqv b c) : Eqv a c := fun k t => ⟨(h k t).1.trans (g k t).1, (h k t).2.trans (g k t).2⟩
theorem semS_app (a b : List SK) (k : List Lbl) (t : Int) : semS (a ++ b) k t = (semS a k t).or (semS b k t) := by
  unfold semS; rw [smpsOf_app, List.find?_append]
theorem semW_app (a b : List SK) (k : List Lbl) (t : Int) : semW (a ++ b) k t = (semW a k t).or (semW b k t) := by
  unfold semW; rw [winsOf_app, List.find?_append]
theorem Eqv.app {a a' b b' : List SK} (h : Eqv a a') (g : Eqv b b') : Eqv (a ++ b) (a' ++ b') := fun k t => by
  rw [semS_app, semS_app, semW_app, semW_app, (h k t).1, (h k t).2, (g k t).1, (g k t).2]; exact ⟨rfl, rfl⟩

/-- in order, each of the labels once, each time once, none of them empty -/
structure Canon (l : List SK) : Prop where
  order : l.Pairwise fun a b => cmpLs a.1 b.1 < 0
  smps : ∀ e ∈ l, e.2.1.Pairwise fun x y => x.t < y.t
  wins : ∀ e ∈ l, e.2.2.Pairwise fun x y => x.start < y.start
  full : ∀ e ∈ l, e.2.1 ≠ [] ∨ e.2.2 ≠ []
theorem Canon.nil : Canon [] := ⟨List.Pairwise.nil, by simp, by simp, by simp⟩
theorem lt_ne {a b : List Lbl} (h : cmpLs a b < 0) : a ≠ b := fun e => by
  have := (cmpLs_zero a b).2 e
  omega
theorem lt_gt {a b : List Lbl} (h : cmpLs a b < 0) : ¬ cmpLs b a < 0 := by
  rw [cmpLs_turn a b]; omega
theorem lt_tr {a b c : List Lbl} (h : cmpLs a b < 0) (g : cmpLs b c < 0) : cmpLs a c < 0 := by
  have h1 := cmpLs_range a b
  have h2 := cmpLs_range b c
  have := cmpLs_trans a b c (by omega) (by omega)
  omega
theorem lt_tri (a b : List Lbl) : cmpLs a b < 0 ∨ a = b ∨ cmpLs b a < 0 := by
  rcases cmpLs_range a b with h | h | h
  · exact .inl (by omega)
  · exact .inr (.inl ((cmpLs_zero a b).1 h))
  · exact .inr (.inr (by rw [cmpLs_turn a b]; omega))
theorem of_mem {l : List SK} (h : l.Pairwise fun a b => cmpLs a.1 b.1 < 0) {e : SK} (he : e ∈ l) : smpsOf e.1 l = e.2.1 ∧ winsOf e.1 l = e.2.2 := by
  induction l with
  | nil => simp at he
  | cons a l ih =>
    rw [List.pairwise_cons] at h
    have happ : a :: l = [a] ++ l := rfl
    rw [happ, smpsOf_app, winsOf_app, smpsOf_one, winsOf_one]
    rcases List.mem_cons.1 he with rfl | he
    · obtain ⟨h1, h2⟩ := of_none (k := e.1) (all := l) fun x hx e' => lt_ne (h.1 x hx) e'.symm
      rw [h1, h2]; simp
    · have hne : a.1 ≠ e.1 := lt_ne (h.1 e he)
      obtain ⟨h1, h2⟩ := ih h.2 he
      rw [h1, h2]; simp [hne]
theorem sem_mem {l : List SK} (h : Canon l) {e : SK} (he : e ∈ l) (t : Int) : semS l e.1 t = e.2.1.find? (fun x => x.t == t) ∧ semW l e.1 t = e.2.2.find? (fun x => x.start == t) := by
  obtain ⟨h1, h2⟩ := of_mem h.order he
  unfold semS semW
  rw [h1, h2]; exact ⟨rfl, rfl⟩
theorem sem_some {l : List SK} {k : List Lbl} (h : ∃ t, (semS l k t).isSome = true ∨ (semW l k t).isSome = true) : ∃ e ∈ l, e.1 = k := by
  obtain ⟨t, h⟩ := h
  rcases h with h | h
  · obtain ⟨x, hx⟩ := Option.isSome_iff_exists.1 h
    have := List.mem_of_find?_eq_some hx
    unfold smpsOf at this
    rw [List.mem_flatMap] at this
    obtain ⟨e, he, _⟩ := this
    rw [List.mem_filter] at he
    exact ⟨e, he.1, here_eq.1 he.2⟩
  · obtain ⟨x, hx⟩ := Option.isSome_iff_exists.1 h
    have := List.mem_of_find?_eq_some hx
    unfold winsOf at this
    rw [List.mem_flatMap] at this
    obtain ⟨e, he, _⟩ := this
    rw [List.mem_filter] at he
    exact ⟨e, he.1, here_eq.1 he.2⟩
theorem Canon.tells {l : List SK} (h : Canon l) {e : SK} (he : e ∈ l) : ∃ t, (semS l e.1 t).isSome = true ∨ (semW l e.1 t).isSome = true := by
  rcases h.full e he with hf | hf
  · obtain ⟨x, r, hx⟩ := List.exists_cons_of_ne_nil hf
    refine ⟨x.t, .inl ?_⟩
    rw [(sem_mem h he _).1, hx, List.find?_cons_of_pos (by simp)]
    rfl
  · obtain ⟨x, r, hx⟩ := List.exists_cons_of_ne_nil hf
    refine ⟨x.start, .inr ?_⟩
    rw [(sem_mem h he _).2, hx, List.find?_cons_of_pos (by simp)]
    rfl
theorem canon_sub {a b : List SK} (ha : Canon a) (hb : Canon b) (h : Eqv a b) {e : SK} (he : e ∈ a) : e ∈ b := by
  obtain ⟨t, ht⟩ := ha.tells he
  obtain ⟨e', he', hk⟩ := sem_some (l := b) (k := e.1) ⟨t, by rw [← (h _ _).1, ← (h _ _).2]; exact ht⟩
  have h1 : e.2.1 = e'.2.1 := OncSmp.once_unique (l := e'.2.1) ⟨ha.smps e he, fun t => by rw [← (sem_mem ha he t).1, ← (sem_mem hb he' t).1, (h _ _).1, hk]⟩ ⟨hb.smps e' he', fun _ => rfl⟩
  have h2 : e.2.2 = e'.2.2 := OncWin.once_unique (l := e'.2.2) ⟨ha.wins e he, fun t => by rw [← (sem_mem ha he t).2, ← (sem_mem hb he' t).2, (h _ _).2, hk]⟩ ⟨hb.wins e' he', fun _ => rfl⟩
  have : e = e' := by
    obtain ⟨e1, e2, e3⟩ := e
    obtain ⟨f1, f2, f3⟩ := e'
    simp only at hk h1 h2
    rw [hk, h1, h2]
  rw [this]; exact he'
theorem sorted_ext : ∀ {a b : List SK}, (a.Pairwise fun x y => cmpLs x.1 y.1 < 0) → (b.Pairwise fun x y => cmpLs x.1 y.1 < 0) → (∀ e, e ∈ a ↔ e ∈ b) → a = b
  | [], b, _, _, h => by
    cases b with
    | nil => rfl
    | cons y b => exact absurd ((h y).2 (List.mem_cons_self ..)) (by simp)
  | x :: a, [], _, _, h => absurd ((h x).1 (List.mem_cons_self ..)) (by simp)
  | x :: a, y :: b, ha, hb, h => by
    rw [List.pairwise_cons] at ha hb
    have hxy : x = y := by
      rcases List.mem_cons.1 ((h x).1 (List.mem_cons_self ..)) with h1 | h1
      · exact h1
      · rcases List.mem_cons.1 ((h y).2 (List.mem_cons_self ..)) with h2 | h2
        · exact h2.symm
        · exact absurd (ha.1 y h2) (lt_gt (hb.1 x h1))
    subst hxy
    have hno : ∀ {l : List SK}, (∀ z ∈ l, cmpLs x.1 z.1 < 0) → x ∉ l := fun hl hx => lt_ne (hl x hx) rfl
    rw [sorted_ext ha.2 hb.2 fun e => ⟨fun he => ?_, fun he => ?_⟩]
    · rcases List.mem_cons.1 ((h e).1 (List.mem_cons_of_mem _ he)) with h1 | h1
      · rw [h1] at he; exact absurd he (hno ha.1)
      · exact h1
    · rcases List.mem_cons.1 ((h e).2 (List.mem_cons_of_mem _ he)) with h1 | h1
      · rw [h1] at he; exact absurd he (hno hb.1)
      · exact h1
/-- lists that tell the same are the same -/
theorem canon_unique {a b : List SK} (ha : Canon a) (hb : Canon b) (h : Eqv a b) : a = b :=
  sorted_ext ha.order hb.order fun _ => ⟨canon_sub ha hb h, canon_sub hb ha h.symm⟩

/-! groupK of a list in order -/
structure Grp (S K : List SK) : Prop where
  order : K.Pairwise fun a b => cmpLs a.1 b.1 < 0
  has : ∀ x ∈ S, ∃ e ∈ K, e.1 = x.1
  from_ : ∀ e ∈ K, ∃ x ∈ S, x.1 = e.1
  smps : ∀ e ∈ K, e.2.1 = smpsOf e.1 S
  wins : ∀ e ∈ K, e.2.2 = winsOf e.1 S
theorem grp_step {S K : List SK} {x : SK} (h : Grp S K) (hle : ∀ y ∈ S, cmpLs y.1 x.1 ≤ 0) : Grp (S ++ [x]) (addK K x) := by
  rcases List.eq_nil_or_concat K with rfl | ⟨M, z, rfl⟩
  · have hS : S = [] := by
      cases S with
      | nil => rfl
      | cons y s =>
        obtain ⟨e, he, _⟩ := h.has y (List.mem_cons_self ..)
        simp at he
    subst hS
    show Grp [x] [x]
    refine ⟨List.pairwise_singleton _ _, by simp, by simp, ?_, ?_⟩
    · intro e he
      rw [List.mem_singleton.1 he, smpsOf_one, if_pos rfl]
    · intro e he
      rw [List.mem_singleton.1 he, winsOf_one, if_pos rfl]
  · rw [List.concat_eq_append] at h ⊢
    have hzM : z ∈ M ++ [z] := List.mem_append_right _ (List.mem_singleton.2 rfl)
    obtain ⟨s, hs, hsz⟩ := h.from_ z hzM
    have hzx := hle s hs
    rw [hsz] at hzx
    have hlast : (M ++ [z]).getLast? = some z := List.getLast?_concat ..
    have hord := h.order
    rw [List.pairwise_append] at hord
    obtain ⟨hM, _, hMz⟩ := hord
    have hMz' : ∀ e ∈ M, cmpLs e.1 z.1 < 0 := fun e he => hMz e he z (List.mem_singleton.2 rfl)
    unfold addK
    rw [hlast]
    by_cases hc : cmpLs z.1 x.1 = 0
    · have hzx' := (cmpLs_zero _ _).1 hc
      simp only [hc, if_true, List.dropLast_concat]
      have hne : ∀ e ∈ M, x.1 ≠ e.1 := fun e he e' => by
        rw [← hzx'] at e'
        exact lt_ne (hMz' e he) e'.symm
      refine ⟨?_, ?_, ?_, ?_, ?_⟩
      · rw [List.pairwise_append]
        exact ⟨hM, List.pairwise_singleton _ _, fun a ha b hb => by rw [List.mem_singleton.1 hb]; exact hMz' a ha⟩
      · intro y hy
        have hy' : ∃ e ∈ M ++ [z], e.1 = y.1 := by
          rcases List.mem_append.1 hy with hy | hy
          · exact h.has y hy
          · rw [List.mem_singleton.1 hy]
            exact ⟨z, hzM, hzx'⟩
        obtain ⟨e, he, hey⟩ := hy'
        rcases List.mem_append.1 he with he | he
        · exact ⟨e, List.mem_append_left _ he, hey⟩
        · rw [List.mem_singleton.1 he] at hey
          exact ⟨_, List.mem_append_right _ (List.mem_singleton.2 rfl), hey⟩
      · intro e he
        rcases List.mem_append.1 he with he | he
        · obtain ⟨y, hy, hye⟩ := h.from_ e (List.mem_append_left _ he)
          exact ⟨y, List.mem_append_left _ hy, hye⟩
        · rw [List.mem_singleton.1 he]
          exact ⟨s, List.mem_append_left _ hs, hsz⟩
      · intro e he
        rw [smpsOf_app, smpsOf_one]
        rcases List.mem_append.1 he with he | he
        · rw [if_neg (hne e he), List.append_nil]
          exact h.smps e (List.mem_append_left _ he)
        · rw [List.mem_singleton.1 he]
          simp only
          rw [if_pos hzx'.symm, ← h.smps z hzM]
      · intro e he
        rw [winsOf_app, winsOf_one]
        rcases List.mem_append.1 he with he | he
        · rw [if_neg (hne e he), List.append_nil]
          exact h.wins e (List.mem_append_left _ he)
        · rw [List.mem_singleton.1 he]
          simp only
          rw [if_pos hzx'.symm, ← h.wins z hzM]
    · have hlt : cmpLs z.1 x.1 < 0 := by omega
      simp only [hc, if_false]
      have hall : ∀ e ∈ M ++ [z], cmpLs e.1 x.1 < 0 := fun e he => by
        rcases List.mem_append.1 he with he | he
        · exact lt_tr (hMz' e he) hlt
        · rw [List.mem_singleton.1 he]; exact hlt
      have hSx : ∀ y ∈ S, y.1 ≠ x.1 := fun y hy e' => by
        obtain ⟨e, he, hey⟩ := h.has y hy
        have := hall e he
        rw [hey, e'] at this
        exact lt_ne this rfl
      obtain ⟨n1, n2⟩ := of_none hSx
      refine ⟨?_, ?_, ?_, ?_, ?_⟩
      · rw [List.pairwise_append]
        exact ⟨h.order, List.pairwise_singleton _ _, fun a ha b hb => by rw [List.mem_singleton.1 hb]; exact hall a ha⟩
      · intro y hy
        rcases List.mem_append.1 hy with hy | hy
        · obtain ⟨e, he, hey⟩ := h.has y hy
          exact ⟨e, List.mem_append_left _ he, hey⟩
        · rw [List.mem_singleton.1 hy]
          exact ⟨x, List.mem_append_right _ (List.mem_singleton.2 rfl), rfl⟩
      · intro e he
        rcases List.mem_append.1 he with he | he
        · obtain ⟨y, hy, hye⟩ := h.from_ e he
          exact ⟨y, List.mem_append_left _ hy, hye⟩
        · rw [List.mem_singleton.1 he]
          exact ⟨x, List.mem_append_right _ (List.mem_singleton.2 rfl), rfl⟩
      · intro e he
        rw [smpsOf_app, smpsOf_one]
        rcases List.mem_append.1 he with he | he
        · rw [if_neg (fun e' => lt_ne (hall e he) e'.symm), List.append_nil]
          exact h.smps e he
        · rw [List.mem_singleton.1 he, if_pos rfl, n1, List.nil_append]
      · intro e he
        rw [winsOf_app, winsOf_one]
        rcases List.mem_append.1 he with he | he
        · rw [if_neg (fun e' => lt_ne (hall e he) e'.symm), List.append_nil]
          exact h.wins e he
        · rw [List.mem_singleton.1 he, if_pos rfl, n2, List.nil_append]
theorem grp_of : ∀ (S : List Ser), (S.Pairwise fun x y => decide (cmpLs y.lab.l x.lab.l < 0) = false) → Grp (S.map Ser.sk) (groupK S) := by
  intro S
  generalize hn : S.length = n
  induction n generalizing S with
  | zero =>
    intro _
    obtain rfl : S = [] := List.eq_nil_of_length_eq_zero hn
    exact ⟨List.Pairwise.nil, by simp, by simp [groupK], by simp [groupK], by simp [groupK]⟩
  | succ n ih =>
    intro h
    rcases List.eq_nil_or_concat S with rfl | ⟨M, x, rfl⟩
    · simp at hn
    · rw [List.concat_eq_append] at h hn ⊢
      rw [List.pairwise_append] at h
      rw [groupK_snoc, List.map_append]
      refine grp_step (ih M (by simpa using hn) h.1) fun y hy => ?_
      obtain ⟨s, hs, rfl⟩ := List.mem_map.1 hy
      have := h.2.2 s hs x (List.mem_singleton.2 rfl)
      have h2 : ¬ cmpLs x.lab.l s.lab.l < 0 := by simpa using this
      have h3 := cmpLs_turn x.lab.l s.lab.l
      show cmpLs s.lab.l x.lab.l ≤ 0
      omega

/-- what merge.Merge leaves is the one list that tells what came in -/
theorem canon_of_merge {all S R : List Ser} (hS : SrtSer.SrtRes (fun x y => decide (cmpLs x.lab.l y.lab.l < 0)) all S) (hR : Onced (groupK S) R) (hlen : ∀ y ∈ R, y.smp.l.length = y.smp.n ∧ y.win.l.length = y.win.n) :
    Canon ((R.filter Go.Proofs.YtbijjjhfekkfaaaGreat.full).map Ser.sk) ∧ Eqv ((R.filter Go.Proofs.YtbijjjhfekkfaaaGreat.full).map Ser.sk) (all.map Ser.sk) := by
  have hg := grp_of S hS.2.1
  -- stable: nothing else at one's labels
  have hst : ∀ k, (S.map Ser.sk).filter (here k) = (all.map Ser.sk).filter (here k) := fun k => by
    rw [List.filter_map, List.filter_map, hS.2.2 (here k ∘ Ser.sk) fun x y hx hy => ?_]
    have h1 := here_eq.1 hx
    have h2 := here_eq.1 hy
    have h3 : x.lab.l = y.lab.l := h1.trans h2.symm
    have := (cmpLs_zero _ _).2 h3
    simp [this]
  have hsm : ∀ k, smpsOf k (S.map Ser.sk) = smpsOf k (all.map Ser.sk) ∧ winsOf k (S.map Ser.sk) = winsOf k (all.map Ser.sk) := fun k => by
    unfold smpsOf winsOf; rw [hst k]; exact ⟨rfl, rfl⟩
  have hfull : ∀ y ∈ R, (Go.Proofs.YtbijjjhfekkfaaaGreat.full y = true ↔ (y.smp.l ≠ [] ∨ y.win.l ≠ [])) := fun y hy => by
    obtain ⟨h1, h2⟩ := hlen y hy
    unfold Go.Proofs.YtbijjjhfekkfaaaGreat.full
    rw [decide_eq_true_eq, ← h1, ← h2]
    cases y.smp.l <;> cases y.win.l <;> simp <;> omega
  have hat : ∀ y ∈ R, ∃ e ∈ groupK S, y.lab.l = e.1 ∧ OncSmp.Once e.2.1 y.smp.l ∧ OncWin.Once e.2.2 y.win.l := fun y hy => by
    obtain ⟨i, hi⟩ := List.getElem?_of_mem hy
    have hil : i < (groupK S).length := by rw [hR.1]; exact (List.getElem?_eq_some_iff.1 hi).1
    obtain ⟨y', h1, h2, h3, h4⟩ := hR.2 i _ (List.getElem?_eq_getElem hil)
    obtain rfl : y' = y := Option.some.inj (h1.symm.trans hi)
    exact ⟨_, List.getElem_mem hil, h2, h3, h4⟩
  have hmem : ∀ e ∈ (R.filter Go.Proofs.YtbijjjhfekkfaaaGreat.full).map Ser.sk, ∃ y ∈ R, Go.Proofs.YtbijjjhfekkfaaaGreat.full y = true ∧ e = y.sk := fun e he => by
    obtain ⟨y, hy, rfl⟩ := List.mem_map.1 he
    exact ⟨y, (List.mem_filter.1 hy).1, (List.mem_filter.1 hy).2, rfl⟩
  have hRord : R.Pairwise fun a b => cmpLs a.lab.l b.lab.l < 0 := by
    rw [List.pairwise_iff_getElem]
    intro i j hi hj hij
    have hil : i < (groupK S).length := by rw [hR.1]; exact hi
    have hjl : j < (groupK S).length := by rw [hR.1]; exact hj
    obtain ⟨y, h1, h2, _⟩ := hR.2 i _ (List.getElem?_eq_getElem hil)
    obtain ⟨z, g1, g2, _⟩ := hR.2 j _ (List.getElem?_eq_getElem hjl)
    obtain rfl : R[i] = y := Option.some.inj ((List.getElem?_eq_getElem hi).symm.trans h1)
    obtain rfl : R[j] = z := Option.some.inj ((List.getElem?_eq_getElem hj).symm.trans g1)
    rw [h2, g2]
    exact (List.pairwise_iff_getElem.1 hg.order) i j hil hjl hij
  have hord : ((R.filter Go.Proofs.YtbijjjhfekkfaaaGreat.full).map Ser.sk).Pairwise fun a b => cmpLs a.1 b.1 < 0 := by
    rw [List.pairwise_map]
    exact hRord.sublist List.filter_sublist
  have hc : Canon ((R.filter Go.Proofs.YtbijjjhfekkfaaaGreat.full).map Ser.sk) := by
    refine ⟨hord, fun e he => ?_, fun e he => ?_, fun e he => ?_⟩
    · obtain ⟨y, hy, _, rfl⟩ := hmem e he
      obtain ⟨_, _, _, h3, _⟩ := hat y hy
      exact h3.1
    · obtain ⟨y, hy, _, rfl⟩ := hmem e he
      obtain ⟨_, _, _, _, h4⟩ := hat y hy
      exact h4.1
    · obtain ⟨y, hy, hf, rfl⟩ := hmem e he
      exact (hfull y hy).1 hf
  refine ⟨hc, fun k t => ?_⟩
  have hsem : ∀ y ∈ R, Go.Proofs.YtbijjjhfekkfaaaGreat.full y = true → y.lab.l = k → semS ((R.filter Go.Proofs.YtbijjjhfekkfaaaGreat.full).map Ser.sk) k t = semS (all.map Ser.sk) k t ∧ semW ((R.filter Go.Proofs.YtbijjjhfekkfaaaGreat.full).map Ser.sk) k t = semW (all.map Ser.sk) k t := fun y hy hf hk => by
    have hy' : y.sk ∈ (R.filter Go.Proofs.YtbijjjhfekkfaaaGreat.full).map Ser.sk := List.mem_map.2 ⟨y, List.mem_filter.2 ⟨hy, hf⟩, rfl⟩
    obtain ⟨e, he, h2, h3, h4⟩ := hat y hy
    have hs := sem_mem hc hy' t
    have hk' : y.sk.1 = k := hk
    rw [hk'] at hs
    rw [hs.1, hs.2]
    unfold semS semW
    rw [← (hsm k).1, ← (hsm k).2, ← hk, h2, ← hg.smps e he, ← hg.wins e he]
    exact ⟨h3.2 t, h4.2 t⟩
  by_cases hex : ∃ y ∈ R, Go.Proofs.YtbijjjhfekkfaaaGreat.full y = true ∧ y.lab.l = k
  · obtain ⟨y, hy, hf, hk⟩ := hex
    exact hsem y hy hf hk
  · obtain ⟨n1, n2⟩ := of_none (k := k) (all := (R.filter Go.Proofs.YtbijjjhfekkfaaaGreat.full).map Ser.sk) fun e he ek => by
      obtain ⟨y, hy, hf, rfl⟩ := hmem e he
      exact hex ⟨y, hy, hf, ek⟩
    have hn : smpsOf k (all.map Ser.sk) = [] ∧ winsOf k (all.map Ser.sk) = [] := by
      rw [← (hsm k).1, ← (hsm k).2]
      by_cases hk : ∃ e ∈ groupK S, e.1 = k
      · obtain ⟨e, he, rfl⟩ := hk
        rw [← hg.smps e he, ← hg.wins e he]
        obtain ⟨i, hi⟩ := List.getElem?_of_mem he
        obtain ⟨y, h1, h2, h3, h4⟩ := hR.2 i e hi
        have hy := List.mem_of_getElem? h1
        have hnf : ¬ (y.smp.l ≠ [] ∨ y.win.l ≠ []) := fun hf => hex ⟨y, hy, (hfull y hy).2 hf, h2⟩
        have e1 : y.smp.l = [] := Classical.byContradiction fun h => hnf (.inl h)
        have e2 : y.win.l = [] := Classical.byContradiction fun h => hnf (.inr h)
        constructor
        · cases hs : e.2.1 with
          | nil => rfl
          | cons x r =>
            have := h3.2 x.t
            rw [e1, hs, List.find?_cons_of_pos (by simp)] at this
            cases this
        · cases hs : e.2.2 with
          | nil => rfl
          | cons x r =>
            have := h4.2 x.start
            rw [e2, hs, List.find?_cons_of_pos (by simp)] at this
            cases this
      · exact of_none fun x hx e' => by
          obtain ⟨e, he, hex'⟩ := hg.has x hx
          exact hk ⟨e, he, hex'.trans e'⟩
    unfold semS semW
    rw [n1, n2, hn.1, hn.2]
    exact ⟨rfl, rfl⟩
end Go.Proofs.YtbijjjhfekkfaaaGreat

namespace Go.Proofs.YtbijjjhfekkfaaaGreat
set_option maxRecDepth 100000
open Go.RowKit

/-- L tells what was put in: P -/
structure RM (P L : List SK) : Prop where
  order : L.Pairwise fun a b => cmpLs a.1 b.1 < 0
  smps : ∀ z ∈ L, OncSmp.Once (smpsOf z.1 P) z.2.1
  wins : ∀ z ∈ L, OncWin.Once (winsOf z.1 P) z.2.2
  cover : ∀ x ∈ P, ∃ z ∈ L, z.1 = x.1
  from_ : ∀ z ∈ L, ∃ x ∈ P, x.1 = z.1
theorem RM.nil : RM [] [] := ⟨List.Pairwise.nil, by simp, by simp, by simp, by simp⟩

theorem onceS_more {A z R : List Smp} {x : Smp} (h : OncSmp.Once A z) (k : OncSmp.Once (z ++ [x]) R) : OncSmp.Once (A ++ [x]) R :=
  ⟨k.1, fun t => by rw [k.2 t, List.find?_append, List.find?_append, h.2 t]⟩
theorem onceW_more {A z R : List Win} {x : Win} (h : OncWin.Once A z) (k : OncWin.Once (z ++ [x]) R) : OncWin.Once (A ++ [x]) R :=
  ⟨k.1, fun t => by rw [k.2 t, List.find?_append, List.find?_append, h.2 t]⟩
theorem set_cases {α : Type} {L : List α} {i : Nat} {a z : α} (h : z ∈ L.set i a) : z = a ∨ ∃ j, j ≠ i ∧ L[j]? = some z := by
  obtain ⟨j, hj⟩ := List.getElem?_of_mem h
  by_cases hji : i = j
  · subst hji
    have hil := (List.getElem?_eq_some_iff.1 hj).1
    rw [List.length_set] at hil
    rw [List.getElem?_set_self hil] at hj
    exact .inl (Option.some.inj hj).symm
  · rw [List.getElem?_set_ne hji] at hj
    exact .inr ⟨j, fun e => hji e.symm, hj⟩
theorem set_mem {α : Type} {L : List α} {i : Nat} {a y z : α} (hy : L[i]? = some y) (hz : z ∈ L) : z = y ∨ z ∈ L.set i a := by
  obtain ⟨j, hj⟩ := List.getElem?_of_mem hz
  by_cases hji : i = j
  · subst hji
    exact .inl (Option.some.inj (hj.symm.trans hy))
  · exact .inr (List.mem_of_getElem? (by rw [List.getElem?_set_ne hji]; exact hj))
theorem order_set {L : List SK} (h : L.Pairwise fun a b => cmpLs a.1 b.1 < 0) {i : Nat} {y a : SK} (hy : L[i]? = some y) (ha : a.1 = y.1) : (L.set i a).Pairwise fun a b => cmpLs a.1 b.1 < 0 := by
  have h1 : (L.map Prod.fst).Pairwise fun a b => cmpLs a b < 0 := List.pairwise_map.2 h
  have h2 : (L.set i a).map Prod.fst = L.map Prod.fst := by
    rw [List.map_set, ha]
    apply List.ext_getElem?
    intro j
    by_cases hj : i = j
    · subst hj
      have hil := (List.getElem?_eq_some_iff.1 hy).1
      rw [List.getElem?_set_self (by rw [List.length_map]; exact hil), List.getElem?_map, hy]; rfl
    · rw [List.getElem?_set_ne hj]
  rw [← h2] at h1
  exact List.pairwise_map.1 h1
theorem order_ne {L : List SK} (h : L.Pairwise fun a b => cmpLs a.1 b.1 < 0) {i j : Nat} {y z : SK} (hy : L[i]? = some y) (hz : L[j]? = some z) (hij : j ≠ i) : z.1 ≠ y.1 := by
  obtain ⟨hi, rfl⟩ := List.getElem?_eq_some_iff.1 hy
  obtain ⟨hj, rfl⟩ := List.getElem?_eq_some_iff.1 hz
  rw [List.pairwise_iff_getElem] at h
  rcases Nat.lt_or_ge i j with hl | hl
  · exact fun e => lt_ne (h i j hi hj hl) e.symm
  · exact lt_ne (h j i hj hi (by omega))

/-- the last one put in -/
def pend (P : List SK) (k : List Lbl) (S : List Smp) (W : List Win) : List SK := P ++ [(k, S, W)]
theorem pend_smps (P : List SK) (k k' : List Lbl) (S : List Smp) (W : List Win) : smpsOf k' (pend P k S W) = smpsOf k' P ++ if k = k' then S else [] := by
  unfold pend; rw [smpsOf_app, smpsOf_one]
theorem pend_wins (P : List SK) (k k' : List Lbl) (S : List Smp) (W : List Win) : winsOf k' (pend P k S W) = winsOf k' P ++ if k = k' then W else [] := by
  unfold pend; rw [winsOf_app, winsOf_one]
theorem pend_cover {P L : List SK} {k : List Lbl} {S S' : List Smp} {W W' : List Win} (h : ∀ x ∈ pend P k S W, ∃ z ∈ L, z.1 = x.1) : ∀ x ∈ pend P k S' W', ∃ z ∈ L, z.1 = x.1 := by
  intro x hx
  rcases List.mem_append.1 hx with hx | hx
  · exact h x (List.mem_append_left _ hx)
  · rw [List.mem_singleton.1 hx]
    exact h (k, S, W) (List.mem_append_right _ (List.mem_singleton.2 rfl))
theorem pend_from {P L : List SK} {k : List Lbl} {S S' : List Smp} {W W' : List Win} (h : ∀ z ∈ L, ∃ x ∈ pend P k S W, x.1 = z.1) : ∀ z ∈ L, ∃ x ∈ pend P k S' W', x.1 = z.1 := by
  intro z hz
  obtain ⟨x, hx, e⟩ := h z hz
  rcases List.mem_append.1 hx with hx | hx
  · exact ⟨x, List.mem_append_left _ hx, e⟩
  · rw [List.mem_singleton.1 hx] at e
    exact ⟨(k, S', W'), List.mem_append_right _ (List.mem_singleton.2 rfl), e⟩
/-- its labels were there -/
theorem RM.found {P L : List SK} (h : RM P L) {k : List Lbl} (hk : ∃ z ∈ L, z.1 = k) : RM (pend P k [] []) L := by
  refine ⟨h.order, fun z hz => ?_, fun z hz => ?_, fun x hx => ?_, fun z hz => ?_⟩
  · rw [pend_smps]
    split <;> (rw [List.append_nil]; exact h.smps z hz)
  · rw [pend_wins]
    split <;> (rw [List.append_nil]; exact h.wins z hz)
  · rcases List.mem_append.1 hx with hx | hx
    · exact h.cover x hx
    · rw [List.mem_singleton.1 hx]; exact hk
  · obtain ⟨x, hx, e⟩ := h.from_ z hz
    exact ⟨x, List.mem_append_left _ hx, e⟩
/-- they were not -/
theorem RM.fresh {P L : List SK} (h : RM P L) {k : List Lbl} {i : Nat} (hk : ∀ z ∈ L, z.1 ≠ k) (hs : (L.take i ++ (k, [], []) :: L.drop i).Pairwise fun a b => cmpLs a.1 b.1 < 0) : RM (pend P k [] []) (L.take i ++ (k, [], []) :: L.drop i) := by
  have hmem : ∀ z, z ∈ L.take i ++ (k, [], []) :: L.drop i ↔ z = (k, [], []) ∨ z ∈ L := fun z => by
    constructor
    · intro hz
      rcases List.mem_append.1 hz with hz | hz
      · exact .inr (List.mem_of_mem_take hz)
      · exact (List.mem_cons.1 hz).imp id List.mem_of_mem_drop
    · rintro (rfl | hz)
      · exact List.mem_append_right _ (List.mem_cons_self ..)
      · rw [← List.take_append_drop i L] at hz
        rcases List.mem_append.1 hz with hz | hz
        · exact List.mem_append_left _ hz
        · exact List.mem_append_right _ (List.mem_cons_of_mem _ hz)
  obtain ⟨n1, n2⟩ := of_none (k := k) (all := P) fun x hx e => by
    obtain ⟨z, hz, hzx⟩ := h.cover x hx
    exact hk z hz (hzx.trans e)
  refine ⟨hs, fun z hz => ?_, fun z hz => ?_, fun x hx => ?_, fun z hz => ?_⟩
  · rw [pend_smps]
    rcases (hmem z).1 hz with rfl | hz
    · rw [n1, if_pos rfl]
      exact ⟨List.Pairwise.nil, fun _ => rfl⟩
    · rw [if_neg (fun e => hk z hz e.symm), List.append_nil]
      exact h.smps z hz
  · rw [pend_wins]
    rcases (hmem z).1 hz with rfl | hz
    · rw [n2, if_pos rfl]
      exact ⟨List.Pairwise.nil, fun _ => rfl⟩
    · rw [if_neg (fun e => hk z hz e.symm), List.append_nil]
      exact h.wins z hz
  · rcases List.mem_append.1 hx with hx | hx
    · obtain ⟨z, hz, e⟩ := h.cover x hx
      exact ⟨z, (hmem z).2 (.inr hz), e⟩
    · rw [List.mem_singleton.1 hx]
      exact ⟨_, (hmem _).2 (.inl rfl), rfl⟩
  · rcases (hmem z).1 hz with rfl | hz
    · exact ⟨_, List.mem_append_right _ (List.mem_singleton.2 rfl), rfl⟩
    · obtain ⟨x, hx, e⟩ := h.from_ z hz
      exact ⟨x, List.mem_append_left _ hx, e⟩
/-- a sample more -/
theorem RM.smp {P L : List SK} {k : List Lbl} {S : List Smp} {W : List Win} {x : Smp} {R : List Smp} {i : Nat} {y : SK} (h : RM (pend P k S W) L) (hy : L[i]? = some y) (hk : y.1 = k) (hR : OncSmp.Once (y.2.1 ++ [x]) R) : RM (pend P k (S ++ [x]) W) (L.set i (k, R, y.2.2)) := by
  have hym := List.mem_of_getElem? hy
  have hS := h.smps y hym
  have hil := (List.getElem?_eq_some_iff.1 hy).1
  refine ⟨order_set h.order hy hk.symm, fun z hz => ?_, fun z hz => ?_, fun u hu => ?_, fun z hz => ?_⟩
  · rcases set_cases hz with rfl | ⟨j, hj, hz'⟩
    · rw [pend_smps, if_pos rfl, ← List.append_assoc]
      rw [hk, pend_smps, if_pos rfl] at hS
      exact onceS_more hS hR
    · have hne := order_ne h.order hy hz' hj
      have h2 := h.smps z (List.mem_of_getElem? hz')
      rw [pend_smps, if_neg (fun e => hne (by rw [hk, e]))] at h2 ⊢
      exact h2
  · rcases set_cases hz with rfl | ⟨j, hj, hz'⟩
    · have h2 := h.wins y hym
      rw [hk] at h2
      rw [pend_wins] at h2 ⊢
      exact h2
    · have h2 := h.wins z (List.mem_of_getElem? hz')
      rw [pend_wins] at h2 ⊢
      exact h2
  · obtain ⟨z, hz, e⟩ := pend_cover h.cover u hu
    rcases set_mem (a := (k, R, y.2.2)) hy hz with rfl | hz
    · exact ⟨_, List.mem_of_getElem? (List.getElem?_set_self hil), by rw [← e, hk]⟩
    · exact ⟨z, hz, e⟩
  · rcases set_cases hz with rfl | ⟨j, hj, hz'⟩
    · exact ⟨_, List.mem_append_right _ (List.mem_singleton.2 rfl), rfl⟩
    · exact pend_from h.from_ z (List.mem_of_getElem? hz')
/-- a window more -/
theorem RM.win {P L : List SK} {k : List Lbl} {S : List Smp} {W : List Win} {x : Win} {R : List Win} {i : Nat} {y : SK} (h : RM (pend P k S W) L) (hy : L[i]? = some y) (hk : y.1 = k) (hR : OncWin.Once (y.2.2 ++ [x]) R) : RM (pend P k S (W ++ [x])) (L.set i (k, y.2.1, R)) := by
  have hym := List.mem_of_getElem? hy
  have hS := h.wins y hym
  have hil := (List.getElem?_eq_some_iff.1 hy).1
  refine ⟨order_set h.order hy hk.symm, fun z hz => ?_, fun z hz => ?_, fun u hu => ?_, fun z hz => ?_⟩
  · rcases set_cases hz with rfl | ⟨j, hj, hz'⟩
    · have h2 := h.smps y hym
      rw [hk] at h2
      rw [pend_smps] at h2 ⊢
      exact h2
    · have h2 := h.smps z (List.mem_of_getElem? hz')
      rw [pend_smps] at h2 ⊢
      exact h2
  · rcases set_cases hz with rfl | ⟨j, hj, hz'⟩
    · rw [pend_wins, if_pos rfl, ← List.append_assoc]
      rw [hk, pend_wins, if_pos rfl] at hS
      exact onceW_more hS hR
    · have hne := order_ne h.order hy hz' hj
      have h2 := h.wins z (List.mem_of_getElem? hz')
      rw [pend_wins, if_neg (fun e => hne (by rw [hk, e]))] at h2 ⊢
      exact h2
  · obtain ⟨z, hz, e⟩ := pend_cover h.cover u hu
    rcases set_mem (a := (k, y.2.1, R)) hy hz with rfl | hz
    · exact ⟨_, List.mem_of_getElem? (List.getElem?_set_self hil), by rw [← e, hk]⟩
    · exact ⟨z, hz, e⟩
  · rcases set_cases hz with rfl | ⟨j, hj, hz'⟩
    · exact ⟨_, List.mem_append_right _ (List.mem_singleton.2 rfl), rfl⟩
    · exact pend_from h.from_ z (List.mem_of_getElem? hz')

/-- those of a list that hold anything -/
def fulls (all : List SK) : List SK := all.filter fun s => !(s.2.1.isEmpty && s.2.2.isEmpty)
theorem fulls_snoc (all : List SK) (x : SK) : fulls (all ++ [x]) = fulls all ++ if x.2.1 = [] ∧ x.2.2 = [] then [] else [x] := by
  unfold fulls
  rw [List.filter_append]
  congr 1
  obtain ⟨k, S, W⟩ := x
  cases S <;> cases W <;> simp
theorem eqv_one_empty (k : List Lbl) : Eqv [(k, [], [])] [] := fun k' t => by
  unfold semS semW
  rw [smpsOf_one, winsOf_one]
  refine ⟨?_, ?_⟩ <;> (split <;> rfl)
theorem eqv_fulls : ∀ all : List SK, Eqv (fulls all) all := by
  intro all
  generalize hn : all.length = n
  induction n generalizing all with
  | zero =>
    obtain rfl := List.eq_nil_of_length_eq_zero hn
    exact Eqv.refl _
  | succ n ih =>
    rcases List.eq_nil_or_concat all with rfl | ⟨M, x, rfl⟩
    · simp at hn
    · rw [List.concat_eq_append] at hn ⊢
      rw [fulls_snoc]
      refine (ih M (by simpa using hn)).app ?_
      split
      · rename_i h
        obtain ⟨k, S, W⟩ := x
        simp only at h
        rw [h.1, h.2]
        exact (eqv_one_empty k).symm
      · exact Eqv.refl _
/-- what was put in, all of it full: the one list that tells it -/
theorem RM.canon {P L : List SK} (h : RM P L) (hf : ∀ x ∈ P, x.2.1 ≠ [] ∨ x.2.2 ≠ []) : Canon L ∧ Eqv L P := by
  have hc : Canon L := by
    refine ⟨h.order, fun e he => (h.smps e he).1, fun e he => (h.wins e he).1, fun e he => ?_⟩
    obtain ⟨x, hx, hxe⟩ := h.from_ e he
    have hsub : x ∈ P.filter (here e.1) := List.mem_filter.2 ⟨hx, here_eq.2 hxe⟩
    rcases hf x hx with hne | hne
    · obtain ⟨u, r, hu⟩ := List.exists_cons_of_ne_nil hne
      have hm : u ∈ smpsOf e.1 P := List.mem_flatMap.2 ⟨x, hsub, by rw [hu]; exact List.mem_cons_self ..⟩
      refine .inl fun e' => ?_
      have := (h.smps e he).2 u.t
      rw [e'] at this
      exact absurd (List.find?_eq_none.1 this.symm u hm) (by simp)
    · obtain ⟨u, r, hu⟩ := List.exists_cons_of_ne_nil hne
      have hm : u ∈ winsOf e.1 P := List.mem_flatMap.2 ⟨x, hsub, by rw [hu]; exact List.mem_cons_self ..⟩
      refine .inr fun e' => ?_
      have := (h.wins e he).2 u.start
      rw [e'] at this
      exact absurd (List.find?_eq_none.1 this.symm u hm) (by simp)
  refine ⟨hc, fun k t => ?_⟩
  by_cases hk : ∃ e ∈ L, e.1 = k
  · obtain ⟨e, he, rfl⟩ := hk
    have hs := sem_mem hc he t
    rw [hs.1, hs.2]
    exact ⟨(h.smps e he).2 t, (h.wins e he).2 t⟩
  · obtain ⟨n1, n2⟩ := of_none (k := k) (all := L) fun e he e' => hk ⟨e, he, e'⟩
    obtain ⟨m1, m2⟩ := of_none (k := k) (all := P) fun x hx e' => by
      obtain ⟨z, hz, e⟩ := h.cover x hx
      exact hk ⟨z, hz, e.trans e'⟩
    unfold semS semW
    rw [n1, n2, m1, m2]
    exact ⟨rfl, rfl⟩
theorem fulls_full (all : List SK) : ∀ x ∈ fulls all, x.2.1 ≠ [] ∨ x.2.2 ≠ [] := by
  intro x hx
  have := (List.mem_filter.1 hx).2
  obtain ⟨k, S, W⟩ := x
  cases S <;> cases W <;> simp_all
end Go.Proofs.YtbijjjhfekkfaaaGreat
