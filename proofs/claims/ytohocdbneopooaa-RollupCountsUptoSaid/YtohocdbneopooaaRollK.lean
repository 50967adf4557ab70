/- Rolling up by pieces, and counting, plainly: by what lists of series tell. No condition. Rolling up as the laws see it: lists by what they tell, as they lie. Condition: what comes in is within 1048576. -/
import Derived.Test.YtohocdbneopooaaMrgLawK
import Derived.Test.YtohocdbneopooaaRollWakes
import Derived.Test.YtohocdbneopooaaFoldTwiceP
namespace Go.Proofs.Ytohocdbneopooaa
set_option maxRecDepth 100000
open Go.RowKit

section
variable {α : Type} (at_ : α → Int) (d : Int)
/-- groups of what lies wholly ahead, then of the rest -/
theorem groups_app {A B : List α} {m : Int} (hd : 1 ≤ d) (hm : m / d * d = m) (hA : ∀ x ∈ A, at_ x < m) (hB : ∀ x ∈ B, m ≤ at_ x) : groupsOf at_ d (A ++ B) = groupsOf at_ d A ++ groupsOf at_ d B := by
  have hbg : ∀ x, m ≤ at_ x → m ≤ at_ x / d * d := fun x hx => by
    have h1 : m / d ≤ at_ x / d := Int.ediv_le_ediv (by omega) hx
    have h2 := Int.mul_le_mul_of_nonneg_right h1 (show 0 ≤ d by omega)
    omega
  have hcur : (grpScan at_ d A).2.1 ≠ [] → (grpScan at_ d A).2.2 < m := fun hc => by
    obtain ⟨x, hx⟩ := List.exists_mem_of_ne_nil _ hc
    have hg : ((grpScan at_ d A).2.2, (grpScan at_ d A).2.1) ∈ groupsOf at_ d A := by
      unfold groupsOf
      simp only
      rw [if_neg hc]
      exact List.mem_append_right _ (List.mem_singleton.2 rfl)
    have h1 := groups_in at_ d A _ hg x hx
    have h2 := hA x (group_mem at_ d hg hx)
    have h3 := Int.ediv_mul_le (at_ x) (show d ≠ 0 by omega)
    simp only at h1
    omega
  have hAll : allGrps (grpScan at_ d A) = groupsOf at_ d A := rfl
  have H : ∀ B : List α, (∀ x ∈ B, m ≤ at_ x) → B ≠ [] → ((grpScan at_ d (A ++ B.reverse)).1 = groupsOf at_ d A ++ (grpScan at_ d B.reverse).1 ∧ (grpScan at_ d (A ++ B.reverse)).2 = (grpScan at_ d B.reverse).2 ∧ (grpScan at_ d B.reverse).2.1 ≠ []) := by
    intro B
    induction B with
    | nil => intro _ h; exact absurd rfl h
    | cons x B ih =>
      intro hB _
      have hx := hB x (List.mem_cons_self ..)
      rw [List.reverse_cons, ← List.append_assoc, grpScan_snoc, grpScan_snoc]
      by_cases hBn : B = []
      · subst hBn
        rw [List.reverse_nil, List.append_nil]
        rw [← hAll]
        have h0 : grpStep at_ d (grpScan at_ d []) x = ([], [x], at_ x / d * d) := rfl
        rw [h0]
        have hx' := hbg x hx
        unfold grpStep allGrps
        by_cases hc : (grpScan at_ d A).2.1 = []
        · rw [if_pos hc, if_pos hc]; simp
        · have := hcur hc
          rw [if_neg hc, if_neg hc, if_neg (by omega)]; simp
      · obtain ⟨i1, i2, i3⟩ := ih (fun y hy => hB y (List.mem_cons_of_mem _ hy)) hBn
        generalize grpScan at_ d (A ++ B.reverse) = s at *
        generalize grpScan at_ d B.reverse = s0 at *
        unfold grpStep
        rw [i2, if_neg i3, if_neg i3]
        split
        · rw [i1]; simp
        · rw [i1]; simp
  by_cases hBn : B = []
  · subst hBn
    rw [List.append_nil]
    show _ = groupsOf at_ d A ++ []
    rw [List.append_nil]
  · obtain ⟨h1, h2, h3⟩ := H B.reverse (fun x hx => hB x (List.mem_reverse.1 hx)) (fun h => hBn (List.reverse_eq_nil_iff.1 h))
    rw [List.reverse_reverse] at h1 h2 h3
    conv => lhs; unfold groupsOf
    simp only
    rw [h2, if_neg h3, h1]
    conv => rhs; rhs; unfold groupsOf
    simp only
    rw [if_neg h3, List.append_assoc]
end

/-- one series rolled up, by what it tells -/
def roll1 (d f t : Int) (s : SK) : SK := (s.1, [], (groupsOf Smp.t d (inRange Smp.t f t s.2.1)).map smpWin)
def rollW1 (d f t : Int) (s : SK) : SK := (s.1, [], (groupsOf Win.start d (inRange Win.start f t s.2.2)).map winWin)
def rollSK (d f t : Int) (K : List SK) : List SK := fulls (K.map (roll1 d f t))
def rollWSK (d f t : Int) (K : List SK) : List SK := fulls (K.map (rollW1 d f t))
def rowSK (r : List Lbl × List Win) : SK := (r.1, [], r.2)
theorem rollGo_ok {α : Type} (item : Ser → List α) (at_ : α → Int) (bad : α → Int) (wn : Int × List α → Win) (d f t : Int) : ∀ (ss : List Ser) (out : List (List Lbl × List Win)), (∀ x ∈ ss, errOf at_ bad d (inRange at_ f t (item x)) = 0) →
    rollGo item at_ bad wn d f t ss out = (out ++ (ss.map fun x => (x.lab.l, (groupsOf at_ d (inRange at_ f t (item x))).map wn)).filter (fun r => !r.2.isEmpty), 0)
  | [], out, _ => by simp [rollGo]
  | x :: ss, out, h => by
    have hx := h x (List.mem_cons_self ..)
    have ih := fun o => rollGo_ok item at_ bad wn d f t ss o fun y hy => h y (List.mem_cons_of_mem _ hy)
    rw [rollGo, if_pos hx, ih, List.map_cons, List.filter_cons]
    by_cases hg : groupsOf at_ d (inRange at_ f t (item x)) = []
    · simp [hg]
    · simp [hg]
theorem rows_sk {α : Type} (X : List α) (g : α → List Lbl × List Win) : ((X.map g).filter (fun r => !r.2.isEmpty)).map rowSK = fulls (X.map fun x => rowSK (g x)) := by
  unfold fulls
  rw [show (X.map fun x => rowSK (g x)) = (X.map g).map rowSK by rw [List.map_map]; rfl]
  generalize X.map g = Y
  rw [List.filter_map]
  congr 1
theorem rollAllS_ok {d f t : Int} {ss : List Ser} (h0 : errOf Smp.t (fun _ => 0) d [] = 0) (h : ∀ x ∈ ss, errOf Smp.t (fun _ => 0) d (inRange Smp.t f t x.smp.l) = 0) : (rollAllS d f t ss).2 = 0 ∧ (rollAllS d f t ss).1.map rowSK = rollSK d f t (ss.map Ser.sk) := by
  have e : rollAllS d f t ss = rollGo (fun x => x.smp.l) Smp.t (fun _ => 0) smpWin d f t ss [] := if_pos h0
  rw [e, rollGo_ok _ _ _ _ d f t ss [] h]
  refine ⟨rfl, ?_⟩
  rw [List.nil_append, rows_sk, rollSK, List.map_map]
  rfl
theorem rollAllW_ok {d f t : Int} {ss : List Ser} (h0 : errOf Win.start badWin d [] = 0) (h : ∀ x ∈ ss, errOf Win.start badWin d (inRange Win.start f t x.win.l) = 0) : (rollAllW d f t ss).2 = 0 ∧ (rollAllW d f t ss).1.map rowSK = rollWSK d f t (ss.map Ser.sk) := by
  have e : rollAllW d f t ss = rollGo (fun x => x.win.l) Win.start badWin winWin d f t ss [] := if_pos h0
  rw [e, rollGo_ok _ _ _ _ d f t ss [] h]
  refine ⟨rfl, ?_⟩
  rw [List.nil_append, rows_sk, rollWSK, List.map_map]
  rfl
theorem Shows.sks {L : List Ser} {R : List (List Lbl × List Win)} (h : Shows L R) : L.map Ser.sk = R.map rowSK := by
  rw [← h.eq, List.map_map]
  refine List.map_congr_left fun y hy => ?_
  show (y.lab.l, y.smp.l, y.win.l) = (y.lab.l, [], y.win.l)
  rw [h.no y hy]
theorem err_nil {d : Int} (hd : ¬(d < 1 ∨ 1099511627776 < d)) : errOf Smp.t (fun _ => 0) d [] = 0 := errOf_none _ _ _ hd fun j hj => absurd hj (by simp)
theorem errW_nil {d : Int} (hd : ¬(d < 1 ∨ 1099511627776 < d)) : errOf Win.start badWin d [] = 0 := errOf_none _ _ _ hd fun j hj => absurd hj (by simp)
/-- samples in order, within the times: no error -/
theorem err_ok {d : Int} {l : List Smp} (hd : ¬(d < 1 ∨ 1099511627776 < d)) (hs : l.Pairwise fun x y => x.t < y.t) (hv : ∀ x ∈ l, 0 ≤ x.t ∧ x.t ≤ 1125899906842624) : errOf Smp.t (fun _ => 0) d l = 0 := by
  refine errOf_none _ _ _ hd fun k hk => ?_
  have hx : l[k]? = some l[k] := List.getElem?_eq_getElem hk
  have h1 := hv l[k] (List.getElem_mem hk)
  rw [stepErr_eq Smp.t (fun _ => 0) d hx (beginOf_ok _ _ hd (by omega)), if_neg (by decide)]
  have ho : ordB Smp.t l k l[k].t = false := by
    cases k with
    | zero => rfl
    | succ j =>
      have hj : j < l.length := by omega
      rw [ordB_succ Smp.t (List.getElem?_eq_getElem hj), decide_eq_false_iff_not]
      have := (List.pairwise_iff_getElem.1 hs) j (j + 1) hj hk (by omega)
      omega
  rw [if_neg (by rw [ho]; decide)]

/-! what a merged list tells is from what was merged -/
theorem eqv_smp {W A : List SK} (hc : Canon W) (h : Eqv W A) {e : SK} (he : e ∈ W) {x : Smp} (hx : x ∈ e.2.1) : ∃ s ∈ A, x ∈ s.2.1 := by
  have hp := hc.smps e he
  have hf : e.2.1.find? (fun y => y.t == x.t) = some x := by
    obtain ⟨i, hi, rfl⟩ := List.getElem_of_mem hx
    rw [List.find?_eq_some_iff_getElem]
    refine ⟨by simp, i, hi, rfl, fun j hj => ?_⟩
    have := (List.pairwise_iff_getElem.1 hp) j i (by omega) hi hj
    simp only [Bool.not_eq_true', beq_eq_false_iff_ne]
    omega
  have h1 := (sem_mem hc he x.t).1
  rw [hf, (h _ _).1] at h1
  have := List.mem_of_find?_eq_some h1
  obtain ⟨s, hs, hxs⟩ := List.mem_flatMap.1 this
  exact ⟨s, (List.mem_filter.1 hs).1, hxs⟩
theorem eqv_win {W A : List SK} (hc : Canon W) (h : Eqv W A) {e : SK} (he : e ∈ W) {x : Win} (hx : x ∈ e.2.2) : ∃ s ∈ A, x ∈ s.2.2 := by
  have hp := hc.wins e he
  have hf : e.2.2.find? (fun y => y.start == x.start) = some x := by
    obtain ⟨i, hi, rfl⟩ := List.getElem_of_mem hx
    rw [List.find?_eq_some_iff_getElem]
    refine ⟨by simp, i, hi, rfl, fun j hj => ?_⟩
    have := (List.pairwise_iff_getElem.1 hp) j i (by omega) hi hj
    simp only [Bool.not_eq_true', beq_eq_false_iff_ne]
    omega
  have h1 := (sem_mem hc he x.start).2
  rw [hf, (h _ _).2] at h1
  have := List.mem_of_find?_eq_some h1
  obtain ⟨s, hs, hxs⟩ := List.mem_flatMap.1 this
  exact ⟨s, (List.mem_filter.1 hs).1, hxs⟩
/-- all sample times between -/
def Times (b : Int) (K : List SK) : Prop := ∀ e ∈ K, ∀ x ∈ e.2.1, 0 ≤ x.t ∧ x.t ≤ b
theorem times_clip {b : Int} (l : List SK) : Times b (clipSK 0 b l) := fun e he x hx => by
  obtain ⟨s, _, rfl⟩ := List.mem_map.1 (List.mem_filter.1 he).1
  have := (List.mem_filter.1 hx).2
  unfold inR at this
  simp only [Bool.and_eq_true, decide_eq_true_eq] at this
  exact this
theorem times_eqv {b : Int} {W A : List SK} (hc : Canon W) (h : Eqv W A) (hA : Times b A) : Times b W := fun e he x hx => by
  obtain ⟨s, hs, hxs⟩ := eqv_smp hc h he hx
  exact hA s hs x hxs

/-! pieces -/
theorem roll1_keys (d f t : Int) {K : List SK} (h : K.Pairwise fun a b => cmpLs a.1 b.1 < 0) : (K.map (roll1 d f t)).Pairwise fun a b => cmpLs a.1 b.1 < 0 := List.pairwise_map.2 h
theorem roll_of (d f t : Int) {K : List SK} (h : K.Pairwise fun a b => cmpLs a.1 b.1 < 0) (k : List Lbl) : smpsOf k (K.map (roll1 d f t)) = [] ∧ ((∃ e ∈ K, e.1 = k ∧ winsOf k (K.map (roll1 d f t)) = (groupsOf Smp.t d (inRange Smp.t f t e.2.1)).map smpWin) ∨ ((∀ e ∈ K, e.1 ≠ k) ∧ winsOf k (K.map (roll1 d f t)) = [])) := by
  have hp := roll1_keys d f t h
  by_cases hk : ∃ e ∈ K, e.1 = k
  · obtain ⟨e, he, rfl⟩ := hk
    have hm : roll1 d f t e ∈ K.map (roll1 d f t) := List.mem_map_of_mem he
    obtain ⟨h1, h2⟩ := of_mem hp hm
    exact ⟨h1, .inl ⟨e, he, rfl, h2⟩⟩
  · obtain ⟨h1, h2⟩ := of_none (k := k) (all := K.map (roll1 d f t)) fun x hx e => by
      obtain ⟨s, hs, rfl⟩ := List.mem_map.1 hx
      exact hk ⟨s, hs, e⟩
    exact ⟨h1, .inr ⟨fun e he e' => hk ⟨e, he, e'⟩, h2⟩⟩
theorem inRange_split {f m t : Int} {l : List Smp} (hs : l.Pairwise fun x y => x.t < y.t) (h1 : f ≤ m) (h2 : m ≤ t) : inRange Smp.t f t l = inRange Smp.t f m l ++ inRange Smp.t m t l := by
  induction l with
  | nil => rfl
  | cons x l ih =>
    rw [List.pairwise_cons] at hs
    have ih := ih hs.2
    unfold inRange at *
    rw [List.filter_cons, List.filter_cons, List.filter_cons]
    by_cases hm : x.t < m
    · have e2 : (decide (m ≤ x.t) && decide (x.t < t)) = false := by simp; omega
      rw [e2]
      by_cases hf : f ≤ x.t
      · have e1 : (decide (f ≤ x.t) && decide (x.t < t)) = true := by simp; omega
        have e3 : (decide (f ≤ x.t) && decide (x.t < m)) = true := by simp; omega
        rw [e1, e3, ih]; rfl
      · have e1 : (decide (f ≤ x.t) && decide (x.t < t)) = false := by simp; omega
        have e3 : (decide (f ≤ x.t) && decide (x.t < m)) = false := by simp; omega
        rw [e1, e3, ih]; rfl
    · have e3 : (decide (f ≤ x.t) && decide (x.t < m)) = false := by simp; omega
      have hno : l.filter (fun y => decide (f ≤ y.t) && decide (y.t < m)) = [] := by
        rw [List.filter_eq_nil_iff]
        intro y hy
        have := hs.1 y hy
        simp; omega
      rw [e3, ih, hno]
      have e4 : (decide (f ≤ x.t) && decide (x.t < t)) = (decide (m ≤ x.t) && decide (x.t < t)) := by
        rw [show decide (f ≤ x.t) = true by simp; omega, show decide (m ≤ x.t) = true by simp; omega]
      rw [e4]
      split <;> rfl
theorem pieces_eqv {d m T : Int} (hd : 1 ≤ d) (hm : m / d * d = m) (h0 : 0 ≤ m) (hT : m ≤ T) {K : List SK} (hc : Canon K) : Eqv (rollSK d 0 m K ++ rollSK d m T K) (rollSK d 0 T K) := by
  refine ((eqv_fulls _).app (eqv_fulls _)).trans (Eqv.trans ?_ (eqv_fulls _).symm)
  intro k t
  unfold semS semW
  rw [smpsOf_app, winsOf_app]
  obtain ⟨a1, a2⟩ := roll_of d 0 m hc.order k
  obtain ⟨b1, b2⟩ := roll_of d m T hc.order k
  obtain ⟨c1, c2⟩ := roll_of d 0 T hc.order k
  rw [a1, b1, c1]
  refine ⟨rfl, ?_⟩
  rcases c2 with ⟨e, he, rfl, c2⟩ | ⟨hn, c2⟩
  · rcases a2 with ⟨e2, he2, hk2, a2⟩ | ⟨hn, _⟩
    · rcases b2 with ⟨e3, he3, hk3, b2⟩ | ⟨hn, _⟩
      · have u : ∀ e' ∈ K, e'.1 = e.1 → e'.2.1 = e.2.1 := fun e' he' hk => by
          rw [← (of_mem hc.order he').1, ← (of_mem hc.order he).1, hk]
        rw [a2, b2, c2, u e2 he2 hk2, u e3 he3 hk3, ← List.map_append, inRange_split (hc.smps e he) h0 hT]
        congr 2
        refine (groups_app Smp.t d hd hm (fun x hx => ?_) (fun x hx => ?_)).symm
        · have := (List.mem_filter.1 hx).2
          simp only [Bool.and_eq_true, decide_eq_true_eq] at this
          exact this.2
        · have := (List.mem_filter.1 hx).2
          simp only [Bool.and_eq_true, decide_eq_true_eq] at this
          exact this.1
      · exact absurd rfl (hn e he)
    · exact absurd rfl (hn e he)
  · rcases a2 with ⟨e2, he2, hk2, _⟩ | ⟨_, a2⟩
    · exact absurd hk2 (hn e2 he2)
    · rcases b2 with ⟨e3, he3, hk3, _⟩ | ⟨_, b2⟩
      · exact absurd hk3 (hn e3 he3)
      · rw [a2, b2, c2]; rfl

/-! counts -/
def wcnt (l : List Win) : Int := (l.map Win.count).sum
def ccnt (K : List SK) : Int := (K.map fun s => wcnt s.2.2).sum
def slen (K : List SK) : Nat := (K.map fun s => s.2.1.length).sum
theorem wcnt_smps (G : List (Int × List Smp)) (h : ∀ g ∈ G, g.2 ≠ []) : wcnt (G.map smpWin) = ((G.flatMap (·.2)).length : Nat) := by
  induction G with
  | nil => rfl
  | cons g G ih =>
    have ih := ih fun x hx => h x (List.mem_cons_of_mem _ hx)
    unfold wcnt at *
    rw [List.map_cons, List.map_cons, List.sum_cons, ih, smpWin_of (h g (List.mem_cons_self ..)), List.flatMap_cons, List.length_append]
    simp only; omega
theorem wcnt_smp (d : Int) (l : List Smp) : wcnt ((groupsOf Smp.t d l).map smpWin) = (l.length : Nat) := by
  rw [wcnt_smps _ (groups_ne _ _ _), groups_flat]
theorem wcnt_twice {d m : Int} (hd : 1 ≤ d) (l : List Smp) (hn : l.length < 9223372036854775808) : wcnt ((groupsOf Win.start (d * m) ((groupsOf Smp.t d l).map smpWin)).map winWin) = (l.length : Nat) := by
  obtain ⟨got, want, h1, h2, h3, h4⟩ := twice_law (m := m) hd l hn
  rw [← wcnt_smp (d * m) l, h1, h2]
  unfold wcnt
  congr 1
  apply List.ext_getElem?
  intro k
  rw [List.getElem?_map, List.getElem?_map]
  rcases Nat.lt_or_ge k got.length with hk | hk
  · have hk' : k < want.length := by omega
    rw [List.getElem?_eq_getElem hk, List.getElem?_eq_getElem hk', Option.map_some, Option.map_some, (h4 k _ _ (List.getElem?_eq_getElem hk) (List.getElem?_eq_getElem hk')).2.1]
  · rw [List.getElem?_eq_none hk, List.getElem?_eq_none (by omega)]
theorem ccnt_cons (s : SK) (K : List SK) : ccnt (s :: K) = wcnt s.2.2 + ccnt K := by simp [ccnt]
theorem ccnt_fulls : ∀ K : List SK, ccnt (fulls K) = ccnt K
  | [] => rfl
  | s :: K => by
    have ih := ccnt_fulls K
    unfold fulls at *
    rw [List.filter_cons, ccnt_cons]
    split
    · rw [ccnt_cons, ih]
    · rename_i h
      obtain ⟨k, S, W⟩ := s
      have : W = [] := by cases S <;> cases W <;> simp_all
      subst this
      rw [ih]; simp [wcnt]
theorem inRange_all {α : Type} (at_ : α → Int) {f t : Int} {l : List α} (h : ∀ x ∈ l, f ≤ at_ x ∧ at_ x < t) : inRange at_ f t l = l := by
  unfold inRange
  rw [List.filter_eq_self]
  intro x hx
  have := h x hx
  simp; omega
theorem groups_nil {α : Type} (at_ : α → Int) (d : Int) {l : List α} (h : groupsOf at_ d l = []) : l = [] := by
  have := groups_flat at_ d l
  rw [h] at this
  exact this.symm
theorem fine_cnt {d b T : Int} (hT : b < T) : ∀ {K : List SK}, Times b K → ccnt (rollSK d 0 T K) = (slen K : Nat) := by
  intro K h
  unfold rollSK
  rw [ccnt_fulls]
  induction K with
  | nil => rfl
  | cons s K ih =>
    have ih := ih fun e he => h e (List.mem_cons_of_mem _ he)
    have hs := h s (List.mem_cons_self ..)
    rw [List.map_cons, ccnt_cons, ih]
    have : inRange Smp.t 0 T s.2.1 = s.2.1 := inRange_all _ fun x hx => by have := hs x hx; omega
    unfold roll1
    simp only
    rw [this, wcnt_smp]
    simp [slen]
theorem win_times {d b : Int} (hd : 1 ≤ d) {l : List Smp} (h : ∀ x ∈ l, 0 ≤ x.t ∧ x.t ≤ b) : ∀ x ∈ (groupsOf Smp.t d l).map smpWin, 0 ≤ x.start ∧ x.start ≤ b := by
  intro x hx
  obtain ⟨g, hg, rfl⟩ := List.mem_map.1 hx
  rw [smpWin_start]
  obtain ⟨y, hy⟩ := List.exists_mem_of_ne_nil _ (groups_ne _ _ _ g hg)
  have h1 := h y (group_mem _ _ hg hy)
  rw [← groups_in _ _ _ g hg y hy]
  exact ⟨Int.mul_nonneg (Int.ediv_nonneg h1.1 (by omega)) (by omega), by have := Int.ediv_mul_le y.t (show d ≠ 0 by omega); omega⟩
theorem coarse_cnt {d m b T : Int} (hd : 1 ≤ d) (hT : b < T) {K : List SK} (h : Times b K) (hn : ∀ e ∈ K, e.2.1.length < 9223372036854775808) : ccnt (rollWSK (d * m) 0 T (rollSK d 0 T K)) = (slen K : Nat) ∧ (rollWSK (d * m) 0 T (rollSK d 0 T K)).length = (rollSK d 0 T K).length := by
  have e1 : ∀ s ∈ K, inRange Smp.t 0 T s.2.1 = s.2.1 := fun s hs => inRange_all _ fun x hx => by have := h s hs x hx; omega
  have e2 : ∀ s ∈ K, inRange Win.start 0 T ((groupsOf Smp.t d s.2.1).map smpWin) = (groupsOf Smp.t d s.2.1).map smpWin := fun s hs => inRange_all _ fun x hx => by have := win_times hd (h s hs) x hx; omega
  constructor
  · unfold rollWSK rollSK
    rw [ccnt_fulls]
    clear e1 e2
    induction K with
    | nil => rfl
    | cons s K ih =>
      have ih := ih (fun e he => h e (List.mem_cons_of_mem _ he)) (fun e he => hn e (List.mem_cons_of_mem _ he))
      have hs := h s (List.mem_cons_self ..)
      have e1 : inRange Smp.t 0 T s.2.1 = s.2.1 := inRange_all _ fun x hx => by have := hs x hx; omega
      have e2 : inRange Win.start 0 T ((groupsOf Smp.t d s.2.1).map smpWin) = (groupsOf Smp.t d s.2.1).map smpWin := inRange_all _ fun x hx => by have := win_times hd hs x hx; omega
      have e3 := wcnt_twice (m := m) hd s.2.1 (hn s (List.mem_cons_self ..))
      have e4 : slen (s :: K) = s.2.1.length + slen K := by simp [slen]
      have e5 : roll1 d 0 T s = (s.1, [], (groupsOf Smp.t d s.2.1).map smpWin) := by unfold roll1; rw [e1]
      rw [List.map_cons]
      unfold fulls at *
      rw [List.filter_cons]
      split
      · rw [List.map_cons, ccnt_cons, ih, e4, e5]
        unfold rollW1
        simp only
        rw [e2, e3]
        omega
      · rename_i hf
        rw [ih, e4]
        rw [e5] at hf
        have : (groupsOf Smp.t d s.2.1).map smpWin = [] := by simpa using hf
        rw [this] at e3
        have h0 : ((s.2.1.length : Nat) : Int) = 0 := e3.symm
        omega
  · unfold rollWSK
    have : fulls ((rollSK d 0 T K).map (rollW1 (d * m) 0 T)) = (rollSK d 0 T K).map (rollW1 (d * m) 0 T) := by
      unfold fulls
      rw [List.filter_eq_self]
      intro x hx
      obtain ⟨y, hy, rfl⟩ := List.mem_map.1 hx
      have hf := fulls_full _ y hy
      obtain ⟨s, hs, rfl⟩ := List.mem_map.1 (List.mem_filter.1 hy).1
      have hw : (groupsOf Smp.t d s.2.1).map smpWin ≠ [] := by
        have := hf.resolve_left (fun h => h rfl)
        unfold roll1 at this
        simp only at this
        rw [e1 s hs] at this
        exact this
      unfold roll1 rollW1
      simp only [List.isEmpty_nil, Bool.true_and]
      rw [e1 s hs, e2 s hs]
      have : groupsOf Win.start (d * m) ((groupsOf Smp.t d s.2.1).map smpWin) ≠ [] := fun h0 => hw (groups_nil _ _ h0)
      simpa using this
    rw [this, List.length_map]
theorem ssum_roll (d f t : Int) (K : List SK) : MR.ssum (rollSK d f t K) ≤ slen K := by
  refine Nat.le_trans (MR.ssum_fulls _) ?_
  induction K with
  | nil => exact Nat.le_refl _
  | cons x l ih =>
    have e : ∀ (x : SK) (l : List SK), MR.ssum (x :: l) = x.2.1.length + x.2.2.length + MR.ssum l := fun x l => by simp [MR.ssum]
    have e2 : slen (x :: l) = x.2.1.length + slen l := by simp [slen]
    rw [List.map_cons, e, e2]
    have h1 := grp_count Smp.t d (inRange Smp.t f t x.2.1)
    have h2 := inRange_le Smp.t f t x.2.1
    unfold roll1 at *
    simp only [List.length_map, List.length_nil]
    omega
theorem slen_le (K : List SK) : slen K ≤ MR.ssum K := by
  induction K with
  | nil => exact Nat.le_refl _
  | cons x l ih =>
    have e : MR.ssum (x :: l) = x.2.1.length + x.2.2.length + MR.ssum l := by simp [MR.ssum]
    have e2 : slen (x :: l) = x.2.1.length + slen l := by simp [slen]
    omega
end Go.Proofs.Ytohocdbneopooaa

namespace Go.Proofs.Ytohocdbneopooaa
set_option maxRecDepth 100000
open Go.RowKit

/-- numbers in their ranges -/
def OkS (K : List SK) : Prop := ∀ e ∈ K, (∀ x ∈ e.2.1, x.ok ∧ -9223372036854775808 ≤ x.t ∧ x.t < 9223372036854775808) ∧ ∀ x ∈ e.2.2, x.ok2
theorem oks_of {b : Nat} {l : List Ser} (h : ∀ x ∈ l, x.Ok b) : OkS (l.map Ser.sk) := fun s hs => by
  obtain ⟨x, hx, rfl⟩ := List.mem_map.1 hs
  exact ⟨(h x hx).smps, (h x hx).wins⟩
theorem oks_clip {a b : Int} {l : List SK} (h : OkS l) : OkS (clipSK a b l) := fun e he => by
  obtain ⟨s, hs, rfl⟩ := List.mem_map.1 (List.mem_filter.1 he).1
  exact ⟨fun x hx => (h s hs).1 x (List.mem_filter.1 hx).1, fun x hx => (h s hs).2 x (List.mem_filter.1 hx).1⟩
theorem oks_eqv {W A : List SK} (hc : Canon W) (h : Eqv W A) (hA : OkS A) : OkS W := fun e he => by
  refine ⟨fun x hx => ?_, fun x hx => ?_⟩
  · obtain ⟨s, hs, hxs⟩ := eqv_smp hc h he hx
    exact (hA s hs).1 x hxs
  · obtain ⟨s, hs, hxs⟩ := eqv_win hc h he hx
    exact (hA s hs).2 x hxs
theorem wsum_mem {l : List Ser} {x : Ser} (h : x ∈ l) : x.smp.n + x.win.n ≤ wsum l := by
  induction l with
  | nil => simp at h
  | cons y l ih =>
    have e : wsum (y :: l) = y.smp.n + y.win.n + wsum l := by simp [wsum]
    rcases List.mem_cons.1 h with rfl | h
    · omega
    · have := ih h; omega
theorem ok_of {w : World} {s : Sl Ser} (h : SS w s) (hk : OkS (s.l.map Ser.sk)) (hw : wsum s.l ≤ 1048576) : ∀ x ∈ s.l, x.Ok 1048576 := fun x hx => by
  have h1 := hk x.sk (List.mem_map_of_mem hx)
  have h2 := h.1.small x hx
  have h3 := wsum_mem hx
  exact ⟨h1.1, h1.2, by simp only [reachBytes]; omega, by simp only [reachBytes]; omega, by simp only [reachBytes]; omega, by omega, by omega, by omega⟩
/-- what a call leaves -/
def KRes (K : List SK) (m : Nat) (w : World) (v : Value → Value) (e : Ending) (w' : World) : Prop :=
  ∃ s : Sl Ser, e = .returned (v (.slice s.A s.n s.c)) ∧ SS w' s ∧ s.l.map Ser.sk = K ∧ Below w.heap.size w w' ∧ s.n ≤ m
def withOk (v : Value) : Value := .tuple #[v, .int .i64 0]
theorem ss_of_roll {w : World} {base : Nat} {v : Value} {R : List (List Lbl × List Win)} {L : List Ser} (h : RollAt w base 46 v R L) (hs : ∀ r ∈ R, r.1.length ≤ 1048576 ∧ r.2.length ≤ 1048576) (hn : R.length ≤ 1048576) :
    ∃ s : Sl Ser, v = .slice s.A s.n s.c ∧ SS w s ∧ s.l.map Ser.sk = R.map rowSK ∧ s.n = R.length := by
  obtain ⟨h1, h2, h3, h4⟩ := h
  obtain ⟨A, c, rfl, hc, hr⟩ := own_shape h1
  refine ⟨⟨A, R.length, c, L⟩, rfl, ⟨⟨hr, h2.len, h3, fun x hx => ?_, by show R.length ≤ _; omega⟩, hc⟩, h2.sks, rfl⟩
  have hm : (x.lab.l, x.win.l) ∈ R := by rw [← h2.eq]; exact List.mem_map.2 ⟨x, hx, rfl⟩
  have g := hs _ hm
  have ha := h3 x hx
  have e1 := ha.lab.2.1
  have e2 := ha.smp.2.1
  have e3 := ha.win.2.1
  rw [h2.no x hx] at e2
  simp only [List.length_nil] at e2 g
  omega
theorem fineK_law (d f t : Int) (s : Sl Ser) (w : World) (h : SS w s) (hok : ∀ x ∈ s.l, x.Ok 1048576) (hn : s.n ≤ 1048576) (hd : ¬(d < 1 ∨ 1099511627776 < d)) (he : ∀ x ∈ s.l, errOf Smp.t (fun _ => 0) d (inRange Smp.t f t x.smp.l) = 0) :
    Calls Try.prog 15 #[.int .i64 d, .int .i64 f, .int .i64 t, .slice s.A s.n s.c] w (KRes (rollSK d f t (s.l.map Ser.sk)) s.n w withOk) := by
  obtain ⟨e0, ek⟩ := rollAllS_ok (f := f) (t := t) (err_nil hd) he
  refine (fine_any d f t s.A s.n s.c s.l w h.1.row h.1.len hn h.1.at_ hok).mono ?_
  rintro e w' ⟨v, L, rfl, hA, hb⟩
  have hsm : (∀ r ∈ (rollAllS d f t s.l).1, r.1.length ≤ 1048576 ∧ r.2.length ≤ 1048576) ∧ (rollAllS d f t s.l).1.length ≤ s.l.length :=
    rollAll_small _ _ _ _ _ _ _ 1048576 s.l fun x hx => ⟨by have := (h.1.at_ x hx).lab.2.1; have := (hok x hx).few; omega, by have := (h.1.at_ x hx).smp.2.1; have := (hok x hx).few; omega⟩
  rw [h.1.len] at hsm
  obtain ⟨r, rfl, h1, h2, h3⟩ := ss_of_roll hA hsm.1 (by omega)
  exact ⟨r, by rw [e0]; rfl, h1, h2.trans ek, hb, by omega⟩
theorem coarseK_law (d f t : Int) (s : Sl Ser) (w : World) (h : SS w s) (hok : ∀ x ∈ s.l, x.Ok 1048576) (hn : s.n ≤ 1048576) (hd : ¬(d < 1 ∨ 1099511627776 < d)) (he : ∀ x ∈ s.l, errOf Win.start badWin d (inRange Win.start f t x.win.l) = 0) :
    Calls Try.prog 19 #[.int .i64 d, .int .i64 f, .int .i64 t, .slice s.A s.n s.c] w (KRes (rollWSK d f t (s.l.map Ser.sk)) s.n w withOk) := by
  obtain ⟨e0, ek⟩ := rollAllW_ok (f := f) (t := t) (errW_nil hd) he
  refine (coarse_any d f t s.A s.n s.c s.l w h.1.row h.1.len hn h.1.at_ hok).mono ?_
  rintro e w' ⟨v, L, rfl, hA, hb⟩
  have hsm : (∀ r ∈ (rollAllW d f t s.l).1, r.1.length ≤ 1048576 ∧ r.2.length ≤ 1048576) ∧ (rollAllW d f t s.l).1.length ≤ s.l.length :=
    rollAll_small _ _ _ _ _ _ _ 1048576 s.l fun x hx => ⟨by have := (h.1.at_ x hx).lab.2.1; have := (hok x hx).few; omega, by have := (h.1.at_ x hx).win.2.1; have := (hok x hx).few; omega⟩
  rw [h.1.len] at hsm
  obtain ⟨r, rfl, h1, h2, h3⟩ := ss_of_roll hA hsm.1 (by omega)
  exact ⟨r, by rw [e0]; rfl, h1, h2.trans ek, hb, by omega⟩
theorem ref24_law (s : Sl Ser) (w : World) (h : SS w s) : Calls Try.prog 14 #[.slice s.A s.n s.c] w fun e w' =>
    ∃ (B : Option Addr) (m c : Nat) (M : List Ser), e = .returned (.slice B m c) ∧ SL w' B m M ∧ M.map Ser.sk = s.l.map Ser.sk ∧ Below w.heap.size w w' := by
  refine (seriesRef24_any s.A s.n s.c s.l w h.1.row h.1.len (by have := h.1.few; omega) h.1.at_ h.1.fit).mono ?_
  rintro e w' ⟨v, L, rfl, ho, hs, hb⟩
  have hsk := hs.sks
  have hl := hs.len
  obtain ⟨A', c', rfl, _, hr⟩ := own_shape ho
  refine ⟨A', s.n, c', L, rfl, ⟨hr, by rw [hs.len, h.1.len], hs.at_, fun x hx => ?_, h.1.few⟩, hsk, hb⟩
  obtain ⟨i, hi⟩ := List.getElem?_of_mem hx
  have hi' : i < s.l.length := by rw [← hl]; exact (List.getElem?_eq_some_iff.1 hi).1
  have hsm := hs.same i _ _ (List.getElem?_eq_getElem hi') hi
  have hy := List.getElem_mem hi'
  generalize s.l[i] = y at *
  have ha := hs.at_ x hx
  have hy2 := h.1.at_ y hy
  have hz := h.1.small y hy
  have s1 : x.lab.n = y.lab.n := by rw [← ha.lab.2.1, ← hy2.lab.2.1, hsm.lab]
  have s2 : x.smp.n = y.smp.n := by rw [← ha.smp.2.1, ← hy2.smp.2.1, hsm.smp]
  have s3 : x.win.n = y.win.n := by rw [← ha.win.2.1, ← hy2.win.2.1, hsm.win]
  omega
theorem series_law (A B : Option Addr) (n m c c2 : Nat) (L M : List Ser) (w : World) (h : SL w A n L) (k : SL w B m M) (hs : L.map Ser.sk = M.map Ser.sk) :
    Calls Try.prog 18 #[.slice A n c, .slice B m c2] w fun e w' => e = .returned (.bool true) ∧ ∃ q, w' = w.drewN q := by
  have hlm : n = m := by rw [← k.len, ← h.len]; exact len_of_sk hs
  subst hlm
  exact rseries_yes A B n c c2 L M w w.heap.size w.heap.size h.row k.row h.len k.len (by have := h.few; omega) h.at_ k.at_ (same_of_sk hs) (fun x hx => by have := h.small x hx; omega)
end Go.Proofs.Ytohocdbneopooaa
