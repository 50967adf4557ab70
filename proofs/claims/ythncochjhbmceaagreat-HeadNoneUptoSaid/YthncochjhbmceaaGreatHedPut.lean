/- A plan's record, and Apply of it. Condition: the head is one that plans made, the plan is its own. -/
import Derived.Test.YthncochjhbmceaaGreatHedApp
namespace Go.Proofs.YthncochjhbmceaaGreat
set_option maxRecDepth 100000
open Go.RowKit

/-- a plan's record, as it lies -/
structure RecPl (w : World) (base : Nat) (E : List (List Lbl)) (s : PlanS) (r : RecR) : Prop where
  own : RecO w base r
  news : r.news.l.map (fun x => x.lab.l) = s.N
  newsN : r.news.n = s.N.length
  refs : ∀ (i : Nat) (x : NewQ), r.news.l[i]? = some x → x.ref = ((E.length + i : Nat) : Int)
  pts : r.pts.l = s.P
  ptsN : r.pts.n = s.P.length
  gones : r.gones.l = []
theorem RecPl.turn {w w' : World} {base b : Nat} {E : List (List Lbl)} {s : PlanS} {r : RecR} {ts : List TypeId} {mp : Bool} (h : RecPl w base E s r) (t : Turn b ts mp w w') (h1 : 113 ∉ ts) (h2 : 115 ∉ ts) (h3 : 118 ∉ ts) (h4 : 70 ∉ ts) : RecPl w' base E s r :=
  ⟨h.own.turn t h1 h2 h3 h4 (.inr h.gones), h.news, h.newsN, h.refs, h.pts, h.ptsN, h.gones⟩
theorem lbT_of_own {w : World} {base : Nat} {A : Option Addr} {n c : Nat} {l : List Lbl} (h : w.ownsRow base 70 2 (.slice A n c) n (l.flatMap Lbl.cells)) (hl : l.length = n) (hv : validP l) : LbT w A n l := by
  obtain ⟨k1, k2⟩ := valid_small hv
  obtain ⟨A', c', e, _, hr⟩ := own_shape h
  simp only [Value.slice.injEq, true_and] at e
  obtain ⟨rfl, rfl⟩ := e
  refine ⟨⟨hr, hl, by omega, fun x hx => by have := k2 x hx; omega⟩, fun h0 g o e => ?_⟩
  rcases h.2 with ⟨e1, _⟩ | ⟨g', cap, cur, e1, _, h3, _⟩
  · simp only [Value.slice.injEq] at e1
    rw [e1.1] at e; cases e
  · simp only [Value.slice.injEq] at e1
    rw [e1.1] at e
    cases e
    exact ⟨cur, h3⟩
theorem planRec {w0 w : World} {E : List (List Lbl)} {X : List HsR} {xs : List EntR} {nv pv : Value} {L : List NewQ} {s : PlanS} (hn : NewsO w w0.heap.size E.length nv s.N L) (hp : w.ownsRow w0.heap.size 115 3 pv s.P.length (s.P.flatMap PntR.cells))
    (I : PlanI (T0 E X) (xs.map EntR.p) s) (hl : X.length = E.length) (hE : E.length + xs.length ≤ 1048576) (hx : ∀ x ∈ xs, x.v < 18446744073709551616) : ∃ r : RecR, r.val = .agg #[nv, pv, .slice none 0 0] ∧ RecPl w w0.heap.size E s r := by
  obtain ⟨An, cn, rfl, hcn, hrn⟩ := own_shape hn.row
  obtain ⟨Ap, cp, rfl, hcp, hrp⟩ := own_shape hp
  have hNl : L.length = s.N.length := by have := congrArg List.length hn.sets; simpa using this
  have hPl : s.P.length ≤ xs.length := by
    have h1 := I.count
    have h2 := List.countP_le_length (p := fun v : Int => v == 0) (l := s.V)
    have h3 := I.len
    rw [List.length_map] at h3
    omega
  have hfew := I.few
  have hval : ∀ x ∈ L, validP x.lab.l := fun x hx => I.val _ (by rw [← hn.sets]; exact List.mem_map.2 ⟨x, hx, rfl⟩)
  have hlbt : ∀ x ∈ L, LbT w x.lab.A x.lab.n x.lab.l ∧ x.lab.n ≤ x.lab.c := fun x hx => by
    obtain ⟨h1, h2⟩ := hn.labs x hx
    obtain ⟨xr, ⟨lA, lN, lC, ll⟩⟩ := x
    refine ⟨lbT_of_own h1 h2 (hval _ hx), ?_⟩
    obtain ⟨A', c', e, hc, _⟩ := own_shape h1
    simp only [Sl.val, Value.slice.injEq, true_and] at e
    rw [e.2]; exact hc
  have href : ∀ p ∈ s.P, (0 ≤ p.ref ∧ p.ref ≤ 1099511627776) ∧ (0 ≤ p.t ∧ p.t ≤ 1125899906842624) ∧ p.v < 18446744073709551616 := fun p hp => by
    obtain ⟨i, hi⟩ := List.mem_iff_getElem?.1 hp
    obtain ⟨h0, m, hm, _⟩ := ptsOk_at I.pts hi
    have h1 := (List.getElem?_eq_some_iff.1 hm).1
    rw [afterP_len, List.length_append, List.length_map, List.length_replicate] at h1
    have h2 : (T0 E X).length ≤ E.length := by unfold T0; rw [List.length_zip]; omega
    obtain ⟨y, hy, e⟩ := I.vs p hp
    obtain ⟨x, hx1, rfl⟩ := List.mem_map.1 hy
    refine ⟨⟨h0, by omega⟩, I.fit p hp, ?_⟩
    rw [e]; exact hx x hx1
  refine ⟨⟨⟨An, L.length, cn, L⟩, ⟨Ap, s.P.length, cp, s.P⟩, ⟨none, 0, 0, []⟩⟩, rfl, ⟨⟨⟨hcn, rfl, hrn⟩, fun x hx => ⟨(hlbt x hx).1.f, (hlbt x hx).2⟩, fun x hx => ?_, ⟨hcp, rfl, hrp⟩, fun x hx => ?_, ⟨Nat.le_refl _, rfl, Row.nil⟩, by simp, by simp, ?_⟩, hn.row, fun x hx => (hlbt x hx).1, hp, World.ownsRow_nil _ _ _ _, by simp⟩, hn.sets, hNl, hn.refs, rfl, rfl, rfl⟩
  · obtain ⟨i, hi⟩ := List.mem_iff_getElem?.1 hx
    have h1 := hn.refs i x hi
    have h2 : i < L.length := (List.getElem?_eq_some_iff.1 hi).1
    omega
  · have := href x hx
    omega
  · simp only [List.map_nil, List.sum_nil]
    omega
/-- a plan's record fits, if it takes any -/
theorem planFits {w : World} {base : Nat} {E : List (List Lbl)} {X : List HsR} {xs : List EntR} {s : PlanS} {r : RecR} (hr : RecPl w base E s r) (I : PlanI (T0 E X) (xs.map EntR.p) s) (hl : X.length = E.length) (hE : E.length + xs.length ≤ 1048576) (hne : s.P ≠ []) : FitsH E (X.map HsR.mx) r := by
  have h1 : (T0 E X).map (·.1) = E := by unfold T0; exact List.map_fst_zip (by rw [List.length_map, hl]; exact Nat.le_refl _)
  have h2 : (T0 E X).map (·.2) = X.map HsR.mx := by unfold T0; exact List.map_snd_zip (by rw [List.length_map, hl]; exact Nat.le_refl _)
  have hfew := I.few
  have hPl : s.P.length ≤ xs.length := by
    have h1 := I.count
    have h2 := List.countP_le_length (p := fun v : Int => v == 0) (l := s.V)
    have h3 := I.len
    rw [List.length_map] at h3
    omega
  have hp := I.pts
  rw [h2, ← hr.newsN] at hp
  have hnl : r.news.l.length = s.N.length := by have := congrArg List.length hr.news; simpa using this
  refine ⟨⟨fun x hx => ?_, fun x hx => ?_, fun x hx => ?_, ?_⟩, hr.refs, ?_, by rw [hr.pts]; exact hp, fun x hx => ?_⟩
  · obtain ⟨i, hi⟩ := List.mem_iff_getElem?.1 hx
    have h1 := hr.refs i x hi
    have h2 := (List.getElem?_eq_some_iff.1 hi).1
    refine ⟨⟨by omega, by omega⟩, I.val _ (by rw [← hr.news]; exact List.mem_map.2 ⟨x, hx, rfl⟩)⟩
  · rw [hr.pts] at hx
    obtain ⟨i, hi⟩ := List.mem_iff_getElem?.1 hx
    obtain ⟨h0, m, hm, _⟩ := ptsOk_at I.pts hi
    have h1 := (List.getElem?_eq_some_iff.1 hm).1
    rw [afterP_len, List.length_append, List.length_map, List.length_replicate] at h1
    have h2 : (T0 E X).length ≤ E.length := by unfold T0; rw [List.length_zip]; omega
    exact ⟨⟨h0, by omega⟩, I.fit x hx⟩
  · rw [hr.gones] at hx; cases hx
  · have : 0 < s.P.length := by rcases hs : s.P with _ | ⟨a, l⟩; exact absurd hs hne; simp
    rw [hr.ptsN]; omega
  · rw [hr.news, ← h1, ← I.sets]; exact I.nodup
  · rw [hr.gones] at hx; cases hx
theorem t0_of (E : List (List Lbl)) (X : List HsR) : T0 E X = E.zip ((X.map HsR.p).map SerP.mx) := by
  unfold T0
  rw [List.map_map]
  rfl
theorem plan_few {T : List (List Lbl × Int)} {xs : List EntP} {s : PlanS} (I : PlanI T xs s) : s.P.length ≤ xs.length := by
  have h1 := I.count
  have h2 := List.countP_le_length (p := fun v : Int => v == 0) (l := s.V)
  have h3 := I.len
  omega
/-- Apply of a plan's record -/
theorem apply_plan (w : World) {base bo h : Nat} {E : List (List Lbl)} {X : List HsR} (hh : Hed w base h E X) (hbase : base ≤ w.heap.size) {xs : List EntR} {s : PlanS} (r : RecR) (hr : RecPl w bo E s r) (I : PlanI (T0 E X) (xs.map EntR.p) s) (hE : E.length + xs.length ≤ 1048576) (hC : cntP (X.map HsR.p) + xs.length ≤ 1048576) :
    Calls Tryz.prog 9 #[.pointer (some ⟨h, 0, none⟩), r.val] w fun e w' => ∃ X', e = .returned (.int .i64 (if s.P.length = 0 then 150 else 0)) ∧ Hed w' base h (E ++ s.N) X' ∧ X'.map HsR.p = afterS (X.map HsR.p) s ∧ Turn base appT true w w' := by
  have hXE : X.length = E.length := by obtain ⟨_, _, k⟩ := hh; exact k.len
  have hfew := I.few
  have hPl := plan_few I
  rw [List.length_map] at hPl
  by_cases hz : s.P.length = 0
  · have hN : s.N = [] := List.eq_nil_of_length_eq_zero (by omega)
    have hP : s.P = [] := List.eq_nil_of_length_eq_zero hz
    have hno : ¬ fitRec r := fun hf => by
      have h4 := hf.2.2.2
      have h5 := hr.own.at_.gones.2.1
      rw [hr.gones] at h5
      have h6 := hr.newsN
      have h7 := hr.ptsN
      rw [List.length_nil] at h5
      rw [hN, List.length_nil] at h6
      omega
    refine (hed_apply_no h r w hr.own.at_ hno).mono ?_
    rintro e w' ⟨rfl, hb⟩
    refine ⟨X, by rw [if_pos hz], ?_, ?_, Turn.of_below hb _ _ _⟩
    · rw [hN, List.append_nil]; exact hh.below hb
    · unfold afterS
      rw [hN, hP]
      simp [putsP]
  · have hf := planFits hr I hXE hE (fun e => hz (by rw [e]; rfl))
    refine (hed_apply w hh hbase r hr.own hf hr.gones (by rw [hr.newsN]; omega) (by rw [hr.ptsN]; omega)).mono ?_
    rintro e w' ⟨rfl, X', h1, h2, h3⟩
    rw [hr.news] at h1
    refine ⟨X', by rw [if_neg hz], h1, ?_, h3⟩
    rw [h2, hr.newsN, hr.pts]
    rfl
end Go.Proofs.YthncochjhbmceaaGreat
