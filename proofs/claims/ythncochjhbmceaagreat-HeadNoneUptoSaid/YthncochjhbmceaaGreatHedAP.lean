/- What a record makes of a head, plainly. No program is walked here. -/
import Derived.Test.YthncochjhbmceaaGreatHedM
namespace Go.Proofs.YthncochjhbmceaaGreat
set_option maxRecDepth 100000

/-- a series, by what it says -/
structure SerP where
  mx : Int
  gone : List Spn
  sm : List Smp
def HsR.p (x : HsR) : SerP := ⟨x.mx, x.gone, x.sm⟩
def serN : SerP := ⟨-1, [], []⟩
def serPut (s : SerP) (p : PntR) : SerP := ⟨p.t, s.gone, s.sm ++ [⟨p.t, p.v⟩]⟩
def putPt (S : List SerP) (p : PntR) : List SerP :=
  match S[p.ref.toNat]? with
  | some s => S.set p.ref.toNat (serPut s p)
  | none => S
def putsP (S : List SerP) (P : List PntR) : List SerP := P.foldl putPt S
theorem putsP_snoc (S : List SerP) (P : List PntR) (p : PntR) : putsP S (P ++ [p]) = putPt (putsP S P) p := by simp [putsP]
theorem putP_some {S : List SerP} {p : PntR} {s : SerP} (h : S[p.ref.toNat]? = some s) : putPt S p = S.set p.ref.toNat (serPut s p) := by
  unfold putPt
  rw [h]
theorem putP_mx (S : List SerP) (p : PntR) : (putPt S p).map SerP.mx = (S.map SerP.mx).set p.ref.toNat p.t := by
  unfold putPt
  split
  · rw [List.map_set]; rfl
  · rename_i h
    rw [List.set_eq_of_length_le]
    have := List.getElem?_eq_none_iff.1 h
    simpa using this
theorem putsP_mx (P : List PntR) : ∀ S : List SerP, (putsP S P).map SerP.mx = afterP (S.map SerP.mx) P := by
  induction P with
  | nil => intro S; rfl
  | cons p P ih =>
    intro S
    show (putsP (putPt S p) P).map SerP.mx = afterP ((S.map SerP.mx).set p.ref.toNat p.t) P
    rw [ih, putP_mx]
theorem putsP_len (P : List PntR) : ∀ S : List SerP, (putsP S P).length = S.length := by
  induction P with
  | nil => intro S; rfl
  | cons p P ih =>
    intro S
    show (putsP (putPt S p) P).length = _
    rw [ih]
    unfold putPt
    split
    · rw [List.length_set]
    · rfl
/-- how many samples -/
def cntP (S : List SerP) : Nat := (S.map fun s => s.sm.length).sum
theorem sum_set_one : ∀ (l : List Nat) (i a : Nat), l[i]? = some a → (l.set i (a + 1)).sum = l.sum + 1
  | [], _, _, h => by cases h
  | x :: l, 0, a, h => by
    obtain rfl : x = a := by simpa using h
    simp only [List.set_cons_zero, List.sum_cons]; omega
  | x :: l, i + 1, a, h => by
    have := sum_set_one l i a (by simpa using h)
    simp only [List.set_cons_succ, List.sum_cons]; omega
theorem cntP_put {S : List SerP} {p : PntR} (h : p.ref.toNat < S.length) : cntP (putPt S p) = cntP S + 1 := by
  rw [putP_some (List.getElem?_eq_getElem h)]
  unfold cntP
  rw [List.map_set]
  have : (serPut S[p.ref.toNat] p).sm.length = S[p.ref.toNat].sm.length + 1 := by simp [serPut]
  rw [this]
  exact sum_set_one _ _ _ (by rw [List.getElem?_map, List.getElem?_eq_getElem h]; rfl)
theorem cntP_puts (P : List PntR) : ∀ S : List SerP, ptsOk (S.map SerP.mx) P → cntP (putsP S P) = cntP S + P.length := by
  induction P with
  | nil => intro S _; rfl
  | cons p P ih =>
    rintro S ⟨⟨_, m, hm, _⟩, hr⟩
    have hl : p.ref.toNat < S.length := by have := (List.getElem?_eq_some_iff.1 hm).1; simpa using this
    rw [← putP_mx] at hr
    show cntP (putsP (putPt S p) P) = _
    rw [ih _ hr, cntP_put hl, List.length_cons]
    omega
theorem cntP_new (S : List SerP) (k : Nat) : cntP (S ++ List.replicate k serN) = cntP S := by
  unfold cntP
  rw [List.map_append, List.sum_append, List.map_replicate]
  simp [serN]
theorem mx_new (S : List SerP) (k : Nat) : (S ++ List.replicate k serN).map SerP.mx = S.map SerP.mx ++ List.replicate k (-1) := by
  rw [List.map_append, List.map_replicate]
  rfl
/-- what a head keeps to that is made of plans -/
structure HInv (S : List SerP) : Prop where
  mx : ∀ s ∈ S, -1 ≤ s.mx ∧ s.mx ≤ 1125899906842624
  gone : ∀ s ∈ S, s.gone = []
  sm : ∀ s ∈ S, ∀ x ∈ s.sm, 0 ≤ x.t ∧ x.t ≤ s.mx ∧ x.v < 18446744073709551616
theorem HInv.nil : HInv [] := ⟨by simp, by simp, by simp⟩
theorem HInv.news {S : List SerP} (h : HInv S) (k : Nat) : HInv (S ++ List.replicate k serN) := by
  have key : ∀ s ∈ S ++ List.replicate k serN, s ∈ S ∨ s = serN := fun s hs => (List.mem_append.1 hs).imp id fun h => (List.mem_replicate.1 h).2
  refine ⟨fun s hs => ?_, fun s hs => ?_, fun s hs => ?_⟩
  all_goals
    rcases key s hs with h1 | rfl
    · first | exact h.mx s h1 | exact h.gone s h1 | exact h.sm s h1
    · simp [serN]
theorem HInv.put {S : List SerP} (h : HInv S) {p : PntR} {s : SerP} (hs : S[p.ref.toNat]? = some s) (hlt : s.mx < p.t) (h0 : 0 ≤ p.t) (h1 : p.t ≤ 1125899906842624) (hv : p.v < 18446744073709551616) : HInv (putPt S p) := by
  rw [putP_some hs]
  have hm := List.mem_of_getElem? hs
  have key : ∀ u ∈ S.set p.ref.toNat (serPut s p), u ∈ S ∨ u = serPut s p := fun u hu => List.mem_or_eq_of_mem_set hu
  refine ⟨fun u hu => ?_, fun u hu => ?_, fun u hu => ?_⟩
  · rcases key u hu with k | rfl
    · exact h.mx u k
    · simp only [serPut]; omega
  · rcases key u hu with k | rfl
    · exact h.gone u k
    · exact h.gone s hm
  · rcases key u hu with k | rfl
    · exact h.sm u k
    · intro x hx
      simp only [serPut] at hx ⊢
      rcases List.mem_append.1 hx with hx | hx
      · have := h.sm s hm x hx
        omega
      · rw [List.mem_singleton.1 hx]
        exact ⟨h0, Int.le_refl _, hv⟩
theorem HInv.puts (P : List PntR) : ∀ S : List SerP, HInv S → ptsOk (S.map SerP.mx) P → (∀ p ∈ P, (0 ≤ p.t ∧ p.t ≤ 1125899906842624) ∧ p.v < 18446744073709551616) → HInv (putsP S P) := by
  induction P with
  | nil => intro S h _ _; exact h
  | cons p P ih =>
    rintro S h ⟨⟨_, m, hm, hlt⟩, hr⟩ hP
    rw [List.getElem?_map] at hm
    obtain ⟨s, hs, rfl⟩ := Option.map_eq_some_iff.1 hm
    obtain ⟨⟨h0, h1⟩, hv⟩ := hP p (by simp)
    rw [← putP_mx] at hr
    exact ih _ (h.put hs hlt h0 h1 hv) hr fun q hq => hP q (List.mem_cons_of_mem _ hq)
/-- a plan that took effect: what the head is then -/
def afterS (S : List SerP) (s : PlanS) : List SerP := putsP (S ++ List.replicate s.N.length serN) s.P
structure TookP (E : List (List Lbl)) (S : List SerP) (xs : List EntP) (s : PlanS) : Prop where
  inv : HInv (afterS S s)
  cnt : cntP (afterS S s) = cntP S + s.P.length
  zip : (E ++ s.N).zip ((afterS S s).map SerP.mx) = s.T
  len : (afterS S s).length = (E ++ s.N).length
theorem took {E : List (List Lbl)} {S : List SerP} (hS : HInv S) (hl : S.length = E.length) (hn : E.Nodup) (xs : List EntP) (hx : ∀ x ∈ xs, x.v < 18446744073709551616) :
    TookP E S xs (planB (E.zip (S.map SerP.mx)) xs) := by
  have h1 : (E.zip (S.map SerP.mx)).map (·.1) = E := List.map_fst_zip (by rw [List.length_map, hl]; exact Nat.le_refl _)
  have h2 : (E.zip (S.map SerP.mx)).map (·.2) = S.map SerP.mx := List.map_snd_zip (by rw [List.length_map, hl]; exact Nat.le_refl _)
  have I := planI (T0 := E.zip (S.map SerP.mx)) (by rw [h1]; exact hn) xs
  generalize planB (E.zip (S.map SerP.mx)) xs = s at I
  have hp := I.pts
  have ha := I.after
  rw [h2, ← mx_new] at hp ha
  refine ⟨HInv.puts _ _ (hS.news _) hp fun p hp => ⟨I.fit p hp, ?_⟩, ?_, ?_, ?_⟩
  · obtain ⟨x, hx1, e⟩ := I.vs p hp
    rw [e]; exact hx x hx1
  · unfold afterS
    rw [cntP_puts _ _ hp, cntP_new]
  · unfold afterS
    rw [putsP_mx, ha]
    have := I.sets
    rw [h1] at this
    rw [← this]
    exact (List.zip_of_prod (l := s.T.map (·.1)) (l' := s.T.map (·.2)) rfl rfl).symm
  · unfold afterS
    rw [putsP_len, List.length_append, List.length_append, List.length_replicate, hl]
end Go.Proofs.YthncochjhbmceaaGreat
