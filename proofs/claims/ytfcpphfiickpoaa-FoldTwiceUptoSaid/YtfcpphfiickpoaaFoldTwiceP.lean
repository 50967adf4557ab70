/- Windows of windows, plainly: the groups of a wider width, once of samples and once of their windows. No program. -/
import Derived.Test.YtfcpphfiickpoaaFoldWidens
import Derived.Test.YtfcpphfiickpoaaFoldWhole
import Derived.Test.YtfcpphfiickpoaaFoldBounds
namespace Go.Proofs.Ytfcpphfiickpoaa
open Go.RowKit

section
variable {α β : Type} (at_ : α → Int) (d : Int)

/-- the groups of what is made of each element -/
theorem groups_map (f : β → α) (l : List β) : groupsOf at_ d (l.map f) = (groupsOf (fun x => at_ (f x)) d l).map (fun g => (g.1, g.2.map f)) := by
  have H : ∀ (l : List β) (s : List (Int × List β) × List β × Int), (l.map f).foldl (grpStep at_ d) (s.1.map (fun g => (g.1, g.2.map f)), s.2.1.map f, s.2.2) =
      (fun s : List (Int × List β) × List β × Int => (s.1.map (fun g => (g.1, g.2.map f)), s.2.1.map f, s.2.2)) (l.foldl (grpStep (fun x => at_ (f x)) d) s) := by
    intro l
    induction l with
    | nil => intro s; rfl
    | cons x l ih =>
      intro s
      rw [List.map_cons, List.foldl_cons, List.foldl_cons, ← ih]
      congr 1
      unfold grpStep
      by_cases h1 : s.2.1 = []
      · simp [h1]
      · have h2 : ¬ s.2.1.map f = [] := by simpa using h1
        simp only [h1, h2, if_false]
        split <;> simp
  have := H l ([], [], 0)
  unfold groupsOf grpScan
  simp only [List.map_nil] at this
  rw [this]
  simp only [List.map_eq_nil_iff]
  split <;> simp

/-- the groups of a list of groups, each whole in one window, are the groups of all their elements -/
theorem groups_join (key : β → Int) (part : β → List α) (G : List β) (h : ∀ g ∈ G, part g ≠ [] ∧ ∀ x ∈ part g, at_ x / d * d = key g / d * d) :
    groupsOf at_ d (G.flatMap part) = (groupsOf key d G).map (fun g => (g.1, g.2.flatMap part)) := by
  suffices H : ∀ G : List β, (∀ g ∈ G, part g ≠ [] ∧ ∀ x ∈ part g, at_ x / d * d = key g / d * d) →
      grpScan at_ d (G.reverse.flatMap part) = ((grpScan key d G.reverse).1.map (fun g => (g.1, g.2.flatMap part)), (grpScan key d G.reverse).2.1.flatMap part, (grpScan key d G.reverse).2.2) ∧
      ((grpScan key d G.reverse).2.1.flatMap part = [] → (grpScan key d G.reverse).2.1 = []) by
    obtain ⟨h1, h2⟩ := H G.reverse (fun g hg => h g (List.mem_reverse.1 hg))
    rw [List.reverse_reverse] at h1 h2
    unfold groupsOf
    rw [h1]
    simp only
    generalize grpScan key d G = s at *
    by_cases hc : s.2.1 = []
    · rw [hc]; simp
    · rw [if_neg (fun h => hc (h2 h)), if_neg hc]; simp
  intro G
  induction G with
  | nil => intro _; exact ⟨rfl, fun _ => rfl⟩
  | cons x G ih =>
    intro hG
    obtain ⟨i1, i2⟩ := ih (fun g hg => hG g (List.mem_cons_of_mem _ hg))
    obtain ⟨p1, p2⟩ := hG x (by simp)
    rw [List.reverse_cons, List.flatMap_append, grpScan_snoc]
    simp only [List.flatMap_cons, List.flatMap_nil, List.append_nil]
    have hA := (grpScan_flat at_ d (G.reverse.flatMap part))
    by_cases hc : (grpScan key d G.reverse).2.1 = []
    · have hb := grp_block at_ d p1 p2 (.inl (show (grpScan at_ d (G.reverse.flatMap part)).2.1 = [] by rw [i1]; simp [hc]))
      rw [hb]
      unfold groupsOf grpStep
      rw [i1]
      simp only [hc, if_true, List.flatMap_nil]
      simp [p1]
    · by_cases hk : key x / d * d = (grpScan key d G.reverse).2.2
      · have hs : grpScan at_ d (G.reverse.flatMap part ++ part x) = (part x).foldl (grpStep at_ d) (grpScan at_ d (G.reverse.flatMap part)) := by simp [grpScan]
        rw [hs, i1, scan_same at_ d _ _ _ _ (fun e => hc (i2 e)) (fun y hy => (p2 y hy).trans hk)]
        unfold grpStep
        simp only [hc, hk, if_false, if_true]
        refine ⟨by simp, fun h => ?_⟩
        simp [p1] at h
      · have hb := grp_block at_ d p1 p2 (.inr (show (grpScan at_ d (G.reverse.flatMap part)).2.2 ≠ key x / d * d by rw [i1]; exact fun e => hk e.symm))
        rw [hb]
        unfold groupsOf grpStep
        rw [i1]
        simp only [hc, hk, if_false]
        rw [if_neg (fun h => hc (i2 h))]
        simp [p1]

/-- the groups of groups, put together, are the groups -/
theorem group_mem {l : List α} {g : Int × List α} (hg : g ∈ groupsOf at_ d l) {x : α} (hx : x ∈ g.2) : x ∈ l := by
  rw [← groups_flat at_ d l]; exact List.mem_flatMap.2 ⟨g, hg, hx⟩
end

/-- each element lies in its group's window -/
theorem groups_in {α : Type} (at_ : α → Int) (d : Int) (l : List α) : ∀ g ∈ groupsOf at_ d l, ∀ x ∈ g.2, at_ x / d * d = g.1 := by
  suffices H : ∀ m : List α, (∀ g ∈ (grpScan at_ d m.reverse).1, ∀ x ∈ g.2, at_ x / d * d = g.1) ∧ ∀ x ∈ (grpScan at_ d m.reverse).2.1, at_ x / d * d = (grpScan at_ d m.reverse).2.2 by
    have := H l.reverse
    rw [List.reverse_reverse] at this
    intro g hg
    unfold groupsOf at hg
    simp only at hg
    split at hg
    · exact this.1 g hg
    · rcases List.mem_append.1 hg with h | h
      · exact this.1 g h
      · simp only [List.mem_singleton] at h
        subst h; exact this.2
  intro m
  induction m with
  | nil => exact ⟨fun g hg => by simp [grpScan] at hg, fun x hx => by simp [grpScan] at hx⟩
  | cons x m ih =>
    rw [List.reverse_cons, grpScan_snoc]
    unfold grpStep
    split
    · exact ⟨ih.1, fun y hy => by simp only [List.mem_singleton] at hy; rw [hy]⟩
    · split
      · rename_i hb
        refine ⟨ih.1, fun y hy => ?_⟩
        rcases List.mem_append.1 hy with h | h
        · exact ih.2 y h
        · simp only [List.mem_singleton] at h
          rw [h]; exact hb
      · refine ⟨fun g hg => ?_, fun y hy => by simp only [List.mem_singleton] at hy; rw [hy]⟩
        rcases List.mem_append.1 hg with h | h
        · exact ih.1 g h
        · simp only [List.mem_singleton] at h
          subst h; exact ih.2

/-- no error at one width, none at another -/
theorem err_same {d D : Int} (l : List Smp) (hd : ¬(d < 1 ∨ 1099511627776 < d)) (hD : ¬(D < 1 ∨ 1099511627776 < D)) : errOf Smp.t (fun _ => 0) d l = errOf Smp.t (fun _ => 0) D l := by
  have : stepErr Smp.t (fun _ => 0) d l = stepErr Smp.t (fun _ => 0) D l := by
    funext k
    unfold stepErr
    cases l[k]? with
    | none => rfl
    | some x =>
      simp only
      by_cases h : x.t < 0 ∨ 1125899906842624 < x.t
      · rw [beginOf_time _ _ hd h, beginOf_time _ _ hD h]
      · rw [beginOf_ok _ _ hd h, beginOf_ok _ _ hD h]
  unfold errOf
  rw [if_neg hd, if_neg hD, this]

theorem begin_wide {d m t : Int} (hd : 1 ≤ d) : t / d * d / (d * m) * (d * m) = t / (d * m) * (d * m) := by
  rw [Int.mul_comm (t / d) d, Int.mul_ediv_mul_of_pos _ _ (by omega), ← Int.ediv_ediv_of_nonneg (by omega)]

/-! ### the least of leasts -/
theorem leastOf_nan (l : List Nat) : nanN (leastOf l).2 = !(leastOf l).1 := by
  obtain ⟨h1, _, h3⟩ := leastOf_mem l
  cases hb : (leastOf l).1
  · rw [h3 hb]; rfl
  · exact (h1 hb).2
theorem greatOf_nan (l : List Nat) : nanN (greatOf l).2 = !(greatOf l).1 := by
  obtain ⟨h1, _, h3⟩ := greatOf_mem l
  cases hb : (greatOf l).1
  · rw [h3 hb]; rfl
  · exact (h1 hb).2

theorem leastOf_app (A B : List Nat) : leastOf (A ++ B) = leastStep (leastOf A) (leastOf B).2 := by
  suffices H : ∀ B : List Nat, leastOf (A ++ B.reverse) = leastStep (leastOf A) (leastOf B.reverse).2 by
    have := H B.reverse
    rwa [List.reverse_reverse] at this
  intro B
  induction B with
  | nil => rw [List.reverse_nil, List.append_nil]; unfold leastStep; rw [if_pos (by decide)]
  | cons x B ih =>
    rw [List.reverse_cons, ← List.append_assoc, leastOf_snoc, leastOf_snoc, ih]
    have hn := leastOf_nan B.reverse
    generalize leastOf A = a
    generalize leastOf B.reverse = b at *
    obtain ⟨a1, a2⟩ := a
    obtain ⟨b1, b2⟩ := b
    simp only at hn
    cases hx : nanN x
    · cases b1
      · simp [leastStep, hx, hn]
      · simp only [leastStep, hx, hn, Bool.not_true, Bool.false_eq_true, if_false, Bool.false_or]
        cases a1
        · simp only [Bool.not_false, Bool.true_or, if_true]
          by_cases h : ordN x < ordN b2 <;> simp [h, hx, hn]
        · simp only [Bool.not_true, Bool.false_or]
          by_cases h1 : ordN b2 < ordN a2 <;> by_cases h2 : ordN x < ordN b2 <;> by_cases h3 : ordN x < ordN a2 <;> simp [h1, h2, h3, hx, hn] <;> omega
    · simp [leastStep, hx]

theorem greatOf_app (A B : List Nat) : greatOf (A ++ B) = greatStep (greatOf A) (greatOf B).2 := by
  suffices H : ∀ B : List Nat, greatOf (A ++ B.reverse) = greatStep (greatOf A) (greatOf B.reverse).2 by
    have := H B.reverse
    rwa [List.reverse_reverse] at this
  intro B
  induction B with
  | nil => rw [List.reverse_nil, List.append_nil]; unfold greatStep; rw [if_pos (by decide)]
  | cons x B ih =>
    rw [List.reverse_cons, ← List.append_assoc, greatOf_snoc, greatOf_snoc, ih]
    have hn := greatOf_nan B.reverse
    generalize greatOf A = a
    generalize greatOf B.reverse = b at *
    obtain ⟨a1, a2⟩ := a
    obtain ⟨b1, b2⟩ := b
    simp only at hn
    cases hx : nanN x
    · cases b1
      · simp [greatStep, hx, hn]
      · simp only [greatStep, hx, hn, Bool.not_true, Bool.false_eq_true, if_false, Bool.false_or]
        cases a1
        · simp only [Bool.not_false, Bool.true_or, if_true]
          by_cases h : ordN b2 < ordN x <;> simp [h, hx, hn]
        · simp only [Bool.not_true, Bool.false_or]
          by_cases h1 : ordN a2 < ordN b2 <;> by_cases h2 : ordN b2 < ordN x <;> by_cases h3 : ordN a2 < ordN x <;> simp [h1, h2, h3, hx, hn] <;> omega
    · simp [greatStep, hx]

theorem least_join {γ : Type} (f : γ → List Nat) (ls : List γ) : leastOf (ls.map fun l => (leastOf (f l)).2) = leastOf (ls.flatMap f) := by
  suffices H : ∀ ls : List γ, leastOf (ls.reverse.map fun l => (leastOf (f l)).2) = leastOf (ls.reverse.flatMap f) by
    have := H ls.reverse
    rwa [List.reverse_reverse] at this
  intro ls
  induction ls with
  | nil => rfl
  | cons x ls ih => rw [List.reverse_cons, List.map_append, List.flatMap_append, List.map_cons, List.map_nil, leastOf_snoc, ih, leastOf_app]; simp
theorem great_join {γ : Type} (f : γ → List Nat) (ls : List γ) : greatOf (ls.map fun l => (greatOf (f l)).2) = greatOf (ls.flatMap f) := by
  suffices H : ∀ ls : List γ, greatOf (ls.reverse.map fun l => (greatOf (f l)).2) = greatOf (ls.reverse.flatMap f) by
    have := H ls.reverse
    rwa [List.reverse_reverse] at this
  intro ls
  induction ls with
  | nil => rfl
  | cons x ls ih => rw [List.reverse_cons, List.map_append, List.flatMap_append, List.map_cons, List.map_nil, greatOf_snoc, ih, greatOf_app]; simp

/-! ### bits of a sum -/
theorem word_lt (s : Bool) (r : Nat) (h : r ≤ 9218868437227405312) : Ieee.double.word s r < 18446744073709551616 := by
  unfold Ieee.Format.word
  rw [dbl_sign]
  cases s
  · simp only [Bool.false_eq_true, if_false]; omega
  · simp only [if_true]; omega
theorem write_lt (d : Ieee.Datum) (h : d.isNaN = false) : Ieee.double.write d < 18446744073709551616 := by
  cases d with
  | number s m e =>
    simp only [Ieee.Format.write, Ieee.Format.nearest]
    split
    · exact word_lt _ _ (Nat.zero_le _)
    · refine word_lt _ _ ?_
      rw [← dbl_inf]
      exact Nat.min_le_right _ _
  | infinity s =>
    simp only [Ieee.Format.write]
    exact word_lt _ _ (by rw [dbl_inf]; exact Nat.le_refl _)
  | nan s f => simp [Ieee.Datum.isNaN] at h
theorem cadd_lt (x y : Nat) : cadd x y < 18446744073709551616 := by
  unfold cadd Ieee.Format.add
  cases hs : (Ieee.double.read x).sum (Ieee.double.read y) with
  | none => simp
  | some d => exact write_lt d (sum_nan hs)
theorem canonN_lt {x : Nat} (h : x < 18446744073709551616) : canonN x < 18446744073709551616 := by
  unfold canonN; split
  · decide
  · exact h
theorem csum_lt {l : List Nat} (h : ∀ x ∈ l, x < 18446744073709551616) : csum l < 18446744073709551616 := by
  cases l with
  | nil => simp [csum]
  | cons x l =>
    unfold csum
    have H : ∀ (l : List Nat) (s : Nat), s < 18446744073709551616 → l.foldl cadd s < 18446744073709551616 := by
      intro l
      induction l with
      | nil => intro s hs; exact hs
      | cons y l ih => intro s _; exact ih _ (cadd_lt s y)
    exact H l _ (canonN_lt (h x (by simp)))

/-! ### windows of windows -/
theorem groups_ne {α : Type} (at_ : α → Int) (d : Int) (l : List α) : ∀ g ∈ groupsOf at_ d l, g.2 ≠ [] := by
  suffices H : ∀ m : List α, ∀ g ∈ (grpScan at_ d m.reverse).1, g.2 ≠ [] by
    have := H l.reverse
    rw [List.reverse_reverse] at this
    intro g hg
    unfold groupsOf at hg
    simp only at hg
    split at hg
    · exact this g hg
    · rename_i hc
      rcases List.mem_append.1 hg with h | h
      · exact this g h
      · simp only [List.mem_singleton] at h
        subst h; exact hc
  intro m
  induction m with
  | nil => intro g hg; simp [grpScan] at hg
  | cons x m ih =>
    rw [List.reverse_cons, grpScan_snoc]
    unfold grpStep
    split
    · exact ih
    · split
      · exact ih
      · rename_i hc _
        intro g hg
        rcases List.mem_append.1 hg with h | h
        · exact ih g h
        · simp only [List.mem_singleton] at h
          subst h; exact hc

theorem smpWin_start (g : Int × List Smp) : (smpWin g).start = g.1 := by
  unfold smpWin refWin; split <;> rfl

theorem wrap64_id {x : Int} (h0 : -9223372036854775808 ≤ x) (h1 : x < 9223372036854775808) : wrap64 x = x := by
  unfold wrap64; omega

theorem lastV_app (A : List Smp) {B : List Smp} (h : B ≠ []) : lastV (A ++ B) = lastV B := by
  obtain ⟨C, x, rfl⟩ : ∃ C x, B = C ++ [x] := ⟨B.dropLast, B.getLast h, (List.dropLast_concat_getLast h).symm⟩
  rw [← List.append_assoc, lastV_snoc, lastV_snoc]

theorem live_smp {gs : List (Int × List Smp)} (hf : ∀ g ∈ gs, g.2 ≠ []) : liveW (gs.map smpWin) = gs.map smpWin := by
  unfold liveW
  rw [List.filter_eq_self]
  intro x hx
  obtain ⟨g, hg, rfl⟩ := List.mem_map.1 hx
  rw [smpWin_of (hf g hg)]
  have : g.2.length ≠ 0 := fun h => hf g hg (List.eq_nil_of_length_eq_zero h)
  simp only [bne_iff_ne, ne_eq]
  omega

theorem cnt_smp {gs : List (Int × List Smp)} (hf : ∀ g ∈ gs, g.2 ≠ []) (hn : (gs.flatMap (·.2)).length < 9223372036854775808) : cntOf (gs.map smpWin) = ((gs.flatMap (·.2)).length : Nat) := by
  unfold cntOf
  rw [live_smp hf]
  have H : ∀ (gs : List (Int × List Smp)) (a : Nat), (∀ g ∈ gs, g.2 ≠ []) → a + (gs.flatMap (·.2)).length < 9223372036854775808 → (gs.map smpWin).foldl (fun a x => wrap64 (a + x.count)) (a : Int) = ((a + (gs.flatMap (·.2)).length : Nat) : Int) := by
    intro gs
    induction gs with
    | nil => intro a _ _; simp
    | cons g gs ih =>
      intro a hf hn
      rw [List.flatMap_cons, List.length_append] at hn ⊢
      rw [List.map_cons, List.foldl_cons, smpWin_of (hf g (by simp))]
      simp only
      rw [wrap64_id (by omega) (by omega), ← Int.natCast_add, ih (a + g.2.length) (fun g hg => hf g (by simp [hg])) (by omega)]
      congr 1; omega
  have := H gs 0 hf (by omega)
  simpa using this

theorem last_smp {gs : List (Int × List Smp)} (hne : gs ≠ []) (hf : ∀ g ∈ gs, g.2 ≠ []) : lastOfW (gs.map smpWin) = lastV (gs.flatMap (·.2)) := by
  unfold lastOfW
  rw [live_smp hf, ← List.dropLast_concat_getLast hne]
  have hl := hf _ (List.getLast_mem hne)
  generalize gs.getLast hne = g at *
  rw [List.map_append, List.flatMap_append]
  simp only [List.map_cons, List.map_nil, List.flatMap_cons, List.flatMap_nil, List.append_nil, List.getLast?_concat]
  rw [lastV_app _ hl, smpWin_of hl]

/-- A window of windows is the window of their samples, but for the sum. -/
theorem twice_win (b : Int) {gs : List (Int × List Smp)} (hne : gs ≠ []) (hf : ∀ g ∈ gs, g.2 ≠ []) (hn : (gs.flatMap (·.2)).length < 9223372036854775808) :
    ∃ s, winWin (b, gs.map smpWin) = { smpWin (b, gs.flatMap (·.2)) with sum := s } := by
  have hflat : gs.flatMap (·.2) ≠ [] := by
    intro h
    rw [List.flatMap_eq_nil_iff] at h
    obtain ⟨g, hg⟩ := List.exists_mem_of_ne_nil _ hne
    exact hf g hg (h g hg)
  have e1 : gs.map (fun g => (smpWin g).min) = gs.map (fun g => (leastOf (vals g.2)).2) := List.map_congr_left fun g hg => by rw [smpWin_of (hf g hg)]
  have e2 : gs.map (fun g => (smpWin g).max) = gs.map (fun g => (greatOf (vals g.2)).2) := List.map_congr_left fun g hg => by rw [smpWin_of (hf g hg)]
  have e3 : gs.flatMap (fun g => vals g.2) = vals (gs.flatMap (·.2)) := by unfold vals; rw [List.map_flatMap]
  refine ⟨csum ((gs.map smpWin).map Win.sum), ?_⟩
  rw [smpWin_of (by exact hflat)]
  unfold winWin mergeWin refWin
  simp only
  rw [live_smp hf, cnt_smp hf hn, last_smp hne hf, if_neg (by simpa using hne)]
  simp only [List.map_map]
  have e4 : leastOf (gs.map (Win.min ∘ smpWin)) = leastOf (vals (gs.flatMap (·.2))) := by rw [← e3, ← least_join]; exact congrArg leastOf e1
  have e5 : greatOf (gs.map (Win.max ∘ smpWin)) = greatOf (vals (gs.flatMap (·.2))) := by rw [← e3, ← great_join]; exact congrArg greatOf e2
  rw [e4, e5]

/-- what the law compares, of each window -/
def AlikeW (x y : Win) : Prop := x.start = y.start ∧ x.count = y.count ∧ x.min = y.min ∧ x.max = y.max ∧ x.last = y.last

theorem twice_law {d m : Int} (hd : 1 ≤ d) (l : List Smp) (hn : l.length < 9223372036854775808) :
    ∃ got want : List Win, (groupsOf Win.start (d * m) ((groupsOf Smp.t d l).map smpWin)).map winWin = got ∧ (groupsOf Smp.t (d * m) l).map smpWin = want ∧ got.length = want.length ∧
      ∀ (k : Nat) (x y : Win), got[k]? = some x → want[k]? = some y → AlikeW x y := by
  have hG : ∀ g ∈ groupsOf Smp.t d l, g.2 ≠ [] ∧ ∀ x ∈ g.2, x.t / (d * m) * (d * m) = g.1 / (d * m) * (d * m) := by
    intro g hg
    refine ⟨groups_ne _ _ _ g hg, fun x hx => ?_⟩
    rw [← groups_in Smp.t d l g hg x hx, begin_wide hd]
  have hfl := groups_flat Smp.t d l
  generalize groupsOf Smp.t d l = G at *
  have h1 : groupsOf Win.start (d * m) (G.map smpWin) = (groupsOf (fun g : Int × List Smp => g.1) (d * m) G).map (fun g => (g.1, g.2.map smpWin)) := by
    rw [groups_map]
    congr 2
    funext g
    exact smpWin_start g
  have h2 : groupsOf Smp.t (d * m) l = (groupsOf (fun g : Int × List Smp => g.1) (d * m) G).map (fun g => (g.1, g.2.flatMap (·.2))) := by
    have := groups_join Smp.t (d * m) (fun g : Int × List Smp => g.1) (fun g => g.2) G hG
    rw [hfl] at this
    exact this
  have hGG := groups_ne (fun g : Int × List Smp => g.1) (d * m) G
  have hmem := fun g hg x hx => group_mem (fun g : Int × List Smp => g.1) (d * m) (l := G) (g := g) hg (x := x) hx
  have hlen : ∀ g ∈ groupsOf (fun g : Int × List Smp => g.1) (d * m) G, (g.2.flatMap (·.2)).length ≤ l.length := by
    intro g hg
    have : g.2.flatMap (·.2) ∈ (groupsOf Smp.t (d * m) l).map (·.2) := by
      rw [h2, List.map_map]
      exact List.mem_map.2 ⟨g, hg, rfl⟩
    obtain ⟨h, hh, he⟩ := List.mem_map.1 this
    rw [← he]
    have := groups_flat Smp.t (d * m) l
    have hle : h.2.length ≤ ((groupsOf Smp.t (d * m) l).flatMap (·.2)).length := by
      obtain ⟨i, hi, rfl⟩ := List.mem_iff_getElem.1 hh
      have h3 := ahead_succ (List.getElem?_eq_getElem hi)
      have h4 := ahead_le (groupsOf Smp.t (d * m) l) (i + 1)
      omega
    rw [this] at hle
    exact hle
  rw [h1, h2]
  generalize groupsOf (fun g : Int × List Smp => g.1) (d * m) G = GG at *
  refine ⟨_, _, rfl, rfl, by simp, fun k x y hx hy => ?_⟩
  simp only [List.map_map, List.getElem?_map] at hx hy
  cases hk : GG[k]? with
  | none => rw [hk] at hx; cases hx
  | some g =>
    have hg := List.mem_of_getElem? hk
    rw [hk] at hx hy
    simp only [Option.map_some, Option.some.injEq, Function.comp_apply] at hx hy
    obtain ⟨s, hs⟩ := twice_win g.1 (hGG g hg) (fun x hx => (hG x (hmem g hg x hx)).1) (Nat.lt_of_le_of_lt (hlen g hg) hn)
    rw [← hx, hs, hy]
    exact ⟨rfl, rfl, rfl, rfl, rfl⟩

theorem smps_ok {d : Int} {l : List Smp} (hok : ∀ s ∈ l, s.ok) (hn : l.length < 9223372036854775808) : ∀ x ∈ (groupsOf Smp.t d l).map smpWin, x.ok := by
  intro x hx
  obtain ⟨g, hg, rfl⟩ := List.mem_map.1 hx
  have hne := groups_ne _ _ _ g hg
  have hv : ∀ y ∈ vals g.2, y < 18446744073709551616 := by
    intro y hy
    obtain ⟨s, hs, rfl⟩ := List.mem_map.1 hy
    exact hok s (group_mem _ _ hg hs)
  have hle : g.2.length ≤ l.length := by
    obtain ⟨i, hi, rfl⟩ := List.mem_iff_getElem.1 hg
    have h3 := ahead_succ (List.getElem?_eq_getElem hi)
    have h4 := ahead_le (groupsOf Smp.t d l) (i + 1)
    rw [groups_flat] at h4
    omega
  rw [smpWin_of hne]
  refine ⟨⟨by simp only; omega, by simp only; omega⟩, csum_lt hv, leastOf_lt hv, greatOf_lt hv, ?_⟩
  obtain ⟨C, z, hz⟩ : ∃ C x, g.2 = C ++ [x] := ⟨g.2.dropLast, g.2.getLast hne, (List.dropLast_concat_getLast hne).symm⟩
  simp only [hz, lastV_snoc]
  exact hv z.v (by unfold vals; rw [hz]; simp)

theorem err_wide {d D : Int} {l : List Smp} (hD : ¬(D < 1 ∨ 1099511627776 < D)) (h : errOf Smp.t (fun _ => 0) d l = 0) : errOf Win.start badWin D ((groupsOf Smp.t d l).map smpWin) = 0 := by
  obtain ⟨hd, herr⟩ := noErr h
  have good := good_groups Smp.t d (by omega) (rising_of hd herr)
  have hvalid : ∀ x ∈ l, 0 ≤ x.t ∧ x.t ≤ 1125899906842624 := by
    intro x hx
    obtain ⟨i, hi, hx⟩ := List.mem_iff_getElem.1 hx
    have := valid_at Smp.t (fun _ => 0) d (herr i hi) (by rw [List.getElem?_eq_getElem hi, hx]) hd
    exact ⟨this.1, this.2.1⟩
  have hfl := groups_flat Smp.t d l
  generalize groupsOf Smp.t d l = G at *
  refine errOf_none Win.start badWin D hD (fun k hk => ?_)
  rw [List.length_map] at hk
  have hgk : G[k]? = some G[k] := List.getElem?_eq_getElem hk
  have hx : (G.map smpWin)[k]? = some (smpWin G[k]) := by rw [List.getElem?_map, hgk]; rfl
  have hs := grp_start (by omega) good hfl hvalid (List.getElem_mem hk)
  have hst := smpWin_start G[k]
  have hb := beginOf_ok (smpWin G[k]).start D hD (by rw [hst]; omega)
  rw [stepErr_eq Win.start badWin D hx hb, if_neg (by decide)]
  have ho : ordB Win.start (G.map smpWin) k (smpWin G[k]).start = false := by
    cases k with
    | zero => rfl
    | succ j =>
      have hgj : G[j]? = some G[j] := List.getElem?_eq_getElem (by omega)
      rw [ordB_succ Win.start (y := smpWin G[j]) (by rw [List.getElem?_map, hgj]; rfl), decide_eq_false_iff_not, hst, smpWin_start]
      have := good.apart j _ _ hgj hgk
      omega
  rw [if_neg (by rw [ho]; decide)]
  have hne := (good.full _ (List.getElem_mem hk)).1
  rw [smpWin_of hne]
  have : G[k].2.length ≠ 0 := fun h => hne (List.eq_nil_of_length_eq_zero h)
  exact if_neg (by simp only; omega)

end Go.Proofs.Ytfcpphfiickpoaa
