/- What the stable sort leaves is sorted, equals as they stood. No condition. No program in this text. -/
import Derived.Test.YtohocdbneopooaaStable
namespace Go.Proofs.Ytohocdbneopooaa
open Go.Sort
variable {α : Type} [Inhabited α] {lt R : α → α → Bool}

theorem insInner_perm (lt : α → α → Bool) (a i : Nat) : ∀ (j : Nat) (d : Array α), a ≤ j → j ≤ i → i < d.size → PermIn a (i + 1) d (insInner lt a j d)
  | 0, d, _, _, _ => permIn_refl _ _ _
  | j + 1, d, h1, h2, h3 => by
    rw [insInner]
    split
    · rename_i hc
      simp only [Bool.and_eq_true, decide_eq_true_eq] at hc
      exact permIn_trans _ _ _ _ _ (swp_permIn d a (i + 1) (j + 1) j h1 (by omega) (by omega) (by omega) (by omega)) (insInner_perm lt a i j _ (by omega) (by omega) (by rw [size_swp]; exact h3))
    · exact permIn_refl _ _ _

theorem insInner_congr (a : Nat) : ∀ (j : Nat) (d : Array α), j < d.size → (∀ p, a ≤ p → p < j → lt d[j]! d[p]! = R d[j]! d[p]!) → insInner lt a j d = insInner R a j d
  | 0, d, _, _ => rfl
  | j + 1, d, hs, h => by
    rw [insInner, insInner]
    by_cases ha : j + 1 > a
    · rw [h j (by omega) (by omega)]
      have g := swp_get d hs (show j < d.size by omega)
      rw [insInner_congr a j (swp d (j + 1) j) (by rw [size_swp]; omega) fun p hp hpj => by
        rw [g, g, if_pos rfl, if_neg (by omega), if_neg (by omega)]
        exact h p hp (by omega)]
    · have : decide (j + 1 > a) = false := decide_eq_false ha
      rw [this]
      simp

theorem insOuter_congr (a b : Nat) : ∀ (r i : Nat) (d : Array α), b - i = r → a ≤ i → b ≤ d.size → (∀ j p, i ≤ j → j < b → a ≤ p → p < j → lt d[j]! d[p]! = R d[j]! d[p]!) → insOuter lt a b i d = insOuter R a b i d
  | 0, i, d, hr, _, _, _ => by
    conv => rhs; rw [insOuter, if_neg (by omega)]
    rw [insOuter, if_neg (by omega)]
  | r + 1, i, d, hr, hai, hb, h => by
    conv => rhs; rw [insOuter, if_pos (by omega)]
    rw [insOuter, if_pos (by omega), insInner_congr a i d (by omega) fun p hp hpi => h i p (Nat.le_refl _) (by omega) hp hpi]
    have hp := insInner_perm R a i i d hai (Nat.le_refl _) (by omega)
    refine insOuter_congr a b r (i + 1) _ (by omega) (by omega) (by rw [hp.1]; exact hb) fun j p hj hjb hap hpj => ?_
    rw [hp.2.1 j (.inr (by omega))]
    by_cases hpi : p < i + 1
    · exact permIn_all d _ a (i + 1) (fun x => lt d[j]! x = R d[j]! x) (by omega) hp (fun q hq hqi => h j q (by omega) hjb hq (by omega)) p hap hpi
    · rw [hp.2.1 p (.inr (by omega))]
      exact h j p (by omega) hjb hap hpj

theorem insertion_ok (hR : SWO R) (d : Array α) (a b : Nat) (hab : a ≤ b) (hb : b ≤ d.size) (h : ∀ j p, j < b → a ≤ p → p < j → lt d[j]! d[p]! = R d[j]! d[p]!) :
    PermIn a b d (insertionSort lt d a b) ∧ SortedIn R a b (insertionSort lt d a b) := by
  have e : insertionSort lt d a b = insertionSort R d a b := insOuter_congr a b _ (a + 1) d rfl (by omega) hb fun j p _ hjb hap hpj => h j p hjb hap hpj
  rw [e]
  exact insertionSort_holds hR d a b hab hb

/-- what a stage of blocks of B leaves, from a on -/
structure Stage (R : α → α → Bool) (B n a : Nat) (d d' : Array α) : Prop where
  perm : PermIn a n d d'
  sorted : ∀ t, a ≤ t * B → SortedIn R (t * B) (min (t * B + B) n) d'
  from_ : ∀ t, a ≤ t * B → ∀ p, t * B ≤ p → p < min (t * B + B) n → ∃ q, t * B ≤ q ∧ q < min (t * B + B) n ∧ d'[p]! = d[q]!

theorem from_perm {d d' : Array α} {a b : Nat} (hb : b ≤ d.size) (h : PermIn a b d d') (p : Nat) (h1 : a ≤ p) (h2 : p < b) : ∃ q, a ≤ q ∧ q < b ∧ d'[p]! = d[q]! :=
  permIn_all d d' a b (fun x => ∃ q, a ≤ q ∧ q < b ∧ x = d[q]!) hb h (fun q h3 h4 => ⟨q, h3, h4, rfl⟩) p h1 h2

/-- one block, then the others -/
theorem Stage.cons {B n s : Nat} {d d1 d2 : Array α} (hn : n ≤ d.size) (hB : 0 < B) (hs : s * B + B ≤ n) (p1 : PermIn (s * B) (s * B + B) d d1) (s1 : SortedIn R (s * B) (s * B + B) d1) (h : Stage R B n (s * B + B) d1 d2) : Stage R B n (s * B) d d2 := by
  have hmin : min (s * B + B) n = s * B + B := by omega
  refine ⟨permIn_trans _ _ _ _ _ (permIn_mono _ _ _ _ _ _ (Nat.le_refl _) hs hn p1) (permIn_mono _ _ _ _ _ _ (by omega) (Nat.le_refl _) (by rw [p1.1]; exact hn) h.perm), fun t ht => ?_, fun t ht p hp1 hp2 => ?_⟩
  · by_cases he : s * B + B ≤ t * B
    · exact h.sorted t he
    · have hts : t = s := by
        have h1 : s ≤ t := Nat.le_of_mul_le_mul_right ht hB
        have h2 : ¬ s + 1 ≤ t := fun h3 => he (by have := Nat.mul_le_mul_right B h3; rw [Nat.add_mul, Nat.one_mul] at this; exact this)
        omega
      subst hts
      rw [hmin]
      intro i j h1 h2 h3
      rw [h.perm.2.1 i (.inl (by omega)), h.perm.2.1 j (.inl (by omega))]
      exact s1 i j h1 h2 h3
  · by_cases he : s * B + B ≤ t * B
    · obtain ⟨q, q1, q2, q3⟩ := h.from_ t he p hp1 hp2
      exact ⟨q, q1, q2, by rw [q3, p1.2.1 q (.inr (by omega))]⟩
    · have hts : t = s := by
        have h1 : s ≤ t := Nat.le_of_mul_le_mul_right ht hB
        have h2 : ¬ s + 1 ≤ t := fun h3 => he (by have := Nat.mul_le_mul_right B h3; rw [Nat.add_mul, Nat.one_mul] at this; exact this)
        omega
      subst hts
      rw [hmin] at hp2 ⊢
      rw [h.perm.2.1 p (.inl (by omega))]
      exact from_perm (by omega) p1 p hp1 hp2

/-- the last block -/
theorem Stage.last {B n s : Nat} {d d1 : Array α} (hn : n ≤ d.size) (hB : 0 < B) (hs : n < s * B + B) (hs0 : s * B ≤ n) (p1 : PermIn (s * B) n d d1) (s1 : SortedIn R (s * B) n d1) : Stage R B n (s * B) d d1 := by
  have key : ∀ t, s * B ≤ t * B → t = s ∨ n ≤ t * B := fun t ht => by
    have h1 : s ≤ t := Nat.le_of_mul_le_mul_right ht hB
    rcases Nat.lt_or_ge s t with h2 | h2
    · right
      have := Nat.mul_le_mul_right B h2
      rw [Nat.succ_mul] at this
      omega
    · left; omega
  have hmin : min (s * B + B) n = n := by omega
  refine ⟨p1, fun t ht => ?_, fun t ht p hp1 hp2 => ?_⟩
  · rcases key t ht with rfl | h
    · rw [hmin]; exact s1
    · intro i j h1 h2 h3; omega
  · rcases key t ht with rfl | h
    · rw [hmin] at hp2 ⊢; exact from_perm hn p1 p hp1 hp2
    · omega

theorem insBlocks_ok (hR : SWO R) (n : Nat) : ∀ (r s : Nat) (d : Array α), n - s * 20 ≤ r → s * 20 ≤ n → n ≤ d.size → (∀ j p, j < n → s * 20 ≤ p → p < j → lt d[j]! d[p]! = R d[j]! d[p]!) → Stage R 20 n (s * 20) d (insBlocks lt n (s * 20) d) := by
  intro r
  induction r with
  | zero =>
    intro s d hr hs hn h
    rw [insBlocks, if_neg (by omega)]
    obtain ⟨p1, s1⟩ := insertion_ok hR d (s * 20) n hs hn h
    exact Stage.last hn (by decide) (by omega) hs p1 s1
  | succ r ih =>
    intro s d hr hs hn h
    rw [insBlocks]
    by_cases hlt : s * 20 + 20 ≤ n
    · rw [if_pos hlt]
      obtain ⟨p1, s1⟩ := insertion_ok (lt := lt) hR d (s * 20) (s * 20 + 20) (by omega) (by omega) fun j p hj hp hpj => h j p (by omega) hp hpj
      have h2 := ih (s + 1) (insertionSort lt d (s * 20) (s * 20 + 20)) (by omega) (by omega) (by rw [p1.1]; exact hn) fun j p hj hp hpj => by
        rw [p1.2.1 j (.inr (by omega)), p1.2.1 p (.inr (by omega))]
        exact h j p hj (by omega) hpj
      rw [show (s + 1) * 20 = s * 20 + 20 from by omega] at h2
      exact h2.cons hn (by decide) hlt p1 s1
    · rw [if_neg hlt]
      obtain ⟨p1, s1⟩ := insertion_ok hR d (s * 20) n hs hn h
      exact Stage.last hn (by decide) (by omega) hs p1 s1

theorem pass_ok (hR : SWO R) (blk n : Nat) (hb : 0 < blk) : ∀ (f s : Nat) (d : Array α), n + 1 ≤ f + s * (2 * blk) → s * (2 * blk) ≤ n → n ≤ d.size → (∀ t, s * (2 * blk) ≤ t * blk → SortedIn R (t * blk) (min (t * blk + blk) n) d) →
    (∀ i j, s * (2 * blk) ≤ i → i < j → j < n → i / blk < j / blk → lt d[j]! d[i]! = R d[j]! d[i]!) → Stage R (2 * blk) n (s * (2 * blk)) d (pass lt blk n f (s * (2 * blk)) d)
  | 0, s, d, hf, hs, hn, hS, hC => by omega
  | f + 1, s, d, hf, hs, hn, hS, hC => by
    have e1 : s * (2 * blk) = (2 * s) * blk := by rw [← Nat.mul_assoc, Nat.mul_comm s 2]
    have e2 : s * (2 * blk) + blk = (2 * s + 1) * blk := by rw [e1, Nat.add_mul, Nat.one_mul]
    have hcross : ∀ b, b ≤ n → Cross lt R (s * (2 * blk)) (s * (2 * blk) + blk) b d := fun b hbn i j h1 h2 h3 h4 => by
      refine hC i j h1 (by omega) (by omega) ?_
      have h5 : i / blk < 2 * s + 1 := (Nat.div_lt_iff_lt_mul hb).2 (by rw [← e2]; exact h2)
      have h6 : 2 * s + 1 ≤ j / blk := (Nat.le_div_iff_mul_le hb).2 (by rw [← e2]; exact h3)
      omega
    have s0 := hS (2 * s) (Nat.le_of_eq e1)
    have s1 := hS (2 * s + 1) (by rw [← e2]; omega)
    rw [← e1] at s0
    rw [← e2] at s1
    rw [pass]
    by_cases hlt : s * (2 * blk) + 2 * blk ≤ n
    · rw [if_pos hlt]
      rw [Nat.min_eq_left (by omega)] at s0
      rw [show min (s * (2 * blk) + blk + blk) n = s * (2 * blk) + 2 * blk from by omega] at s1
      obtain ⟨p1, q1⟩ := symMerge_ok (lt := lt) hR (2 * blk) (s * (2 * blk)) (s * (2 * blk) + blk) (s * (2 * blk) + 2 * blk) d (by omega) (by omega) (by omega) (by omega) s0 s1 (hcross _ hlt)
      have e3 : (s + 1) * (2 * blk) = s * (2 * blk) + 2 * blk := by rw [Nat.add_mul, Nat.one_mul]
      have h2 := pass_ok hR blk n hb f (s + 1) (symMerge lt (2 * blk) (s * (2 * blk)) (s * (2 * blk) + blk) (s * (2 * blk) + 2 * blk) d) (by omega) (by omega) (by rw [p1.1]; exact hn)
        (fun t ht i j h3 h4 h5 => by rw [p1.2.1 i (.inr (by omega)), p1.2.1 j (.inr (by omega))]; exact hS t (by omega) i j h3 h4 h5)
        (fun i j h3 h4 h5 h6 => by rw [p1.2.1 i (.inr (by omega)), p1.2.1 j (.inr (by omega))]; exact hC i j (by omega) h4 h5 h6)
      rw [e3] at h2
      exact h2.cons hn (by omega) hlt p1 q1
    · rw [if_neg hlt]
      by_cases hl2 : s * (2 * blk) + blk < n
      · rw [if_pos hl2]
        rw [Nat.min_eq_left (by omega)] at s0
        rw [show min (s * (2 * blk) + blk + blk) n = n from by omega] at s1
        obtain ⟨p1, q1⟩ := symMerge_ok (lt := lt) hR (n - s * (2 * blk)) (s * (2 * blk)) (s * (2 * blk) + blk) n d (by omega) (by omega) hl2 hn s0 s1 (hcross _ (Nat.le_refl _))
        exact Stage.last hn (by omega) (by omega) hs p1 q1
      · rw [if_neg hl2]
        rw [Nat.min_eq_right (by omega)] at s0
        exact Stage.last hn (by omega) (by omega) hs (permIn_refl _ _ _) s0

theorem passes_ok (hR : SWO R) (n : Nat) : ∀ (f blk : Nat) (d : Array α), 0 < blk → n ≤ f + blk → n ≤ d.size → (∀ t, SortedIn R (t * blk) (min (t * blk + blk) n) d) → (∀ i j, i < j → j < n → i / blk < j / blk → lt d[j]! d[i]! = R d[j]! d[i]!) →
    PermIn 0 n d (passes lt n f blk d) ∧ SortedIn R 0 n (passes lt n f blk d) := by
  intro f
  induction f with
  | zero =>
    intro blk d hb hf hn hS hC
    rw [passes]
    have := hS 0
    rw [Nat.zero_mul, Nat.zero_add, Nat.min_eq_right (by omega)] at this
    exact ⟨permIn_refl _ _ _, this⟩
  | succ f ih =>
    intro blk d hb hf hn hS hC
    rw [passes]
    by_cases hlt : blk < n
    · rw [if_pos hlt]
      have h1 := pass_ok (lt := lt) hR blk n hb (n + 1) 0 d (by omega) (by omega) hn (fun t _ => hS t) (fun i j _ => hC i j)
      rw [Nat.zero_mul] at h1
      have hin : ∀ i, i < n → ∃ q, d[q]! = (pass lt blk n (n + 1) 0 d)[i]! ∧ q < n ∧ q / (2 * blk) = i / (2 * blk) := fun i hi => by
        have h2 := Nat.div_mul_le_self i (2 * blk)
        have h3 := Nat.lt_div_mul_add (a := i) (b := 2 * blk) (by omega)
        obtain ⟨q, q1, q2, q3⟩ := h1.from_ (i / (2 * blk)) (Nat.zero_le _) i h2 (by omega)
        refine ⟨q, q3.symm, by omega, ?_⟩
        have h4 : i / (2 * blk) ≤ q / (2 * blk) := (Nat.le_div_iff_mul_le (by omega)).2 q1
        have h5 : q / (2 * blk) < i / (2 * blk) + 1 := (Nat.div_lt_iff_lt_mul (by omega)).2 (by rw [Nat.add_mul, Nat.one_mul]; omega)
        omega
      obtain ⟨p2, s2⟩ := ih (2 * blk) (pass lt blk n (n + 1) 0 d) (by omega) (by omega) (by rw [h1.perm.1]; exact hn) (fun t => h1.sorted t (Nat.zero_le _)) fun i j hij hj hlt2 => by
        obtain ⟨qi, e1, l1, m1⟩ := hin i (by omega)
        obtain ⟨qj, e2, l2, m2⟩ := hin j hj
        rw [← e1, ← e2]
        have h6 : qi / (2 * blk) < qj / (2 * blk) := by omega
        have h7 : qi / blk < qj / blk := by
          rcases Nat.lt_or_ge (qi / blk) (qj / blk) with h | h
          · exact h
          · have := Nat.div_le_div_right (c := 2) h
            rw [Nat.div_div_eq_div_mul, Nat.div_div_eq_div_mul, Nat.mul_comm blk 2] at this
            omega
        have h8 : qi < qj := by
          rcases Nat.lt_or_ge qi qj with h | h
          · exact h
          · have := Nat.div_le_div_right (c := blk) h
            omega
        exact hC qi qj h8 l2 h7
      exact ⟨permIn_trans _ _ _ _ _ h1.perm p2, s2⟩
    · rw [if_neg hlt]
      have := hS 0
      rw [Nat.zero_mul, Nat.zero_add, Nat.min_eq_right (by omega)] at this
      exact ⟨permIn_refl _ _ _, this⟩

/-- THE LAW: sorted by R, and a permutation. -/
theorem stable_ok (hR : SWO R) (d : Array α) (h : ∀ i j, i < j → j < d.size → lt d[j]! d[i]! = R d[j]! d[i]!) : PermIn 0 d.size d (stable lt d.size d) ∧ SortedIn R 0 d.size (stable lt d.size d) := by
  have h1 := insBlocks_ok (lt := lt) hR d.size d.size 0 d (by omega) (by omega) (Nat.le_refl _) fun j p hj _ hpj => h p j hpj hj
  rw [Nat.zero_mul] at h1
  have hin : ∀ i, i < d.size → ∃ q, d[q]! = (insBlocks lt d.size 0 d)[i]! ∧ q < d.size ∧ q / 20 = i / 20 := fun i hi => by
    obtain ⟨q, q1, q2, q3⟩ := h1.from_ (i / 20) (Nat.zero_le _) i (by omega) (by omega)
    exact ⟨q, q3.symm, by omega, by omega⟩
  obtain ⟨p2, s2⟩ := passes_ok (lt := lt) hR d.size d.size 20 (insBlocks lt d.size 0 d) (by decide) (by omega) (by rw [h1.perm.1]; exact Nat.le_refl _) (fun t => h1.sorted t (Nat.zero_le _)) fun i j hij hj hlt => by
    obtain ⟨qi, e1, l1, m1⟩ := hin i (by omega)
    obtain ⟨qj, e2, l2, m2⟩ := hin j hj
    rw [← e1, ← e2]
    exact h qi qj (by omega) l2
  exact ⟨permIn_trans _ _ _ _ _ h1.perm p2, s2⟩
end Go.Proofs.Ytohocdbneopooaa
