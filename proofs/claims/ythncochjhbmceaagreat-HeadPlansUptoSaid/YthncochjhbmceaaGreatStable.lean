/- The library's stable sort, as functions on arrays: what it leaves is sorted by an order that tells equals by where they stood. No condition. No program in this text. What the stable sort leaves is sorted, equals as they stood. No condition. No program in this text. -/
import Derived.Sort.LotA
namespace Go.Proofs.YthncochjhbmceaaGreat
open Go.Sort
variable {α : Type} [Inhabited α]

/-- 'for i := 0; i < n; i++ { swap a+i, b+i }', from i -/
def swapFrom (a b n i : Nat) (d : Array α) : Array α := if i < n then swapFrom a b n (i + 1) (swp d (a + i) (b + i)) else d
termination_by n - i

/-- the loop of rotate -/
def rot (m : Nat) : Nat → Nat → Nat → Array α → Array α
  | 0, _, _, d => d
  | f + 1, i, j, d =>
    if i = j then swapFrom (m - i) m i 0 d
    else if j < i then rot m f (i - j) j (swapFrom (m - i) m j 0 d)
    else rot m f i (j - i) (swapFrom (m - i) (m + j - i) i 0 d)

/-- where a binary search comes to an end -/
def bsr (p : Nat → Bool) (i j : Nat) : Nat := if i < j then (if p ((i + j) / 2) then bsr p ((i + j) / 2 + 1) j else bsr p i ((i + j) / 2)) else i
termination_by j - i

/-- 'for k := a; k < t; k++ { swap k, k+1 }', from k -/
def moveUp (t k : Nat) (d : Array α) : Array α := if k < t then moveUp t (k + 1) (swp d k (k + 1)) else d
termination_by t - k
/-- 'for k := m; k > i; k-- { swap k, k-1 }', from k -/
def moveDown (i : Nat) : Nat → Array α → Array α
  | 0, d => d
  | k + 1, d => if i < k + 1 then moveDown i k (swp d (k + 1) k) else d

def symMerge (lt : α → α → Bool) : Nat → Nat → Nat → Nat → Array α → Array α
  | 0, _, _, _, d => d
  | f + 1, a, m, b, d =>
    if m - a = 1 then moveUp (bsr (fun h => lt d[h]! d[a]!) m b - 1) a d
    else if b - m = 1 then moveDown (bsr (fun h => !lt d[m]! d[h]!) a m) m d
    else
      let mid := (a + b) / 2
      let n := mid + m
      let s := if mid < m then bsr (fun c => !lt d[n - 1 - c]! d[c]!) (n - b) mid else bsr (fun c => !lt d[n - 1 - c]! d[c]!) a m
      let e := n - s
      let d1 := if s < m ∧ m < e then rot m (b - a) (m - s) (e - m) d else d
      let d2 := if a < s ∧ s < mid then symMerge lt f a s mid d1 else d1
      if mid < e ∧ e < b then symMerge lt f mid e b d2 else d2

/-- the blocks of the first rounds, from a -/
def insBlocks (lt : α → α → Bool) (n a : Nat) (d : Array α) : Array α := if a + 20 ≤ n then insBlocks lt n (a + 20) (insertionSort lt d a (a + 20)) else insertionSort lt d a n
termination_by n - a
/-- one pass of merges of blocks of blk, from a -/
def pass (lt : α → α → Bool) (blk n : Nat) : Nat → Nat → Array α → Array α
  | 0, _, d => d
  | f + 1, a, d => if a + 2 * blk ≤ n then pass lt blk n f (a + 2 * blk) (symMerge lt (2 * blk) a (a + blk) (a + 2 * blk) d) else if a + blk < n then symMerge lt (n - a) a (a + blk) n d else d
def passes (lt : α → α → Bool) (n : Nat) : Nat → Nat → Array α → Array α
  | 0, _, d => d
  | f + 1, blk, d => if blk < n then passes lt n f (2 * blk) (pass lt blk n (n + 1) 0 d) else d
def stable (lt : α → α → Bool) (n : Nat) (d : Array α) : Array α := passes lt n n 20 (insBlocks lt n 0 d)

/-! What they do. -/
theorem swapFrom_spec (a b n : Nat) (hab : a + n ≤ b) : ∀ (r i : Nat) (d : Array α), n - i = r → i ≤ n → b + n ≤ d.size →
    (swapFrom a b n i d).size = d.size ∧ ∀ p, (swapFrom a b n i d)[p]! = if a + i ≤ p ∧ p < a + n then d[p - a + b]! else if b + i ≤ p ∧ p < b + n then d[p - b + a]! else d[p]!
  | 0, i, d, hr, hi, hs => by
    rw [swapFrom, if_neg (by omega)]
    refine ⟨rfl, fun p => ?_⟩
    rw [if_neg (by omega), if_neg (by omega)]
  | r + 1, i, d, hr, hi, hs => by
    rw [swapFrom, if_pos (by omega)]
    obtain ⟨h1, h2⟩ := swapFrom_spec a b n hab r (i + 1) (swp d (a + i) (b + i)) (by omega) (by omega) (by rw [size_swp]; exact hs)
    refine ⟨by rw [h1, size_swp], fun p => ?_⟩
    have g := swp_get d (show a + i < d.size by omega) (show b + i < d.size by omega)
    rw [h2, g, g, g]
    by_cases c1 : a + i ≤ p ∧ p < a + n
    · rw [if_pos c1]
      by_cases c2 : p = a + i
      · subst c2
        rw [if_neg (by omega), if_neg (by omega), if_neg (by omega), if_pos rfl, show a + i - a + b = b + i from by omega]
      · rw [if_pos (by omega), if_neg (by omega), if_neg (by omega)]
    · rw [if_neg c1, if_neg (by omega)]
      by_cases c3 : b + i ≤ p ∧ p < b + n
      · rw [if_pos c3]
        by_cases c2 : p = b + i
        · subst c2
          rw [if_neg (by omega), if_pos rfl, show b + i - b + a = a + i from by omega]
        · rw [if_pos (by omega), if_neg (by omega), if_neg (by omega)]
      · rw [if_neg c3, if_neg (by omega), if_neg (by omega), if_neg (by omega)]

theorem swapFrom_perm (a b n lo hi : Nat) (h1 : lo ≤ a) (h2 : a + n ≤ hi) (h3 : lo ≤ b) (h4 : b + n ≤ hi) : ∀ (r i : Nat) (d : Array α), n - i = r → i ≤ n → hi ≤ d.size → PermIn lo hi d (swapFrom a b n i d)
  | 0, i, d, hr, hi', hs => by rw [swapFrom, if_neg (by omega)]; exact permIn_refl _ _ _
  | r + 1, i, d, hr, hi', hs => by
    rw [swapFrom, if_pos (by omega)]
    exact permIn_trans _ _ _ _ _ (swp_permIn d lo hi (a + i) (b + i) (by omega) (by omega) (by omega) (by omega) hs) (swapFrom_perm a b n lo hi h1 h2 h3 h4 r (i + 1) _ (by omega) (by omega) (by rw [size_swp]; exact hs))

/-- [s, m) and [m, e) are exchanged -/
def Rotd (s m e : Nat) (d d' : Array α) : Prop := ∀ p, d'[p]! = if s ≤ p ∧ p < s + (e - m) then d[p + (m - s)]! else if s + (e - m) ≤ p ∧ p < e then d[p - (e - m)]! else d[p]!

theorem rot_spec (m : Nat) : ∀ (f i j : Nat) (d : Array α), 0 < i → 0 < j → i ≤ m → i + j ≤ f + 1 → m + j ≤ d.size → PermIn (m - i) (m + j) d (rot m f i j d) ∧ Rotd (m - i) m (m + j) d (rot m f i j d)
  | 0, i, j, d, h1, h2, h3, h4, h5 => by omega
  | f + 1, i, j, d, h1, h2, h3, h4, h5 => by
    rw [rot]
    by_cases hij : i = j
    · subst hij
      rw [if_pos rfl]
      obtain ⟨q1, q2⟩ := swapFrom_spec (m - i) m i (by omega) _ 0 d rfl (by omega) h5
      refine ⟨swapFrom_perm (m - i) m i (m - i) (m + i) (by omega) (by omega) (by omega) (by omega) _ 0 d rfl (by omega) h5, fun p => ?_⟩
      rw [q2]
      by_cases c1 : m - i ≤ p ∧ p < m
      · rw [if_pos (by omega), if_pos (by omega), show p - (m - i) + m = p + (m - (m - i)) from by omega]
      · by_cases c2 : m ≤ p ∧ p < m + i
        · rw [if_neg (by omega), if_pos (by omega), if_neg (by omega), if_pos (by omega), show p - m + (m - i) = p - (m + i - m) from by omega]
        · rw [if_neg (by omega), if_neg (by omega), if_neg (by omega), if_neg (by omega)]
    · rw [if_neg hij]
      by_cases hlt : j < i
      · rw [if_pos hlt]
        obtain ⟨q1, q2⟩ := swapFrom_spec (m - i) m j (by omega) _ 0 d rfl (by omega) h5
        have q3 := swapFrom_perm (m - i) m j (m - i) (m + j) (by omega) (by omega) (by omega) (by omega) _ 0 d rfl (by omega) h5
        obtain ⟨r1, r2⟩ := rot_spec m f (i - j) j (swapFrom (m - i) m j 0 d) (by omega) h2 (by omega) (by omega) (by rw [q1]; exact h5)
        refine ⟨permIn_trans _ _ _ _ _ q3 (permIn_mono _ _ _ _ _ _ (by omega) (Nat.le_refl _) (by rw [q1]; exact h5) r1), fun p => ?_⟩
        rw [r2]
        by_cases c1 : m - i ≤ p ∧ p < m - i + j
        · rw [if_neg (by omega), if_neg (by omega), q2, if_pos (by omega), if_pos (by omega)]
          congr 1; omega
        · rw [if_neg (show ¬(m - i ≤ p ∧ p < m - i + (m + j - m)) by omega)]
          by_cases c2 : m - i + j ≤ p ∧ p < m + j
          · rw [if_pos (show m - i + (m + j - m) ≤ p ∧ p < m + j by omega)]
            by_cases c3 : p < m - i + j + j
            · rw [if_pos (by omega), q2, if_neg (by omega), if_pos (by omega)]
              congr 1; omega
            · rw [if_neg (by omega), if_pos (by omega), q2, if_neg (by omega), if_neg (by omega)]
          · rw [if_neg (by omega), if_neg (by omega), if_neg (by omega), q2, if_neg (by omega), if_neg (by omega)]
      · rw [if_neg hlt]
        obtain ⟨q1, q2⟩ := swapFrom_spec (m - i) (m + j - i) i (by omega) _ 0 d rfl (by omega) (by omega)
        have q3 := swapFrom_perm (m - i) (m + j - i) i (m - i) (m + j) (by omega) (by omega) (by omega) (by omega) _ 0 d rfl (by omega) h5
        obtain ⟨r1, r2⟩ := rot_spec m f i (j - i) (swapFrom (m - i) (m + j - i) i 0 d) h1 (by omega) h3 (by omega) (by rw [q1]; omega)
        refine ⟨permIn_trans _ _ _ _ _ q3 (permIn_mono _ _ _ _ _ _ (Nat.le_refl _) (by omega) (by rw [q1]; exact h5) r1), fun p => ?_⟩
        rw [r2]
        by_cases c1 : m - i ≤ p ∧ p < m - i + j
        · rw [if_pos (show m - i ≤ p ∧ p < m - i + (m + j - m) by omega)]
          by_cases c3 : p < m - i + (j - i)
          · rw [if_pos (by omega), q2, if_neg (by omega), if_neg (by omega)]
          · rw [if_neg (by omega), if_pos (by omega), q2, if_pos (by omega)]
            congr 1; omega
        · rw [if_neg (show ¬(m - i ≤ p ∧ p < m - i + (m + j - m)) by omega), if_neg (by omega)]
          by_cases c2 : m - i + j ≤ p ∧ p < m + j
          · rw [if_pos (show m - i + (m + j - m) ≤ p ∧ p < m + j by omega), if_neg (by omega), q2, if_neg (by omega), if_pos (by omega)]
            congr 1; omega
          · rw [if_neg (by omega), if_neg (by omega), q2, if_neg (by omega), if_neg (by omega)]

theorem bsr_spec (p : Nat → Bool) : ∀ (r i j : Nat), j - i ≤ r → i ≤ j → i ≤ bsr p i j ∧ bsr p i j ≤ j ∧ (i < bsr p i j → p (bsr p i j - 1) = true) ∧ (bsr p i j < j → p (bsr p i j) = false)
  | 0, i, j, hr, hij => by
    rw [bsr, if_neg (by omega)]
    exact ⟨Nat.le_refl _, hij, fun h => by omega, fun h => by omega⟩
  | r + 1, i, j, hr, hij => by
    rw [bsr]
    by_cases hlt : i < j
    · rw [if_pos hlt]
      cases hp : p ((i + j) / 2) with
      | true =>
        rw [if_pos rfl]
        obtain ⟨a1, a2, a3, a4⟩ := bsr_spec p r ((i + j) / 2 + 1) j (by omega) (by omega)
        refine ⟨by omega, a2, fun h => ?_, a4⟩
        by_cases he : bsr p ((i + j) / 2 + 1) j = (i + j) / 2 + 1
        · rw [he, Nat.add_sub_cancel]; exact hp
        · exact a3 (by omega)
      | false =>
        rw [if_neg (by simp)]
        obtain ⟨a1, a2, a3, a4⟩ := bsr_spec p r i ((i + j) / 2) (by omega) (by omega)
        refine ⟨a1, by omega, a3, fun h => ?_⟩
        by_cases he : bsr p i ((i + j) / 2) = (i + j) / 2
        · rw [he]; exact hp
        · exact a4 (by omega)
    · rw [if_neg hlt]
      exact ⟨Nat.le_refl _, hij, fun h => by omega, fun h => by omega⟩

theorem moveUp_spec (t : Nat) : ∀ (r k : Nat) (d : Array α), t - k = r → k ≤ t → t < d.size → (moveUp t k d).size = d.size ∧ ∀ p, (moveUp t k d)[p]! = if k ≤ p ∧ p < t then d[p + 1]! else if p = t then d[k]! else d[p]!
  | 0, k, d, hr, hk, hs => by
    obtain rfl : k = t := by omega
    rw [moveUp, if_neg (by omega)]
    refine ⟨rfl, fun p => ?_⟩
    rw [if_neg (by omega)]
    by_cases h : p = k
    · rw [if_pos h, h]
    · rw [if_neg h]
  | r + 1, k, d, hr, hk, hs => by
    rw [moveUp, if_pos (by omega)]
    obtain ⟨h1, h2⟩ := moveUp_spec t r (k + 1) (swp d k (k + 1)) (by omega) (by omega) (by rw [size_swp]; exact hs)
    refine ⟨by rw [h1, size_swp], fun p => ?_⟩
    have g := swp_get d (show k < d.size by omega) (show k + 1 < d.size by omega)
    rw [h2, g, g, g]
    by_cases c1 : k ≤ p ∧ p < t
    · rw [if_pos c1]
      by_cases c2 : p = k
      · subst c2
        rw [if_neg (by omega), if_neg (by omega), if_neg (by omega), if_pos rfl]
      · rw [if_pos (by omega), if_neg (by omega), if_neg (by omega)]
    · rw [if_neg c1, if_neg (by omega)]
      by_cases c3 : p = t
      · rw [if_pos c3, if_pos c3, if_pos rfl]
      · rw [if_neg c3, if_neg c3, if_neg (by omega), if_neg (by omega)]

theorem moveUp_perm (t lo hi : Nat) (h2 : t < hi) : ∀ (r k : Nat) (d : Array α), t - k = r → lo ≤ k → hi ≤ d.size → PermIn lo hi d (moveUp t k d)
  | 0, k, d, hr, hk, hs => by rw [moveUp, if_neg (by omega)]; exact permIn_refl _ _ _
  | r + 1, k, d, hr, hk, hs => by
    rw [moveUp, if_pos (by omega)]
    exact permIn_trans _ _ _ _ _ (swp_permIn d lo hi k (k + 1) (by omega) (by omega) (by omega) (by omega) hs) (moveUp_perm t lo hi h2 r (k + 1) _ (by omega) (by omega) (by rw [size_swp]; exact hs))

theorem moveDown_spec (i : Nat) : ∀ (k : Nat) (d : Array α), i ≤ k → k < d.size → (moveDown i k d).size = d.size ∧ ∀ p, (moveDown i k d)[p]! = if i < p ∧ p ≤ k then d[p - 1]! else if p = i then d[k]! else d[p]!
  | 0, d, hk, hs => by
    obtain rfl : i = 0 := by omega
    rw [moveDown]
    refine ⟨rfl, fun p => ?_⟩
    rw [if_neg (by omega)]
    by_cases h : p = 0
    · rw [if_pos h, h]
    · rw [if_neg h]
  | k + 1, d, hk, hs => by
    rw [moveDown]
    by_cases hi : i < k + 1
    · rw [if_pos hi]
      obtain ⟨h1, h2⟩ := moveDown_spec i k (swp d (k + 1) k) (by omega) (by rw [size_swp]; omega)
      refine ⟨by rw [h1, size_swp], fun p => ?_⟩
      have g := swp_get d (show k + 1 < d.size by omega) (show k < d.size by omega)
      rw [h2, g, g, g]
      by_cases c1 : i < p ∧ p ≤ k + 1
      · rw [if_pos c1]
        by_cases c2 : p = k + 1
        · subst c2
          rw [if_neg (by omega), if_neg (by omega), if_neg (by omega), if_pos rfl]; rfl
        · rw [if_pos (by omega), if_neg (by omega), if_neg (by omega)]
      · rw [if_neg c1, if_neg (by omega)]
        by_cases c3 : p = i
        · rw [if_pos c3, if_pos c3, if_pos rfl]
        · rw [if_neg c3, if_neg c3, if_neg (by omega), if_neg (by omega)]
    · rw [if_neg hi]
      obtain rfl : i = k + 1 := by omega
      refine ⟨rfl, fun p => ?_⟩
      rw [if_neg (by omega)]
      by_cases h : p = k + 1
      · rw [if_pos h, h]
      · rw [if_neg h]

theorem moveDown_perm (i lo hi : Nat) (h1 : lo ≤ i) : ∀ (k : Nat) (d : Array α), k < hi → hi ≤ d.size → PermIn lo hi d (moveDown i k d)
  | 0, d, hk, hs => by rw [moveDown]; exact permIn_refl _ _ _
  | k + 1, d, hk, hs => by
    rw [moveDown]
    by_cases hi' : i < k + 1
    · rw [if_pos hi']
      exact permIn_trans _ _ _ _ _ (swp_permIn d lo hi (k + 1) k (by omega) (by omega) (by omega) (by omega) hs) (moveDown_perm i lo hi h1 k _ (by omega) (by rw [size_swp]; exact hs))
    · rw [if_neg hi']; exact permIn_refl _ _ _

theorem swapFrom_size (a b n : Nat) : ∀ (r i : Nat) (d : Array α), n - i = r → (swapFrom a b n i d).size = d.size
  | 0, i, d, hr => by rw [swapFrom, if_neg (by omega)]
  | r + 1, i, d, hr => by rw [swapFrom, if_pos (by omega), swapFrom_size a b n r (i + 1) _ (by omega), size_swp]
theorem rot_size (m : Nat) : ∀ (f i j : Nat) (d : Array α), (rot m f i j d).size = d.size
  | 0, _, _, _ => rfl
  | f + 1, i, j, d => by
    rw [rot]
    split
    · exact swapFrom_size _ _ _ _ 0 _ rfl
    · split
      · rw [rot_size m f, swapFrom_size _ _ _ _ 0 _ rfl]
      · rw [rot_size m f, swapFrom_size _ _ _ _ 0 _ rfl]
theorem moveUp_size (t : Nat) : ∀ (r k : Nat) (d : Array α), t - k = r → (moveUp t k d).size = d.size
  | 0, k, d, hr => by rw [moveUp, if_neg (by omega)]
  | r + 1, k, d, hr => by rw [moveUp, if_pos (by omega), moveUp_size t r (k + 1) _ (by omega), size_swp]
theorem moveDown_size (i : Nat) : ∀ (k : Nat) (d : Array α), (moveDown i k d).size = d.size
  | 0, d => rfl
  | k + 1, d => by
    rw [moveDown]
    split
    · rw [moveDown_size i k, size_swp]
    · rfl
theorem symMerge_size (lt : α → α → Bool) : ∀ (f a m b : Nat) (d : Array α), (symMerge lt f a m b d).size = d.size
  | 0, _, _, _, _ => rfl
  | f + 1, a, m, b, d => by
    rw [symMerge]
    split
    · exact moveUp_size _ _ _ _ rfl
    · split
      · exact moveDown_size _ _ _
      · simp only
        generalize hs : (if (a + b) / 2 < m then bsr _ _ _ else bsr _ _ _) = s
        have h1 : (if s < m ∧ m < (a + b) / 2 + m - s then rot m (b - a) (m - s) ((a + b) / 2 + m - s - m) d else d).size = d.size := by
          split
          · exact rot_size _ _ _ _ _
          · rfl
        split
        · rw [symMerge_size lt f]
          split
          · rw [symMerge_size lt f]; exact h1
          · exact h1
        · split
          · rw [symMerge_size lt f]; exact h1
          · exact h1

theorem insInner_size (lt : α → α → Bool) (a : Nat) : ∀ (j : Nat) (d : Array α), (insInner lt a j d).size = d.size
  | 0, d => rfl
  | j + 1, d => by
    rw [insInner]
    split
    · rw [insInner_size lt a j, size_swp]
    · rfl
theorem insOuter_size (lt : α → α → Bool) (a b : Nat) : ∀ (r i : Nat) (d : Array α), b - i = r → (insOuter lt a b i d).size = d.size
  | 0, i, d, hr => by rw [insOuter, if_neg (by omega)]
  | r + 1, i, d, hr => by rw [insOuter, if_pos (by omega), insOuter_size lt a b r (i + 1) _ (by omega), insInner_size]
theorem insertionSort_size (lt : α → α → Bool) (d : Array α) (a b : Nat) : (insertionSort lt d a b).size = d.size := insOuter_size lt a b _ (a + 1) d rfl

/-! Two orders: 'lt', by which the text compares; 'R', that tells equals by where they stood. Across a border both are one. -/
variable {lt R : α → α → Bool}

/-- what stands ahead of the border m and what stands behind it -/
def Cross (lt R : α → α → Bool) (a m b : Nat) (d : Array α) : Prop := ∀ i j, a ≤ i → i < m → m ≤ j → j < b → lt d[j]! d[i]! = R d[j]! d[i]!

omit [Inhabited α] in
theorem swo_not {R : α → α → Bool} (hR : SWO R) {x y : α} (h : R x y = true) : R y x = false := hR.asymmA h

theorem symMerge_ok (hR : SWO R) : ∀ (f a m b : Nat) (d : Array α), b - a ≤ f → a < m → m < b → b ≤ d.size → SortedIn R a m d → SortedIn R m b d → Cross lt R a m b d →
    PermIn a b d (symMerge lt f a m b d) ∧ SortedIn R a b (symMerge lt f a m b d)
  | 0, a, m, b, d, hf, ham, hmb, hs, hl, hr, hx => by omega
  | f + 1, a, m, b, d, hf, ham, hmb, hs, hl, hr, hx => by
    rw [symMerge]
    by_cases h1 : m - a = 1
    · rw [if_pos h1]
      obtain rfl : m = a + 1 := by omega
      obtain ⟨b1, b2, b3, b4⟩ := bsr_spec (fun h => lt d[h]! d[a]!) _ (a + 1) b (Nat.le_refl _) (by omega)
      generalize bsr (fun h => lt d[h]! d[a]!) (a + 1) b = i at b1 b2 b3 b4
      obtain ⟨g1, g2⟩ := moveUp_spec (i - 1) _ a d rfl (by omega) (by omega)
      refine ⟨moveUp_perm (i - 1) a b (by omega) _ a d rfl (Nat.le_refl _) hs, fun p q hap hpq hqb => ?_⟩
      rw [g2, g2]
      by_cases cq : q < i - 1
      · rw [if_pos (by omega), if_pos (by omega)]
        exact hr (p + 1) (q + 1) (by omega) (by omega) (by omega)
      · rw [if_neg (show ¬(a ≤ q ∧ q < i - 1) by omega)]
        by_cases cq1 : q = i - 1
        · rw [if_pos cq1, if_pos (by omega)]
          have h2 : lt d[i - 1]! d[a]! = true := b3 (by omega)
          have h3 : R d[i - 1]! d[a]! = true := by rw [← hx a (i - 1) (by omega) (by omega) (by omega) (by omega)]; exact h2
          by_cases he : p + 1 = i - 1
          · rw [he]; exact hR.asymmA h3
          · exact hR.ntrans _ _ _ (hR.asymmA h3) (hr (p + 1) (i - 1) (by omega) (by omega) (by omega))
        · rw [if_neg cq1]
          by_cases cp : p < i - 1
          · rw [if_pos (by omega)]
            exact hr (p + 1) q (by omega) (by omega) hqb
          · rw [if_neg (by omega)]
            by_cases cp1 : p = i - 1
            · rw [if_pos cp1]
              have h2 : lt d[i]! d[a]! = false := b4 (by omega)
              have h3 : R d[i]! d[a]! = false := by rw [← hx a i (by omega) (by omega) (by omega) (by omega)]; exact h2
              by_cases he : q = i
              · rw [he]; exact h3
              · exact hR.ntrans _ _ _ (hr i q (by omega) (by omega) hqb) h3
            · rw [if_neg cp1]
              exact hr p q (by omega) hpq hqb
    · rw [if_neg h1]
      by_cases h2 : b - m = 1
      · rw [if_pos h2]
        obtain rfl : b = m + 1 := by omega
        obtain ⟨b1, b2, b3, b4⟩ := bsr_spec (fun h => !lt d[m]! d[h]!) _ a m (Nat.le_refl _) (by omega)
        generalize bsr (fun h => !lt d[m]! d[h]!) a m = i at b1 b2 b3 b4
        obtain ⟨g1, g2⟩ := moveDown_spec i m d (by omega) (by omega)
        refine ⟨moveDown_perm i a (m + 1) b1 m d (by omega) hs, fun p q hap hpq hqb => ?_⟩
        rw [g2, g2]
        by_cases cq : i < q ∧ q ≤ m
        · rw [if_pos cq]
          by_cases cp : i < p ∧ p ≤ m
          · rw [if_pos cp]
            exact hl (p - 1) (q - 1) (by omega) (by omega) (by omega)
          · rw [if_neg cp]
            by_cases cp1 : p = i
            · rw [if_pos cp1]
              have h2 := b4 (by omega)
              simp only [Bool.not_eq_false'] at h2
              have h3 : R d[m]! d[i]! = true := by rw [← hx i m (by omega) (by omega) (by omega) (by omega)]; exact h2
              by_cases he : q - 1 = i
              · rw [he]; exact hR.asymmA h3
              · exact hR.ntrans _ _ _ (hl i (q - 1) (by omega) (by omega) (by omega)) (hR.asymmA h3)
            · rw [if_neg cp1]
              exact hl p (q - 1) (by omega) (by omega) (by omega)
        · rw [if_neg cq, if_neg (show ¬(i < p ∧ p ≤ m) by omega)]
          by_cases cq1 : q = i
          · rw [if_pos cq1, if_neg (by omega)]
            have h2 := b3 (by omega)
            simp only [Bool.not_eq_true'] at h2
            have h3 : R d[m]! d[i - 1]! = false := by rw [← hx (i - 1) m (by omega) (by omega) (by omega) (by omega)]; exact h2
            by_cases he : p = i - 1
            · rw [he]; exact h3
            · exact hR.ntrans _ _ _ h3 (hl p (i - 1) (by omega) (by omega) (by omega))
          · rw [if_neg cq1, if_neg (by omega)]
            exact hl p q (by omega) hpq (by omega)
      · rw [if_neg h2]
        simp only
        have hmid1 : a < (a + b) / 2 := by omega
        have hmid2 : (a + b) / 2 < b := by omega
        have hms : 2 * ((a + b) / 2) ≤ a + b := by omega
        have hms2 : a + b ≤ 2 * ((a + b) / 2) + 1 := by omega
        generalize (a + b) / 2 = mid at *
        have key : ∀ s, (if mid < m then bsr (fun c => !lt d[mid + m - 1 - c]! d[c]!) (mid + m - b) mid else bsr (fun c => !lt d[mid + m - 1 - c]! d[c]!) a m) = s →
            a ≤ s ∧ s ≤ m ∧ s ≤ mid ∧ mid + m - s ≤ b ∧ (a < s → mid + m - s < b → R d[mid + m - s]! d[s - 1]! = false) ∧ (s < m → s < mid → R d[mid + m - s - 1]! d[s]! = true) := by
          intro s hs'
          by_cases c : mid < m
          · rw [if_pos c] at hs'
            obtain ⟨b1, b2, b3, b4⟩ := bsr_spec (fun c => !lt d[mid + m - 1 - c]! d[c]!) _ (mid + m - b) mid (Nat.le_refl _) (by omega)
            rw [hs'] at b1 b2 b3 b4
            refine ⟨by omega, by omega, b2, by omega, fun h3 h4 => ?_, fun h3 h4 => ?_⟩
            · have := b3 (by omega)
              simp only [Bool.not_eq_true'] at this
              rw [show mid + m - 1 - (s - 1) = mid + m - s from by omega] at this
              rw [← hx (s - 1) (mid + m - s) (by omega) (by omega) (by omega) (by omega)]; exact this
            · have := b4 (by omega)
              simp only [Bool.not_eq_false'] at this
              rw [show mid + m - 1 - s = mid + m - s - 1 from by omega] at this
              rw [← hx s (mid + m - s - 1) (by omega) (by omega) (by omega) (by omega)]; exact this
          · rw [if_neg c] at hs'
            obtain ⟨b1, b2, b3, b4⟩ := bsr_spec (fun c => !lt d[mid + m - 1 - c]! d[c]!) _ a m (Nat.le_refl _) (by omega)
            rw [hs'] at b1 b2 b3 b4
            refine ⟨by omega, by omega, by omega, by omega, fun h3 h4 => ?_, fun h3 h4 => ?_⟩
            · have := b3 (by omega)
              simp only [Bool.not_eq_true'] at this
              rw [show mid + m - 1 - (s - 1) = mid + m - s from by omega] at this
              rw [← hx (s - 1) (mid + m - s) (by omega) (by omega) (by omega) (by omega)]; exact this
            · have := b4 (by omega)
              simp only [Bool.not_eq_false'] at this
              rw [show mid + m - 1 - s = mid + m - s - 1 from by omega] at this
              rw [← hx s (mid + m - s - 1) (by omega) (by omega) (by omega) (by omega)]; exact this
        generalize hsd : (if mid < m then bsr (fun c => !lt d[mid + m - 1 - c]! d[c]!) (mid + m - b) mid else bsr (fun c => !lt d[mid + m - 1 - c]! d[c]!) a m) = s
        obtain ⟨k1, k2, k3, k4, k5, k6⟩ := key s hsd
        clear key hsd
        obtain ⟨e, he⟩ : ∃ e, mid + m - s = e := ⟨_, rfl⟩
        rw [he] at k4 k5 k6 ⊢
        -- the turn
        have hrot : ∀ d1, (if s < m ∧ m < e then rot m (b - a) (m - s) (e - m) d else d) = d1 → PermIn a b d d1 ∧ Rotd s m e d d1 := by
          intro d1 hd1
          by_cases c : s < m ∧ m < e
          · rw [if_pos c] at hd1
            obtain ⟨r1, r2⟩ := rot_spec m (b - a) (m - s) (e - m) d (by omega) (by omega) (by omega) (by omega) (by omega)
            rw [hd1, show m - (m - s) = s from by omega, show m + (e - m) = e from by omega] at r1 r2
            exact ⟨permIn_mono _ _ _ _ _ _ (by omega) (by omega) hs r1, r2⟩
          · rw [if_neg c] at hd1
            subst hd1
            refine ⟨permIn_refl _ _ _, fun p => ?_⟩
            by_cases c1 : s ≤ p ∧ p < s + (e - m)
            · rw [if_pos c1, show m - s = 0 from by omega]; rfl
            · rw [if_neg c1]
              by_cases c2 : s + (e - m) ≤ p ∧ p < e
              · rw [if_pos c2, show e - m = 0 from by omega]; rfl
              · rw [if_neg c2]
        generalize hd1 : (if s < m ∧ m < e then rot m (b - a) (m - s) (e - m) d else d) = d1
        obtain ⟨p1, t1⟩ := hrot d1 hd1
        clear hrot hd1
        have hmd : s + (e - m) = mid := by omega
        have z1 : d1.size = d.size := p1.1
        have L1 : ∀ p, p < s → d1[p]! = d[p]! := fun p hp => by rw [t1, if_neg (by omega), if_neg (by omega)]
        have R1 : ∀ p, s ≤ p → p < mid → d1[p]! = d[p + (m - s)]! := fun p h h' => by rw [t1, if_pos (by omega)]
        have L2 : ∀ p, mid ≤ p → p < e → d1[p]! = d[p - (e - m)]! := fun p h h' => by rw [t1, if_neg (by omega), if_pos (by omega)]
        have R2 : ∀ p, e ≤ p → d1[p]! = d[p]! := fun p hp => by rw [t1, if_neg (by omega), if_neg (by omega)]
        -- both halves, sorted by themselves
        have hleft : ∀ d2, (if a < s ∧ s < mid then symMerge lt f a s mid d1 else d1) = d2 → PermIn a mid d1 d2 ∧ SortedIn R a mid d2 := by
          intro d2 hd2
          by_cases c : a < s ∧ s < mid
          · rw [if_pos c] at hd2
            subst hd2
            refine symMerge_ok hR f a s mid d1 (by omega) c.1 c.2 (by omega) (fun p q h3 h4 h5 => ?_) (fun p q h3 h4 h5 => ?_) (fun i j h3 h4 h5 h6 => ?_)
            · rw [L1 p (by omega), L1 q (by omega)]; exact hl p q h3 h4 (by omega)
            · rw [R1 p (by omega) (by omega), R1 q (by omega) (by omega)]; exact hr _ _ (by omega) (by omega) (by omega)
            · rw [L1 i (by omega), R1 j (by omega) (by omega)]; exact hx _ _ (by omega) (by omega) (by omega) (by omega)
          · rw [if_neg c] at hd2
            subst hd2
            refine ⟨permIn_refl _ _ _, fun p q h3 h4 h5 => ?_⟩
            by_cases c3 : s = a
            · rw [R1 p (by omega) (by omega), R1 q (by omega) (by omega)]; exact hr _ _ (by omega) (by omega) (by omega)
            · rw [L1 p (by omega), L1 q (by omega)]; exact hl p q h3 h4 (by omega)
        generalize hd2 : (if a < s ∧ s < mid then symMerge lt f a s mid d1 else d1) = d2
        obtain ⟨p2, s2⟩ := hleft d2 hd2
        clear hleft hd2
        have z2 : d2.size = d.size := by rw [p2.1, z1]
        have B2 : ∀ p, mid ≤ p → d2[p]! = d1[p]! := fun p hp => p2.2.1 p (.inr hp)
        have hright : ∀ d3, (if mid < e ∧ e < b then symMerge lt f mid e b d2 else d2) = d3 → PermIn mid b d2 d3 ∧ SortedIn R mid b d3 := by
          intro d3 hd3
          by_cases c : mid < e ∧ e < b
          · rw [if_pos c] at hd3
            subst hd3
            refine symMerge_ok hR f mid e b d2 (by omega) c.1 c.2 (by omega) (fun p q h3 h4 h5 => ?_) (fun p q h3 h4 h5 => ?_) (fun i j h3 h4 h5 h6 => ?_)
            · rw [B2 p (by omega), B2 q (by omega), L2 p (by omega) (by omega), L2 q (by omega) (by omega)]; exact hl _ _ (by omega) (by omega) (by omega)
            · rw [B2 p (by omega), B2 q (by omega), R2 p (by omega), R2 q (by omega)]; exact hr _ _ (by omega) (by omega) (by omega)
            · rw [B2 i (by omega), B2 j (by omega), L2 i (by omega) (by omega), R2 j (by omega)]; exact hx _ _ (by omega) (by omega) (by omega) (by omega)
          · rw [if_neg c] at hd3
            subst hd3
            refine ⟨permIn_refl _ _ _, fun p q h3 h4 h5 => ?_⟩
            rw [B2 p (by omega), B2 q (by omega)]
            by_cases c3 : e = mid
            · rw [R2 p (by omega), R2 q (by omega)]; exact hr _ _ (by omega) (by omega) (by omega)
            · rw [L2 p (by omega) (by omega), L2 q (by omega) (by omega)]; exact hl _ _ (by omega) (by omega) (by omega)
        generalize hd3 : (if mid < e ∧ e < b then symMerge lt f mid e b d2 else d2) = d3
        obtain ⟨p3, s3⟩ := hright d3 hd3
        clear hright hd3
        have z3 : d3.size = d.size := by rw [p3.1, z2]
        -- nothing of the right half is less than anything of the left one
        have c0 : ∀ i j, a ≤ i → i < mid → mid ≤ j → j < b → R d1[j]! d1[i]! = false := by
          intro i j h3 h4 h5 h6
          by_cases ci : i < s
          · rw [L1 i ci]
            by_cases cj : j < e
            · rw [L2 j h5 cj]; exact hl _ _ (by omega) (by omega) (by omega)
            · rw [R2 j (by omega)]
              have hk := k5 (by omega) (by omega)
              have hb1 : R d[e]! d[i]! = false := by
                by_cases hi : i = s - 1
                · rw [hi]; exact hk
                · exact hR.ntrans _ _ _ hk (hl i (s - 1) (by omega) (by omega) (by omega))
              by_cases hj : j = e
              · rw [hj]; exact hb1
              · exact hR.ntrans _ _ _ (hr e j (by omega) (by omega) (by omega)) hb1
          · rw [R1 i (by omega) h4]
            by_cases cj : j < e
            · rw [L2 j h5 cj]
              have hk := hR.asymmA (k6 (by omega) (by omega))
              have hb1 : R d[s]! d[i + (m - s)]! = false := by
                by_cases hi : i + (m - s) = e - 1
                · rw [hi]; exact hk
                · exact hR.ntrans _ _ _ hk (hr _ (e - 1) (by omega) (by omega) (by omega))
              by_cases hj : j - (e - m) = s
              · rw [hj]; exact hb1
              · exact hR.ntrans _ _ _ (hl s _ (by omega) (by omega) (by omega)) hb1
            · rw [R2 j (by omega)]; exact hr _ _ (by omega) (by omega) (by omega)
        have c1 : ∀ i j, a ≤ i → i < mid → mid ≤ j → j < b → R d3[j]! d3[i]! = false := by
          intro i j h3 h4 h5 h6
          have e1 : ∀ i', a ≤ i' → i' < mid → R d3[j]! d2[i']! = false := by
            intro i' h7 h8
            refine permIn_all d2 d3 mid b (fun y => R y d2[i']! = false) (by omega) p3 (fun j' h9 h10 => ?_) j h5 h6
            rw [B2 j' h9]
            exact permIn_all d1 d2 a mid (fun x => R d1[j']! x = false) (by omega) p2 (fun i'' h11 h12 => c0 i'' j' h11 h12 h9 h10) i' h7 h8
          rw [p3.2.1 i (.inl h4)]
          exact e1 i h3 h4
        refine ⟨permIn_trans _ _ _ _ _ p1 (permIn_trans _ _ _ _ _ (permIn_mono _ _ _ _ _ _ (Nat.le_refl _) (by omega) (by omega) p2) (permIn_mono _ _ _ _ _ _ (by omega) (Nat.le_refl _) (by omega) p3)), fun p q h3 h4 h5 => ?_⟩
        by_cases cq : q < mid
        · rw [p3.2.1 p (.inl (by omega)), p3.2.1 q (.inl (by omega))]; exact s2 p q h3 h4 cq
        · by_cases cp : p < mid
          · exact c1 p q h3 cp (by omega) h5
          · exact s3 p q (by omega) h4 h5

end Go.Proofs.YthncochjhbmceaaGreat

namespace Go.Proofs.YthncochjhbmceaaGreat
open Go.Sort
variable {α : Type} [Inhabited α] {lt R : α → α → Bool}

theorem insInner_perm (lt : α → α → Bool) (a i : Nat) : ∀ (j : Nat) (d : Array α), a ≤ j → j ≤ i → i < d.size → PermIn a (i + 1) d (insInner lt a j d)
  | 0, d, _, _, _ => permIn_refl _ _ _
  | j + 1, d, h1, h2, h3 => by
    rw [insInner]
    split
    · rename_i hc
      simp only [Bool.and_eq_true, decide_eq_true_eq] at hc
      exact permIn_trans _ _ _ _ _ (swp_permIn d a (i + 1) (j + 1) j h1 (by omega) (by omega) (by omega) (by omega)) (insInner_perm lt a i j _ (by omega) (by omega) (by rw [size_swp]; exact h3))
    · exact permIn_refl _ _ _

theorem insInner_congr (a : Nat) : ∀ (j : Nat) (d : Array α), j < d.size → (∀ p, a ≤ p → p < j → lt d[j]! d[p]! = R d[j]! d[p]!) → insInner lt a j d = insInner R a j d
  | 0, d, _, _ => rfl
  | j + 1, d, hs, h => by
    rw [insInner, insInner]
    by_cases ha : j + 1 > a
    · rw [h j (by omega) (by omega)]
      have g := swp_get d hs (show j < d.size by omega)
      rw [insInner_congr a j (swp d (j + 1) j) (by rw [size_swp]; omega) fun p hp hpj => by
        rw [g, g, if_pos rfl, if_neg (by omega), if_neg (by omega)]
        exact h p hp (by omega)]
    · have : decide (j + 1 > a) = false := decide_eq_false ha
      rw [this]
      simp

theorem insOuter_congr (a b : Nat) : ∀ (r i : Nat) (d : Array α), b - i = r → a ≤ i → b ≤ d.size → (∀ j p, i ≤ j → j < b → a ≤ p → p < j → lt d[j]! d[p]! = R d[j]! d[p]!) → insOuter lt a b i d = insOuter R a b i d
  | 0, i, d, hr, _, _, _ => by
    conv => rhs; rw [insOuter, if_neg (by omega)]
    rw [insOuter, if_neg (by omega)]
  | r + 1, i, d, hr, hai, hb, h => by
    conv => rhs; rw [insOuter, if_pos (by omega)]
    rw [insOuter, if_pos (by omega), insInner_congr a i d (by omega) fun p hp hpi => h i p (Nat.le_refl _) (by omega) hp hpi]
    have hp := insInner_perm R a i i d hai (Nat.le_refl _) (by omega)
    refine insOuter_congr a b r (i + 1) _ (by omega) (by omega) (by rw [hp.1]; exact hb) fun j p hj hjb hap hpj => ?_
    rw [hp.2.1 j (.inr (by omega))]
    by_cases hpi : p < i + 1
    · exact permIn_all d _ a (i + 1) (fun x => lt d[j]! x = R d[j]! x) (by omega) hp (fun q hq hqi => h j q (by omega) hjb hq (by omega)) p hap hpi
    · rw [hp.2.1 p (.inr (by omega))]
      exact h j p (by omega) hjb hap hpj

theorem insertion_ok (hR : SWO R) (d : Array α) (a b : Nat) (hab : a ≤ b) (hb : b ≤ d.size) (h : ∀ j p, j < b → a ≤ p → p < j → lt d[j]! d[p]! = R d[j]! d[p]!) :
    PermIn a b d (insertionSort lt d a b) ∧ SortedIn R a b (insertionSort lt d a b) := by
  have e : insertionSort lt d a b = insertionSort R d a b := insOuter_congr a b _ (a + 1) d rfl (by omega) hb fun j p _ hjb hap hpj => h j p hjb hap hpj
  rw [e]
  exact insertionSort_holds hR d a b hab hb

/-- what a stage of blocks of B leaves, from a on -/
structure Stage (R : α → α → Bool) (B n a : Nat) (d d' : Array α) : Prop where
  perm : PermIn a n d d'
  sorted : ∀ t, a ≤ t * B → SortedIn R (t * B) (min (t * B + B) n) d'
  from_ : ∀ t, a ≤ t * B → ∀ p, t * B ≤ p → p < min (t * B + B) n → ∃ q, t * B ≤ q ∧ q < min (t * B + B) n ∧ d'[p]! = d[q]!

theorem from_perm {d d' : Array α} {a b : Nat} (hb : b ≤ d.size) (h : PermIn a b d d') (p : Nat) (h1 : a ≤ p) (h2 : p < b) : ∃ q, a ≤ q ∧ q < b ∧ d'[p]! = d[q]! :=
  permIn_all d d' a b (fun x => ∃ q, a ≤ q ∧ q < b ∧ x = d[q]!) hb h (fun q h3 h4 => ⟨q, h3, h4, rfl⟩) p h1 h2

/-- one block, then the others -/
theorem Stage.cons {B n s : Nat} {d d1 d2 : Array α} (hn : n ≤ d.size) (hB : 0 < B) (hs : s * B + B ≤ n) (p1 : PermIn (s * B) (s * B + B) d d1) (s1 : SortedIn R (s * B) (s * B + B) d1) (h : Stage R B n (s * B + B) d1 d2) : Stage R B n (s * B) d d2 := by
  have hmin : min (s * B + B) n = s * B + B := by omega
  refine ⟨permIn_trans _ _ _ _ _ (permIn_mono _ _ _ _ _ _ (Nat.le_refl _) hs hn p1) (permIn_mono _ _ _ _ _ _ (by omega) (Nat.le_refl _) (by rw [p1.1]; exact hn) h.perm), fun t ht => ?_, fun t ht p hp1 hp2 => ?_⟩
  · by_cases he : s * B + B ≤ t * B
    · exact h.sorted t he
    · have hts : t = s := by
        have h1 : s ≤ t := Nat.le_of_mul_le_mul_right ht hB
        have h2 : ¬ s + 1 ≤ t := fun h3 => he (by have := Nat.mul_le_mul_right B h3; rw [Nat.add_mul, Nat.one_mul] at this; exact this)
        omega
      subst hts
      rw [hmin]
      intro i j h1 h2 h3
      rw [h.perm.2.1 i (.inl (by omega)), h.perm.2.1 j (.inl (by omega))]
      exact s1 i j h1 h2 h3
  · by_cases he : s * B + B ≤ t * B
    · obtain ⟨q, q1, q2, q3⟩ := h.from_ t he p hp1 hp2
      exact ⟨q, q1, q2, by rw [q3, p1.2.1 q (.inr (by omega))]⟩
    · have hts : t = s := by
        have h1 : s ≤ t := Nat.le_of_mul_le_mul_right ht hB
        have h2 : ¬ s + 1 ≤ t := fun h3 => he (by have := Nat.mul_le_mul_right B h3; rw [Nat.add_mul, Nat.one_mul] at this; exact this)
        omega
      subst hts
      rw [hmin] at hp2 ⊢
      rw [h.perm.2.1 p (.inl (by omega))]
      exact from_perm (by omega) p1 p hp1 hp2

/-- the last block -/
theorem Stage.last {B n s : Nat} {d d1 : Array α} (hn : n ≤ d.size) (hB : 0 < B) (hs : n < s * B + B) (hs0 : s * B ≤ n) (p1 : PermIn (s * B) n d d1) (s1 : SortedIn R (s * B) n d1) : Stage R B n (s * B) d d1 := by
  have key : ∀ t, s * B ≤ t * B → t = s ∨ n ≤ t * B := fun t ht => by
    have h1 : s ≤ t := Nat.le_of_mul_le_mul_right ht hB
    rcases Nat.lt_or_ge s t with h2 | h2
    · right
      have := Nat.mul_le_mul_right B h2
      rw [Nat.succ_mul] at this
      omega
    · left; omega
  have hmin : min (s * B + B) n = n := by omega
  refine ⟨p1, fun t ht => ?_, fun t ht p hp1 hp2 => ?_⟩
  · rcases key t ht with rfl | h
    · rw [hmin]; exact s1
    · intro i j h1 h2 h3; omega
  · rcases key t ht with rfl | h
    · rw [hmin] at hp2 ⊢; exact from_perm hn p1 p hp1 hp2
    · omega

theorem insBlocks_ok (hR : SWO R) (n : Nat) : ∀ (r s : Nat) (d : Array α), n - s * 20 ≤ r → s * 20 ≤ n → n ≤ d.size → (∀ j p, j < n → s * 20 ≤ p → p < j → lt d[j]! d[p]! = R d[j]! d[p]!) → Stage R 20 n (s * 20) d (insBlocks lt n (s * 20) d) := by
  intro r
  induction r with
  | zero =>
    intro s d hr hs hn h
    rw [insBlocks, if_neg (by omega)]
    obtain ⟨p1, s1⟩ := insertion_ok hR d (s * 20) n hs hn h
    exact Stage.last hn (by decide) (by omega) hs p1 s1
  | succ r ih =>
    intro s d hr hs hn h
    rw [insBlocks]
    by_cases hlt : s * 20 + 20 ≤ n
    · rw [if_pos hlt]
      obtain ⟨p1, s1⟩ := insertion_ok (lt := lt) hR d (s * 20) (s * 20 + 20) (by omega) (by omega) fun j p hj hp hpj => h j p (by omega) hp hpj
      have h2 := ih (s + 1) (insertionSort lt d (s * 20) (s * 20 + 20)) (by omega) (by omega) (by rw [p1.1]; exact hn) fun j p hj hp hpj => by
        rw [p1.2.1 j (.inr (by omega)), p1.2.1 p (.inr (by omega))]
        exact h j p hj (by omega) hpj
      rw [show (s + 1) * 20 = s * 20 + 20 from by omega] at h2
      exact h2.cons hn (by decide) hlt p1 s1
    · rw [if_neg hlt]
      obtain ⟨p1, s1⟩ := insertion_ok hR d (s * 20) n hs hn h
      exact Stage.last hn (by decide) (by omega) hs p1 s1

theorem pass_ok (hR : SWO R) (blk n : Nat) (hb : 0 < blk) : ∀ (f s : Nat) (d : Array α), n + 1 ≤ f + s * (2 * blk) → s * (2 * blk) ≤ n → n ≤ d.size → (∀ t, s * (2 * blk) ≤ t * blk → SortedIn R (t * blk) (min (t * blk + blk) n) d) →
    (∀ i j, s * (2 * blk) ≤ i → i < j → j < n → i / blk < j / blk → lt d[j]! d[i]! = R d[j]! d[i]!) → Stage R (2 * blk) n (s * (2 * blk)) d (pass lt blk n f (s * (2 * blk)) d)
  | 0, s, d, hf, hs, hn, hS, hC => by omega
  | f + 1, s, d, hf, hs, hn, hS, hC => by
    have e1 : s * (2 * blk) = (2 * s) * blk := by rw [← Nat.mul_assoc, Nat.mul_comm s 2]
    have e2 : s * (2 * blk) + blk = (2 * s + 1) * blk := by rw [e1, Nat.add_mul, Nat.one_mul]
    have hcross : ∀ b, b ≤ n → Cross lt R (s * (2 * blk)) (s * (2 * blk) + blk) b d := fun b hbn i j h1 h2 h3 h4 => by
      refine hC i j h1 (by omega) (by omega) ?_
      have h5 : i / blk < 2 * s + 1 := (Nat.div_lt_iff_lt_mul hb).2 (by rw [← e2]; exact h2)
      have h6 : 2 * s + 1 ≤ j / blk := (Nat.le_div_iff_mul_le hb).2 (by rw [← e2]; exact h3)
      omega
    have s0 := hS (2 * s) (Nat.le_of_eq e1)
    have s1 := hS (2 * s + 1) (by rw [← e2]; omega)
    rw [← e1] at s0
    rw [← e2] at s1
    rw [pass]
    by_cases hlt : s * (2 * blk) + 2 * blk ≤ n
    · rw [if_pos hlt]
      rw [Nat.min_eq_left (by omega)] at s0
      rw [show min (s * (2 * blk) + blk + blk) n = s * (2 * blk) + 2 * blk from by omega] at s1
      obtain ⟨p1, q1⟩ := symMerge_ok (lt := lt) hR (2 * blk) (s * (2 * blk)) (s * (2 * blk) + blk) (s * (2 * blk) + 2 * blk) d (by omega) (by omega) (by omega) (by omega) s0 s1 (hcross _ hlt)
      have e3 : (s + 1) * (2 * blk) = s * (2 * blk) + 2 * blk := by rw [Nat.add_mul, Nat.one_mul]
      have h2 := pass_ok hR blk n hb f (s + 1) (symMerge lt (2 * blk) (s * (2 * blk)) (s * (2 * blk) + blk) (s * (2 * blk) + 2 * blk) d) (by omega) (by omega) (by rw [p1.1]; exact hn)
        (fun t ht i j h3 h4 h5 => by rw [p1.2.1 i (.inr (by omega)), p1.2.1 j (.inr (by omega))]; exact hS t (by omega) i j h3 h4 h5)
        (fun i j h3 h4 h5 h6 => by rw [p1.2.1 i (.inr (by omega)), p1.2.1 j (.inr (by omega))]; exact hC i j (by omega) h4 h5 h6)
      rw [e3] at h2
      exact h2.cons hn (by omega) hlt p1 q1
    · rw [if_neg hlt]
      by_cases hl2 : s * (2 * blk) + blk < n
      · rw [if_pos hl2]
        rw [Nat.min_eq_left (by omega)] at s0
        rw [show min (s * (2 * blk) + blk + blk) n = n from by omega] at s1
        obtain ⟨p1, q1⟩ := symMerge_ok (lt := lt) hR (n - s * (2 * blk)) (s * (2 * blk)) (s * (2 * blk) + blk) n d (by omega) (by omega) hl2 hn s0 s1 (hcross _ (Nat.le_refl _))
        exact Stage.last hn (by omega) (by omega) hs p1 q1
      · rw [if_neg hl2]
        rw [Nat.min_eq_right (by omega)] at s0
        exact Stage.last hn (by omega) (by omega) hs (permIn_refl _ _ _) s0

theorem passes_ok (hR : SWO R) (n : Nat) : ∀ (f blk : Nat) (d : Array α), 0 < blk → n ≤ f + blk → n ≤ d.size → (∀ t, SortedIn R (t * blk) (min (t * blk + blk) n) d) → (∀ i j, i < j → j < n → i / blk < j / blk → lt d[j]! d[i]! = R d[j]! d[i]!) →
    PermIn 0 n d (passes lt n f blk d) ∧ SortedIn R 0 n (passes lt n f blk d) := by
  intro f
  induction f with
  | zero =>
    intro blk d hb hf hn hS hC
    rw [passes]
    have := hS 0
    rw [Nat.zero_mul, Nat.zero_add, Nat.min_eq_right (by omega)] at this
    exact ⟨permIn_refl _ _ _, this⟩
  | succ f ih =>
    intro blk d hb hf hn hS hC
    rw [passes]
    by_cases hlt : blk < n
    · rw [if_pos hlt]
      have h1 := pass_ok (lt := lt) hR blk n hb (n + 1) 0 d (by omega) (by omega) hn (fun t _ => hS t) (fun i j _ => hC i j)
      rw [Nat.zero_mul] at h1
      have hin : ∀ i, i < n → ∃ q, d[q]! = (pass lt blk n (n + 1) 0 d)[i]! ∧ q < n ∧ q / (2 * blk) = i / (2 * blk) := fun i hi => by
        have h2 := Nat.div_mul_le_self i (2 * blk)
        have h3 := Nat.lt_div_mul_add (a := i) (b := 2 * blk) (by omega)
        obtain ⟨q, q1, q2, q3⟩ := h1.from_ (i / (2 * blk)) (Nat.zero_le _) i h2 (by omega)
        refine ⟨q, q3.symm, by omega, ?_⟩
        have h4 : i / (2 * blk) ≤ q / (2 * blk) := (Nat.le_div_iff_mul_le (by omega)).2 q1
        have h5 : q / (2 * blk) < i / (2 * blk) + 1 := (Nat.div_lt_iff_lt_mul (by omega)).2 (by rw [Nat.add_mul, Nat.one_mul]; omega)
        omega
      obtain ⟨p2, s2⟩ := ih (2 * blk) (pass lt blk n (n + 1) 0 d) (by omega) (by omega) (by rw [h1.perm.1]; exact hn) (fun t => h1.sorted t (Nat.zero_le _)) fun i j hij hj hlt2 => by
        obtain ⟨qi, e1, l1, m1⟩ := hin i (by omega)
        obtain ⟨qj, e2, l2, m2⟩ := hin j hj
        rw [← e1, ← e2]
        have h6 : qi / (2 * blk) < qj / (2 * blk) := by omega
        have h7 : qi / blk < qj / blk := by
          rcases Nat.lt_or_ge (qi / blk) (qj / blk) with h | h
          · exact h
          · have := Nat.div_le_div_right (c := 2) h
            rw [Nat.div_div_eq_div_mul, Nat.div_div_eq_div_mul, Nat.mul_comm blk 2] at this
            omega
        have h8 : qi < qj := by
          rcases Nat.lt_or_ge qi qj with h | h
          · exact h
          · have := Nat.div_le_div_right (c := blk) h
            omega
        exact hC qi qj h8 l2 h7
      exact ⟨permIn_trans _ _ _ _ _ h1.perm p2, s2⟩
    · rw [if_neg hlt]
      have := hS 0
      rw [Nat.zero_mul, Nat.zero_add, Nat.min_eq_right (by omega)] at this
      exact ⟨permIn_refl _ _ _, this⟩

/-- THE LAW: sorted by R, and a permutation. -/
theorem stable_ok (hR : SWO R) (d : Array α) (h : ∀ i j, i < j → j < d.size → lt d[j]! d[i]! = R d[j]! d[i]!) : PermIn 0 d.size d (stable lt d.size d) ∧ SortedIn R 0 d.size (stable lt d.size d) := by
  have h1 := insBlocks_ok (lt := lt) hR d.size d.size 0 d (by omega) (by omega) (Nat.le_refl _) fun j p hj _ hpj => h p j hpj hj
  rw [Nat.zero_mul] at h1
  have hin : ∀ i, i < d.size → ∃ q, d[q]! = (insBlocks lt d.size 0 d)[i]! ∧ q < d.size ∧ q / 20 = i / 20 := fun i hi => by
    obtain ⟨q, q1, q2, q3⟩ := h1.from_ (i / 20) (Nat.zero_le _) i (by omega) (by omega)
    exact ⟨q, q3.symm, by omega, by omega⟩
  obtain ⟨p2, s2⟩ := passes_ok (lt := lt) hR d.size d.size 20 (insBlocks lt d.size 0 d) (by decide) (by omega) (by rw [h1.perm.1]; exact Nat.le_refl _) (fun t => h1.sorted t (Nat.zero_le _)) fun i j hij hj hlt => by
    obtain ⟨qi, e1, l1, m1⟩ := hin i (by omega)
    obtain ⟨qj, e2, l2, m2⟩ := hin j hj
    rw [← e1, ← e2]
    exact h qi qj (by omega) l2
  exact ⟨permIn_trans _ _ _ _ _ h1.perm p2, s2⟩
end Go.Proofs.YthncochjhbmceaaGreat
