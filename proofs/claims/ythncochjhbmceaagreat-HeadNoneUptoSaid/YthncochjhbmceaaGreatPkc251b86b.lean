/- The library's stable sort, as functions on arrays: what it leaves is sorted by an order that tells equals by where they stood. No condition. No program in this text. What the stable sort leaves is sorted, equals as they stood. No condition. No program in this text. The stable sort of a list, plainly: a permutation, in order, stable; and a world of the sort's as a block. No condition. cmp.Compare at int64. No condition. slices.SortFunc at labels, whatever order: what it leaves. Condition: the order has a contract, the row is within the reach. -/
import Derived.Sort.LotA
import Derived.Test.YthncochjhbmceaaGreatPkb5fb2d9c
import Derived.Shelf.SlSortCmp.KitK
import Derived.Test.YthncochjhbmceaaGreatPk8f29ada1
import Derived.Shelf.SlSortCmp.WholeK
namespace Go.Proofs.YthncochjhbmceaaGreat
open Go.Sort
variable {α : Type} [Inhabited α]

/-- 'for i := 0; i < n; i++ { swap a+i, b+i }', from i -/
def swapFrom (a b n i : Nat) (d : Array α) : Array α := if i < n then swapFrom a b n (i + 1) (swp d (a + i) (b + i)) else d
termination_by n - i

/-- the loop of rotate -/
def rot (m : Nat) : Nat → Nat → Nat → Array α → Array α
  | 0, _, _, d => d
  | f + 1, i, j, d =>
    if i = j then swapFrom (m - i) m i 0 d
    else if j < i then rot m f (i - j) j (swapFrom (m - i) m j 0 d)
    else rot m f i (j - i) (swapFrom (m - i) (m + j - i) i 0 d)

/-- where a binary search comes to an end -/
def bsr (p : Nat → Bool) (i j : Nat) : Nat := if i < j then (if p ((i + j) / 2) then bsr p ((i + j) / 2 + 1) j else bsr p i ((i + j) / 2)) else i
termination_by j - i

/-- 'for k := a; k < t; k++ { swap k, k+1 }', from k -/
def moveUp (t k : Nat) (d : Array α) : Array α := if k < t then moveUp t (k + 1) (swp d k (k + 1)) else d
termination_by t - k
/-- 'for k := m; k > i; k-- { swap k, k-1 }', from k -/
def moveDown (i : Nat) : Nat → Array α → Array α
  | 0, d => d
  | k + 1, d => if i < k + 1 then moveDown i k (swp d (k + 1) k) else d

def symMerge (lt : α → α → Bool) : Nat → Nat → Nat → Nat → Array α → Array α
  | 0, _, _, _, d => d
  | f + 1, a, m, b, d =>
    if m - a = 1 then moveUp (bsr (fun h => lt d[h]! d[a]!) m b - 1) a d
    else if b - m = 1 then moveDown (bsr (fun h => !lt d[m]! d[h]!) a m) m d
    else
      let mid := (a + b) / 2
      let n := mid + m
      let s := if mid < m then bsr (fun c => !lt d[n - 1 - c]! d[c]!) (n - b) mid else bsr (fun c => !lt d[n - 1 - c]! d[c]!) a m
      let e := n - s
      let d1 := if s < m ∧ m < e then rot m (b - a) (m - s) (e - m) d else d
      let d2 := if a < s ∧ s < mid then symMerge lt f a s mid d1 else d1
      if mid < e ∧ e < b then symMerge lt f mid e b d2 else d2

/-- the blocks of the first rounds, from a -/
def insBlocks (lt : α → α → Bool) (n a : Nat) (d : Array α) : Array α := if a + 20 ≤ n then insBlocks lt n (a + 20) (insertionSort lt d a (a + 20)) else insertionSort lt d a n
termination_by n - a
/-- one pass of merges of blocks of blk, from a -/
def pass (lt : α → α → Bool) (blk n : Nat) : Nat → Nat → Array α → Array α
  | 0, _, d => d
  | f + 1, a, d => if a + 2 * blk ≤ n then pass lt blk n f (a + 2 * blk) (symMerge lt (2 * blk) a (a + blk) (a + 2 * blk) d) else if a + blk < n then symMerge lt (n - a) a (a + blk) n d else d
def passes (lt : α → α → Bool) (n : Nat) : Nat → Nat → Array α → Array α
  | 0, _, d => d
  | f + 1, blk, d => if blk < n then passes lt n f (2 * blk) (pass lt blk n (n + 1) 0 d) else d
def stable (lt : α → α → Bool) (n : Nat) (d : Array α) : Array α := passes lt n n 20 (insBlocks lt n 0 d)

/-! What they do. -/
theorem swapFrom_spec (a b n : Nat) (hab : a + n ≤ b) : ∀ (r i : Nat) (d : Array α), n - i = r → i ≤ n → b + n ≤ d.size →
    (swapFrom a b n i d).size = d.size ∧ ∀ p, (swapFrom a b n i d)[p]! = if a + i ≤ p ∧ p < a + n then d[p - a + b]! else if b + i ≤ p ∧ p < b + n then d[p - b + a]! else d[p]!
  | 0, i, d, hr, hi, hs => by
    rw [swapFrom, if_neg (by omega)]
    refine ⟨rfl, fun p => ?_⟩
    rw [if_neg (by omega), if_neg (by omega)]
  | r + 1, i, d, hr, hi, hs => by
    rw [swapFrom, if_pos (by omega)]
    obtain ⟨h1, h2⟩ := swapFrom_spec a b n hab r (i + 1) (swp d (a + i) (b + i)) (by omega) (by omega) (by rw [size_swp]; exact hs)
    refine ⟨by rw [h1, size_swp], fun p => ?_⟩
    have g := swp_get d (show a + i < d.size by omega) (show b + i < d.size by omega)
    rw [h2, g, g, g]
    by_cases c1 : a + i ≤ p ∧ p < a + n
    · rw [if_pos c1]
      by_cases c2 : p = a + i
      · subst c2
        rw [if_neg (by omega), if_neg (by omega), if_neg (by omega), if_pos rfl, show a + i - a + b = b + i from by omega]
      · rw [if_pos (by omega), if_neg (by omega), if_neg (by omega)]
    · rw [if_neg c1, if_neg (by omega)]
      by_cases c3 : b + i ≤ p ∧ p < b + n
      · rw [if_pos c3]
        by_cases c2 : p = b + i
        · subst c2
          rw [if_neg (by omega), if_pos rfl, show b + i - b + a = a + i from by omega]
        · rw [if_pos (by omega), if_neg (by omega), if_neg (by omega)]
      · rw [if_neg c3, if_neg (by omega), if_neg (by omega), if_neg (by omega)]

theorem swapFrom_perm (a b n lo hi : Nat) (h1 : lo ≤ a) (h2 : a + n ≤ hi) (h3 : lo ≤ b) (h4 : b + n ≤ hi) : ∀ (r i : Nat) (d : Array α), n - i = r → i ≤ n → hi ≤ d.size → PermIn lo hi d (swapFrom a b n i d)
  | 0, i, d, hr, hi', hs => by rw [swapFrom, if_neg (by omega)]; exact permIn_refl _ _ _
  | r + 1, i, d, hr, hi', hs => by
    rw [swapFrom, if_pos (by omega)]
    exact permIn_trans _ _ _ _ _ (swp_permIn d lo hi (a + i) (b + i) (by omega) (by omega) (by omega) (by omega) hs) (swapFrom_perm a b n lo hi h1 h2 h3 h4 r (i + 1) _ (by omega) (by omega) (by rw [size_swp]; exact hs))

/-- [s, m) and [m, e) are exchanged -/
def Rotd (s m e : Nat) (d d' : Array α) : Prop := ∀ p, d'[p]! = if s ≤ p ∧ p < s + (e - m) then d[p + (m - s)]! else if s + (e - m) ≤ p ∧ p < e then d[p - (e - m)]! else d[p]!

theorem rot_spec (m : Nat) : ∀ (f i j : Nat) (d : Array α), 0 < i → 0 < j → i ≤ m → i + j ≤ f + 1 → m + j ≤ d.size → PermIn (m - i) (m + j) d (rot m f i j d) ∧ Rotd (m - i) m (m + j) d (rot m f i j d)
  | 0, i, j, d, h1, h2, h3, h4, h5 => by omega
  | f + 1, i, j, d, h1, h2, h3, h4, h5 => by
    rw [rot]
    by_cases hij : i = j
    · subst hij
      rw [if_pos rfl]
      obtain ⟨q1, q2⟩ := swapFrom_spec (m - i) m i (by omega) _ 0 d rfl (by omega) h5
      refine ⟨swapFrom_perm (m - i) m i (m - i) (m + i) (by omega) (by omega) (by omega) (by omega) _ 0 d rfl (by omega) h5, fun p => ?_⟩
      rw [q2]
      by_cases c1 : m - i ≤ p ∧ p < m
      · rw [if_pos (by omega), if_pos (by omega), show p - (m - i) + m = p + (m - (m - i)) from by omega]
      · by_cases c2 : m ≤ p ∧ p < m + i
        · rw [if_neg (by omega), if_pos (by omega), if_neg (by omega), if_pos (by omega), show p - m + (m - i) = p - (m + i - m) from by omega]
        · rw [if_neg (by omega), if_neg (by omega), if_neg (by omega), if_neg (by omega)]
    · rw [if_neg hij]
      by_cases hlt : j < i
      · rw [if_pos hlt]
        obtain ⟨q1, q2⟩ := swapFrom_spec (m - i) m j (by omega) _ 0 d rfl (by omega) h5
        have q3 := swapFrom_perm (m - i) m j (m - i) (m + j) (by omega) (by omega) (by omega) (by omega) _ 0 d rfl (by omega) h5
        obtain ⟨r1, r2⟩ := rot_spec m f (i - j) j (swapFrom (m - i) m j 0 d) (by omega) h2 (by omega) (by omega) (by rw [q1]; exact h5)
        refine ⟨permIn_trans _ _ _ _ _ q3 (permIn_mono _ _ _ _ _ _ (by omega) (Nat.le_refl _) (by rw [q1]; exact h5) r1), fun p => ?_⟩
        rw [r2]
        by_cases c1 : m - i ≤ p ∧ p < m - i + j
        · rw [if_neg (by omega), if_neg (by omega), q2, if_pos (by omega), if_pos (by omega)]
          congr 1; omega
        · rw [if_neg (show ¬(m - i ≤ p ∧ p < m - i + (m + j - m)) by omega)]
          by_cases c2 : m - i + j ≤ p ∧ p < m + j
          · rw [if_pos (show m - i + (m + j - m) ≤ p ∧ p < m + j by omega)]
            by_cases c3 : p < m - i + j + j
            · rw [if_pos (by omega), q2, if_neg (by omega), if_pos (by omega)]
              congr 1; omega
            · rw [if_neg (by omega), if_pos (by omega), q2, if_neg (by omega), if_neg (by omega)]
          · rw [if_neg (by omega), if_neg (by omega), if_neg (by omega), q2, if_neg (by omega), if_neg (by omega)]
      · rw [if_neg hlt]
        obtain ⟨q1, q2⟩ := swapFrom_spec (m - i) (m + j - i) i (by omega) _ 0 d rfl (by omega) (by omega)
        have q3 := swapFrom_perm (m - i) (m + j - i) i (m - i) (m + j) (by omega) (by omega) (by omega) (by omega) _ 0 d rfl (by omega) h5
        obtain ⟨r1, r2⟩ := rot_spec m f i (j - i) (swapFrom (m - i) (m + j - i) i 0 d) h1 (by omega) h3 (by omega) (by rw [q1]; omega)
        refine ⟨permIn_trans _ _ _ _ _ q3 (permIn_mono _ _ _ _ _ _ (Nat.le_refl _) (by omega) (by rw [q1]; exact h5) r1), fun p => ?_⟩
        rw [r2]
        by_cases c1 : m - i ≤ p ∧ p < m - i + j
        · rw [if_pos (show m - i ≤ p ∧ p < m - i + (m + j - m) by omega)]
          by_cases c3 : p < m - i + (j - i)
          · rw [if_pos (by omega), q2, if_neg (by omega), if_neg (by omega)]
          · rw [if_neg (by omega), if_pos (by omega), q2, if_pos (by omega)]
            congr 1; omega
        · rw [if_neg (show ¬(m - i ≤ p ∧ p < m - i + (m + j - m)) by omega), if_neg (by omega)]
          by_cases c2 : m - i + j ≤ p ∧ p < m + j
          · rw [if_pos (show m - i + (m + j - m) ≤ p ∧ p < m + j by omega), if_neg (by omega), q2, if_neg (by omega), if_pos (by omega)]
            congr 1; omega
          · rw [if_neg (by omega), if_neg (by omega), q2, if_neg (by omega), if_neg (by omega)]

theorem bsr_spec (p : Nat → Bool) : ∀ (r i j : Nat), j - i ≤ r → i ≤ j → i ≤ bsr p i j ∧ bsr p i j ≤ j ∧ (i < bsr p i j → p (bsr p i j - 1) = true) ∧ (bsr p i j < j → p (bsr p i j) = false)
  | 0, i, j, hr, hij => by
    rw [bsr, if_neg (by omega)]
    exact ⟨Nat.le_refl _, hij, fun h => by omega, fun h => by omega⟩
  | r + 1, i, j, hr, hij => by
    rw [bsr]
    by_cases hlt : i < j
    · rw [if_pos hlt]
      cases hp : p ((i + j) / 2) with
      | true =>
        rw [if_pos rfl]
        obtain ⟨a1, a2, a3, a4⟩ := bsr_spec p r ((i + j) / 2 + 1) j (by omega) (by omega)
        refine ⟨by omega, a2, fun h => ?_, a4⟩
        by_cases he : bsr p ((i + j) / 2 + 1) j = (i + j) / 2 + 1
        · rw [he, Nat.add_sub_cancel]; exact hp
        · exact a3 (by omega)
      | false =>
        rw [if_neg (by simp)]
        obtain ⟨a1, a2, a3, a4⟩ := bsr_spec p r i ((i + j) / 2) (by omega) (by omega)
        refine ⟨a1, by omega, a3, fun h => ?_⟩
        by_cases he : bsr p i ((i + j) / 2) = (i + j) / 2
        · rw [he]; exact hp
        · exact a4 (by omega)
    · rw [if_neg hlt]
      exact ⟨Nat.le_refl _, hij, fun h => by omega, fun h => by omega⟩

theorem moveUp_spec (t : Nat) : ∀ (r k : Nat) (d : Array α), t - k = r → k ≤ t → t < d.size → (moveUp t k d).size = d.size ∧ ∀ p, (moveUp t k d)[p]! = if k ≤ p ∧ p < t then d[p + 1]! else if p = t then d[k]! else d[p]!
  | 0, k, d, hr, hk, hs => by
    obtain rfl : k = t := by omega
    rw [moveUp, if_neg (by omega)]
    refine ⟨rfl, fun p => ?_⟩
    rw [if_neg (by omega)]
    by_cases h : p = k
    · rw [if_pos h, h]
    · rw [if_neg h]
  | r + 1, k, d, hr, hk, hs => by
    rw [moveUp, if_pos (by omega)]
    obtain ⟨h1, h2⟩ := moveUp_spec t r (k + 1) (swp d k (k + 1)) (by omega) (by omega) (by rw [size_swp]; exact hs)
    refine ⟨by rw [h1, size_swp], fun p => ?_⟩
    have g := swp_get d (show k < d.size by omega) (show k + 1 < d.size by omega)
    rw [h2, g, g, g]
    by_cases c1 : k ≤ p ∧ p < t
    · rw [if_pos c1]
      by_cases c2 : p = k
      · subst c2
        rw [if_neg (by omega), if_neg (by omega), if_neg (by omega), if_pos rfl]
      · rw [if_pos (by omega), if_neg (by omega), if_neg (by omega)]
    · rw [if_neg c1, if_neg (by omega)]
      by_cases c3 : p = t
      · rw [if_pos c3, if_pos c3, if_pos rfl]
      · rw [if_neg c3, if_neg c3, if_neg (by omega), if_neg (by omega)]

theorem moveUp_perm (t lo hi : Nat) (h2 : t < hi) : ∀ (r k : Nat) (d : Array α), t - k = r → lo ≤ k → hi ≤ d.size → PermIn lo hi d (moveUp t k d)
  | 0, k, d, hr, hk, hs => by rw [moveUp, if_neg (by omega)]; exact permIn_refl _ _ _
  | r + 1, k, d, hr, hk, hs => by
    rw [moveUp, if_pos (by omega)]
    exact permIn_trans _ _ _ _ _ (swp_permIn d lo hi k (k + 1) (by omega) (by omega) (by omega) (by omega) hs) (moveUp_perm t lo hi h2 r (k + 1) _ (by omega) (by omega) (by rw [size_swp]; exact hs))

theorem moveDown_spec (i : Nat) : ∀ (k : Nat) (d : Array α), i ≤ k → k < d.size → (moveDown i k d).size = d.size ∧ ∀ p, (moveDown i k d)[p]! = if i < p ∧ p ≤ k then d[p - 1]! else if p = i then d[k]! else d[p]!
  | 0, d, hk, hs => by
    obtain rfl : i = 0 := by omega
    rw [moveDown]
    refine ⟨rfl, fun p => ?_⟩
    rw [if_neg (by omega)]
    by_cases h : p = 0
    · rw [if_pos h, h]
    · rw [if_neg h]
  | k + 1, d, hk, hs => by
    rw [moveDown]
    by_cases hi : i < k + 1
    · rw [if_pos hi]
      obtain ⟨h1, h2⟩ := moveDown_spec i k (swp d (k + 1) k) (by omega) (by rw [size_swp]; omega)
      refine ⟨by rw [h1, size_swp], fun p => ?_⟩
      have g := swp_get d (show k + 1 < d.size by omega) (show k < d.size by omega)
      rw [h2, g, g, g]
      by_cases c1 : i < p ∧ p ≤ k + 1
      · rw [if_pos c1]
        by_cases c2 : p = k + 1
        · subst c2
          rw [if_neg (by omega), if_neg (by omega), if_neg (by omega), if_pos rfl]; rfl
        · rw [if_pos (by omega), if_neg (by omega), if_neg (by omega)]
      · rw [if_neg c1, if_neg (by omega)]
        by_cases c3 : p = i
        · rw [if_pos c3, if_pos c3, if_pos rfl]
        · rw [if_neg c3, if_neg c3, if_neg (by omega), if_neg (by omega)]
    · rw [if_neg hi]
      obtain rfl : i = k + 1 := by omega
      refine ⟨rfl, fun p => ?_⟩
      rw [if_neg (by omega)]
      by_cases h : p = k + 1
      · rw [if_pos h, h]
      · rw [if_neg h]

theorem moveDown_perm (i lo hi : Nat) (h1 : lo ≤ i) : ∀ (k : Nat) (d : Array α), k < hi → hi ≤ d.size → PermIn lo hi d (moveDown i k d)
  | 0, d, hk, hs => by rw [moveDown]; exact permIn_refl _ _ _
  | k + 1, d, hk, hs => by
    rw [moveDown]
    by_cases hi' : i < k + 1
    · rw [if_pos hi']
      exact permIn_trans _ _ _ _ _ (swp_permIn d lo hi (k + 1) k (by omega) (by omega) (by omega) (by omega) hs) (moveDown_perm i lo hi h1 k _ (by omega) (by rw [size_swp]; exact hs))
    · rw [if_neg hi']; exact permIn_refl _ _ _

theorem swapFrom_size (a b n : Nat) : ∀ (r i : Nat) (d : Array α), n - i = r → (swapFrom a b n i d).size = d.size
  | 0, i, d, hr => by rw [swapFrom, if_neg (by omega)]
  | r + 1, i, d, hr => by rw [swapFrom, if_pos (by omega), swapFrom_size a b n r (i + 1) _ (by omega), size_swp]
theorem rot_size (m : Nat) : ∀ (f i j : Nat) (d : Array α), (rot m f i j d).size = d.size
  | 0, _, _, _ => rfl
  | f + 1, i, j, d => by
    rw [rot]
    split
    · exact swapFrom_size _ _ _ _ 0 _ rfl
    · split
      · rw [rot_size m f, swapFrom_size _ _ _ _ 0 _ rfl]
      · rw [rot_size m f, swapFrom_size _ _ _ _ 0 _ rfl]
theorem moveUp_size (t : Nat) : ∀ (r k : Nat) (d : Array α), t - k = r → (moveUp t k d).size = d.size
  | 0, k, d, hr => by rw [moveUp, if_neg (by omega)]
  | r + 1, k, d, hr => by rw [moveUp, if_pos (by omega), moveUp_size t r (k + 1) _ (by omega), size_swp]
theorem moveDown_size (i : Nat) : ∀ (k : Nat) (d : Array α), (moveDown i k d).size = d.size
  | 0, d => rfl
  | k + 1, d => by
    rw [moveDown]
    split
    · rw [moveDown_size i k, size_swp]
    · rfl
theorem symMerge_size (lt : α → α → Bool) : ∀ (f a m b : Nat) (d : Array α), (symMerge lt f a m b d).size = d.size
  | 0, _, _, _, _ => rfl
  | f + 1, a, m, b, d => by
    rw [symMerge]
    split
    · exact moveUp_size _ _ _ _ rfl
    · split
      · exact moveDown_size _ _ _
      · simp only
        generalize hs : (if (a + b) / 2 < m then bsr _ _ _ else bsr _ _ _) = s
        have h1 : (if s < m ∧ m < (a + b) / 2 + m - s then rot m (b - a) (m - s) ((a + b) / 2 + m - s - m) d else d).size = d.size := by
          split
          · exact rot_size _ _ _ _ _
          · rfl
        split
        · rw [symMerge_size lt f]
          split
          · rw [symMerge_size lt f]; exact h1
          · exact h1
        · split
          · rw [symMerge_size lt f]; exact h1
          · exact h1

theorem insInner_size (lt : α → α → Bool) (a : Nat) : ∀ (j : Nat) (d : Array α), (insInner lt a j d).size = d.size
  | 0, d => rfl
  | j + 1, d => by
    rw [insInner]
    split
    · rw [insInner_size lt a j, size_swp]
    · rfl
theorem insOuter_size (lt : α → α → Bool) (a b : Nat) : ∀ (r i : Nat) (d : Array α), b - i = r → (insOuter lt a b i d).size = d.size
  | 0, i, d, hr => by rw [insOuter, if_neg (by omega)]
  | r + 1, i, d, hr => by rw [insOuter, if_pos (by omega), insOuter_size lt a b r (i + 1) _ (by omega), insInner_size]
theorem insertionSort_size (lt : α → α → Bool) (d : Array α) (a b : Nat) : (insertionSort lt d a b).size = d.size := insOuter_size lt a b _ (a + 1) d rfl

/-! Two orders: 'lt', by which the text compares; 'R', that tells equals by where they stood. Across a border both are one. -/
variable {lt R : α → α → Bool}

/-- what stands ahead of the border m and what stands behind it -/
def Cross (lt R : α → α → Bool) (a m b : Nat) (d : Array α) : Prop := ∀ i j, a ≤ i → i < m → m ≤ j → j < b → lt d[j]! d[i]! = R d[j]! d[i]!

omit [Inhabited α] in
theorem swo_not {R : α → α → Bool} (hR : SWO R) {x y : α} (h : R x y = true) : R y x = false := hR.asymmA h

theorem symMerge_ok (hR : SWO R) : ∀ (f a m b : Nat) (d : Array α), b - a ≤ f → a < m → m < b → b ≤ d.size → SortedIn R a m d → SortedIn R m b d → Cross lt R a m b d →
    PermIn a b d (symMerge lt f a m b d) ∧ SortedIn R a b (symMerge lt f a m b d)
  | 0, a, m, b, d, hf, ham, hmb, hs, hl, hr, hx => by omega
  | f + 1, a, m, b, d, hf, ham, hmb, hs, hl, hr, hx => by
    rw [symMerge]
    by_cases h1 : m - a = 1
    · rw [if_pos h1]
      obtain rfl : m = a + 1 := by omega
      obtain ⟨b1, b2, b3, b4⟩ := bsr_spec (fun h => lt d[h]! d[a]!) _ (a + 1) b (Nat.le_refl _) (by omega)
      generalize bsr (fun h => lt d[h]! d[a]!) (a + 1) b = i at b1 b2 b3 b4
      obtain ⟨g1, g2⟩ := moveUp_spec (i - 1) _ a d rfl (by omega) (by omega)
      refine ⟨moveUp_perm (i - 1) a b (by omega) _ a d rfl (Nat.le_refl _) hs, fun p q hap hpq hqb => ?_⟩
      rw [g2, g2]
      by_cases cq : q < i - 1
      · rw [if_pos (by omega), if_pos (by omega)]
        exact hr (p + 1) (q + 1) (by omega) (by omega) (by omega)
      · rw [if_neg (show ¬(a ≤ q ∧ q < i - 1) by omega)]
        by_cases cq1 : q = i - 1
        · rw [if_pos cq1, if_pos (by omega)]
          have h2 : lt d[i - 1]! d[a]! = true := b3 (by omega)
          have h3 : R d[i - 1]! d[a]! = true := by rw [← hx a (i - 1) (by omega) (by omega) (by omega) (by omega)]; exact h2
          by_cases he : p + 1 = i - 1
          · rw [he]; exact hR.asymmA h3
          · exact hR.ntrans _ _ _ (hR.asymmA h3) (hr (p + 1) (i - 1) (by omega) (by omega) (by omega))
        · rw [if_neg cq1]
          by_cases cp : p < i - 1
          · rw [if_pos (by omega)]
            exact hr (p + 1) q (by omega) (by omega) hqb
          · rw [if_neg (by omega)]
            by_cases cp1 : p = i - 1
            · rw [if_pos cp1]
              have h2 : lt d[i]! d[a]! = false := b4 (by omega)
              have h3 : R d[i]! d[a]! = false := by rw [← hx a i (by omega) (by omega) (by omega) (by omega)]; exact h2
              by_cases he : q = i
              · rw [he]; exact h3
              · exact hR.ntrans _ _ _ (hr i q (by omega) (by omega) hqb) h3
            · rw [if_neg cp1]
              exact hr p q (by omega) hpq hqb
    · rw [if_neg h1]
      by_cases h2 : b - m = 1
      · rw [if_pos h2]
        obtain rfl : b = m + 1 := by omega
        obtain ⟨b1, b2, b3, b4⟩ := bsr_spec (fun h => !lt d[m]! d[h]!) _ a m (Nat.le_refl _) (by omega)
        generalize bsr (fun h => !lt d[m]! d[h]!) a m = i at b1 b2 b3 b4
        obtain ⟨g1, g2⟩ := moveDown_spec i m d (by omega) (by omega)
        refine ⟨moveDown_perm i a (m + 1) b1 m d (by omega) hs, fun p q hap hpq hqb => ?_⟩
        rw [g2, g2]
        by_cases cq : i < q ∧ q ≤ m
        · rw [if_pos cq]
          by_cases cp : i < p ∧ p ≤ m
          · rw [if_pos cp]
            exact hl (p - 1) (q - 1) (by omega) (by omega) (by omega)
          · rw [if_neg cp]
            by_cases cp1 : p = i
            · rw [if_pos cp1]
              have h2 := b4 (by omega)
              simp only [Bool.not_eq_false'] at h2
              have h3 : R d[m]! d[i]! = true := by rw [← hx i m (by omega) (by omega) (by omega) (by omega)]; exact h2
              by_cases he : q - 1 = i
              · rw [he]; exact hR.asymmA h3
              · exact hR.ntrans _ _ _ (hl i (q - 1) (by omega) (by omega) (by omega)) (hR.asymmA h3)
            · rw [if_neg cp1]
              exact hl p (q - 1) (by omega) (by omega) (by omega)
        · rw [if_neg cq, if_neg (show ¬(i < p ∧ p ≤ m) by omega)]
          by_cases cq1 : q = i
          · rw [if_pos cq1, if_neg (by omega)]
            have h2 := b3 (by omega)
            simp only [Bool.not_eq_true'] at h2
            have h3 : R d[m]! d[i - 1]! = false := by rw [← hx (i - 1) m (by omega) (by omega) (by omega) (by omega)]; exact h2
            by_cases he : p = i - 1
            · rw [he]; exact h3
            · exact hR.ntrans _ _ _ h3 (hl p (i - 1) (by omega) (by omega) (by omega))
          · rw [if_neg cq1, if_neg (by omega)]
            exact hl p q (by omega) hpq (by omega)
      · rw [if_neg h2]
        simp only
        have hmid1 : a < (a + b) / 2 := by omega
        have hmid2 : (a + b) / 2 < b := by omega
        have hms : 2 * ((a + b) / 2) ≤ a + b := by omega
        have hms2 : a + b ≤ 2 * ((a + b) / 2) + 1 := by omega
        generalize (a + b) / 2 = mid at *
        have key : ∀ s, (if mid < m then bsr (fun c => !lt d[mid + m - 1 - c]! d[c]!) (mid + m - b) mid else bsr (fun c => !lt d[mid + m - 1 - c]! d[c]!) a m) = s →
            a ≤ s ∧ s ≤ m ∧ s ≤ mid ∧ mid + m - s ≤ b ∧ (a < s → mid + m - s < b → R d[mid + m - s]! d[s - 1]! = false) ∧ (s < m → s < mid → R d[mid + m - s - 1]! d[s]! = true) := by
          intro s hs'
          by_cases c : mid < m
          · rw [if_pos c] at hs'
            obtain ⟨b1, b2, b3, b4⟩ := bsr_spec (fun c => !lt d[mid + m - 1 - c]! d[c]!) _ (mid + m - b) mid (Nat.le_refl _) (by omega)
            rw [hs'] at b1 b2 b3 b4
            refine ⟨by omega, by omega, b2, by omega, fun h3 h4 => ?_, fun h3 h4 => ?_⟩
            · have := b3 (by omega)
              simp only [Bool.not_eq_true'] at this
              rw [show mid + m - 1 - (s - 1) = mid + m - s from by omega] at this
              rw [← hx (s - 1) (mid + m - s) (by omega) (by omega) (by omega) (by omega)]; exact this
            · have := b4 (by omega)
              simp only [Bool.not_eq_false'] at this
              rw [show mid + m - 1 - s = mid + m - s - 1 from by omega] at this
              rw [← hx s (mid + m - s - 1) (by omega) (by omega) (by omega) (by omega)]; exact this
          · rw [if_neg c] at hs'
            obtain ⟨b1, b2, b3, b4⟩ := bsr_spec (fun c => !lt d[mid + m - 1 - c]! d[c]!) _ a m (Nat.le_refl _) (by omega)
            rw [hs'] at b1 b2 b3 b4
            refine ⟨by omega, by omega, by omega, by omega, fun h3 h4 => ?_, fun h3 h4 => ?_⟩
            · have := b3 (by omega)
              simp only [Bool.not_eq_true'] at this
              rw [show mid + m - 1 - (s - 1) = mid + m - s from by omega] at this
              rw [← hx (s - 1) (mid + m - s) (by omega) (by omega) (by omega) (by omega)]; exact this
            · have := b4 (by omega)
              simp only [Bool.not_eq_false'] at this
              rw [show mid + m - 1 - s = mid + m - s - 1 from by omega] at this
              rw [← hx s (mid + m - s - 1) (by omega) (by omega) (by omega) (by omega)]; exact this
        generalize hsd : (if mid < m then bsr (fun c => !lt d[mid + m - 1 - c]! d[c]!) (mid + m - b) mid else bsr (fun c => !lt d[mid + m - 1 - c]! d[c]!) a m) = s
        obtain ⟨k1, k2, k3, k4, k5, k6⟩ := key s hsd
        clear key hsd
        obtain ⟨e, he⟩ : ∃ e, mid + m - s = e := ⟨_, rfl⟩
        rw [he] at k4 k5 k6 ⊢
        -- the turn
        have hrot : ∀ d1, (if s < m ∧ m < e then rot m (b - a) (m - s) (e - m) d else d) = d1 → PermIn a b d d1 ∧ Rotd s m e d d1 := by
          intro d1 hd1
          by_cases c : s < m ∧ m < e
          · rw [if_pos c] at hd1
            obtain ⟨r1, r2⟩ := rot_spec m (b - a) (m - s) (e - m) d (by omega) (by omega) (by omega) (by omega) (by omega)
            rw [hd1, show m - (m - s) = s from by omega, show m + (e - m) = e from by omega] at r1 r2
            exact ⟨permIn_mono _ _ _ _ _ _ (by omega) (by omega) hs r1, r2⟩
          · rw [if_neg c] at hd1
            subst hd1
            refine ⟨permIn_refl _ _ _, fun p => ?_⟩
            by_cases c1 : s ≤ p ∧ p < s + (e - m)
            · rw [if_pos c1, show m - s = 0 from by omega]; rfl
            · rw [if_neg c1]
              by_cases c2 : s + (e - m) ≤ p ∧ p < e
              · rw [if_pos c2, show e - m = 0 from by omega]; rfl
              · rw [if_neg c2]
        generalize hd1 : (if s < m ∧ m < e then rot m (b - a) (m - s) (e - m) d else d) = d1
        obtain ⟨p1, t1⟩ := hrot d1 hd1
        clear hrot hd1
        have hmd : s + (e - m) = mid := by omega
        have z1 : d1.size = d.size := p1.1
        have L1 : ∀ p, p < s → d1[p]! = d[p]! := fun p hp => by rw [t1, if_neg (by omega), if_neg (by omega)]
        have R1 : ∀ p, s ≤ p → p < mid → d1[p]! = d[p + (m - s)]! := fun p h h' => by rw [t1, if_pos (by omega)]
        have L2 : ∀ p, mid ≤ p → p < e → d1[p]! = d[p - (e - m)]! := fun p h h' => by rw [t1, if_neg (by omega), if_pos (by omega)]
        have R2 : ∀ p, e ≤ p → d1[p]! = d[p]! := fun p hp => by rw [t1, if_neg (by omega), if_neg (by omega)]
        -- both halves, sorted by themselves
        have hleft : ∀ d2, (if a < s ∧ s < mid then symMerge lt f a s mid d1 else d1) = d2 → PermIn a mid d1 d2 ∧ SortedIn R a mid d2 := by
          intro d2 hd2
          by_cases c : a < s ∧ s < mid
          · rw [if_pos c] at hd2
            subst hd2
            refine symMerge_ok hR f a s mid d1 (by omega) c.1 c.2 (by omega) (fun p q h3 h4 h5 => ?_) (fun p q h3 h4 h5 => ?_) (fun i j h3 h4 h5 h6 => ?_)
            · rw [L1 p (by omega), L1 q (by omega)]; exact hl p q h3 h4 (by omega)
            · rw [R1 p (by omega) (by omega), R1 q (by omega) (by omega)]; exact hr _ _ (by omega) (by omega) (by omega)
            · rw [L1 i (by omega), R1 j (by omega) (by omega)]; exact hx _ _ (by omega) (by omega) (by omega) (by omega)
          · rw [if_neg c] at hd2
            subst hd2
            refine ⟨permIn_refl _ _ _, fun p q h3 h4 h5 => ?_⟩
            by_cases c3 : s = a
            · rw [R1 p (by omega) (by omega), R1 q (by omega) (by omega)]; exact hr _ _ (by omega) (by omega) (by omega)
            · rw [L1 p (by omega), L1 q (by omega)]; exact hl p q h3 h4 (by omega)
        generalize hd2 : (if a < s ∧ s < mid then symMerge lt f a s mid d1 else d1) = d2
        obtain ⟨p2, s2⟩ := hleft d2 hd2
        clear hleft hd2
        have z2 : d2.size = d.size := by rw [p2.1, z1]
        have B2 : ∀ p, mid ≤ p → d2[p]! = d1[p]! := fun p hp => p2.2.1 p (.inr hp)
        have hright : ∀ d3, (if mid < e ∧ e < b then symMerge lt f mid e b d2 else d2) = d3 → PermIn mid b d2 d3 ∧ SortedIn R mid b d3 := by
          intro d3 hd3
          by_cases c : mid < e ∧ e < b
          · rw [if_pos c] at hd3
            subst hd3
            refine symMerge_ok hR f mid e b d2 (by omega) c.1 c.2 (by omega) (fun p q h3 h4 h5 => ?_) (fun p q h3 h4 h5 => ?_) (fun i j h3 h4 h5 h6 => ?_)
            · rw [B2 p (by omega), B2 q (by omega), L2 p (by omega) (by omega), L2 q (by omega) (by omega)]; exact hl _ _ (by omega) (by omega) (by omega)
            · rw [B2 p (by omega), B2 q (by omega), R2 p (by omega), R2 q (by omega)]; exact hr _ _ (by omega) (by omega) (by omega)
            · rw [B2 i (by omega), B2 j (by omega), L2 i (by omega) (by omega), R2 j (by omega)]; exact hx _ _ (by omega) (by omega) (by omega) (by omega)
          · rw [if_neg c] at hd3
            subst hd3
            refine ⟨permIn_refl _ _ _, fun p q h3 h4 h5 => ?_⟩
            rw [B2 p (by omega), B2 q (by omega)]
            by_cases c3 : e = mid
            · rw [R2 p (by omega), R2 q (by omega)]; exact hr _ _ (by omega) (by omega) (by omega)
            · rw [L2 p (by omega) (by omega), L2 q (by omega) (by omega)]; exact hl _ _ (by omega) (by omega) (by omega)
        generalize hd3 : (if mid < e ∧ e < b then symMerge lt f mid e b d2 else d2) = d3
        obtain ⟨p3, s3⟩ := hright d3 hd3
        clear hright hd3
        have z3 : d3.size = d.size := by rw [p3.1, z2]
        -- nothing of the right half is less than anything of the left one
        have c0 : ∀ i j, a ≤ i → i < mid → mid ≤ j → j < b → R d1[j]! d1[i]! = false := by
          intro i j h3 h4 h5 h6
          by_cases ci : i < s
          · rw [L1 i ci]
            by_cases cj : j < e
            · rw [L2 j h5 cj]; exact hl _ _ (by omega) (by omega) (by omega)
            · rw [R2 j (by omega)]
              have hk := k5 (by omega) (by omega)
              have hb1 : R d[e]! d[i]! = false := by
                by_cases hi : i = s - 1
                · rw [hi]; exact hk
                · exact hR.ntrans _ _ _ hk (hl i (s - 1) (by omega) (by omega) (by omega))
              by_cases hj : j = e
              · rw [hj]; exact hb1
              · exact hR.ntrans _ _ _ (hr e j (by omega) (by omega) (by omega)) hb1
          · rw [R1 i (by omega) h4]
            by_cases cj : j < e
            · rw [L2 j h5 cj]
              have hk := hR.asymmA (k6 (by omega) (by omega))
              have hb1 : R d[s]! d[i + (m - s)]! = false := by
                by_cases hi : i + (m - s) = e - 1
                · rw [hi]; exact hk
                · exact hR.ntrans _ _ _ hk (hr _ (e - 1) (by omega) (by omega) (by omega))
              by_cases hj : j - (e - m) = s
              · rw [hj]; exact hb1
              · exact hR.ntrans _ _ _ (hl s _ (by omega) (by omega) (by omega)) hb1
            · rw [R2 j (by omega)]; exact hr _ _ (by omega) (by omega) (by omega)
        have c1 : ∀ i j, a ≤ i → i < mid → mid ≤ j → j < b → R d3[j]! d3[i]! = false := by
          intro i j h3 h4 h5 h6
          have e1 : ∀ i', a ≤ i' → i' < mid → R d3[j]! d2[i']! = false := by
            intro i' h7 h8
            refine permIn_all d2 d3 mid b (fun y => R y d2[i']! = false) (by omega) p3 (fun j' h9 h10 => ?_) j h5 h6
            rw [B2 j' h9]
            exact permIn_all d1 d2 a mid (fun x => R d1[j']! x = false) (by omega) p2 (fun i'' h11 h12 => c0 i'' j' h11 h12 h9 h10) i' h7 h8
          rw [p3.2.1 i (.inl h4)]
          exact e1 i h3 h4
        refine ⟨permIn_trans _ _ _ _ _ p1 (permIn_trans _ _ _ _ _ (permIn_mono _ _ _ _ _ _ (Nat.le_refl _) (by omega) (by omega) p2) (permIn_mono _ _ _ _ _ _ (by omega) (Nat.le_refl _) (by omega) p3)), fun p q h3 h4 h5 => ?_⟩
        by_cases cq : q < mid
        · rw [p3.2.1 p (.inl (by omega)), p3.2.1 q (.inl (by omega))]; exact s2 p q h3 h4 cq
        · by_cases cp : p < mid
          · exact c1 p q h3 cp (by omega) h5
          · exact s3 p q (by omega) h4 h5

end Go.Proofs.YthncochjhbmceaaGreat

namespace Go.Proofs.YthncochjhbmceaaGreat
open Go.Sort
variable {α : Type} [Inhabited α] {lt R : α → α → Bool}

theorem insInner_perm (lt : α → α → Bool) (a i : Nat) : ∀ (j : Nat) (d : Array α), a ≤ j → j ≤ i → i < d.size → PermIn a (i + 1) d (insInner lt a j d)
  | 0, d, _, _, _ => permIn_refl _ _ _
  | j + 1, d, h1, h2, h3 => by
    rw [insInner]
    split
    · rename_i hc
      simp only [Bool.and_eq_true, decide_eq_true_eq] at hc
      exact permIn_trans _ _ _ _ _ (swp_permIn d a (i + 1) (j + 1) j h1 (by omega) (by omega) (by omega) (by omega)) (insInner_perm lt a i j _ (by omega) (by omega) (by rw [size_swp]; exact h3))
    · exact permIn_refl _ _ _

theorem insInner_congr (a : Nat) : ∀ (j : Nat) (d : Array α), j < d.size → (∀ p, a ≤ p → p < j → lt d[j]! d[p]! = R d[j]! d[p]!) → insInner lt a j d = insInner R a j d
  | 0, d, _, _ => rfl
  | j + 1, d, hs, h => by
    rw [insInner, insInner]
    by_cases ha : j + 1 > a
    · rw [h j (by omega) (by omega)]
      have g := swp_get d hs (show j < d.size by omega)
      rw [insInner_congr a j (swp d (j + 1) j) (by rw [size_swp]; omega) fun p hp hpj => by
        rw [g, g, if_pos rfl, if_neg (by omega), if_neg (by omega)]
        exact h p hp (by omega)]
    · have : decide (j + 1 > a) = false := decide_eq_false ha
      rw [this]
      simp

theorem insOuter_congr (a b : Nat) : ∀ (r i : Nat) (d : Array α), b - i = r → a ≤ i → b ≤ d.size → (∀ j p, i ≤ j → j < b → a ≤ p → p < j → lt d[j]! d[p]! = R d[j]! d[p]!) → insOuter lt a b i d = insOuter R a b i d
  | 0, i, d, hr, _, _, _ => by
    conv => rhs; rw [insOuter, if_neg (by omega)]
    rw [insOuter, if_neg (by omega)]
  | r + 1, i, d, hr, hai, hb, h => by
    conv => rhs; rw [insOuter, if_pos (by omega)]
    rw [insOuter, if_pos (by omega), insInner_congr a i d (by omega) fun p hp hpi => h i p (Nat.le_refl _) (by omega) hp hpi]
    have hp := insInner_perm R a i i d hai (Nat.le_refl _) (by omega)
    refine insOuter_congr a b r (i + 1) _ (by omega) (by omega) (by rw [hp.1]; exact hb) fun j p hj hjb hap hpj => ?_
    rw [hp.2.1 j (.inr (by omega))]
    by_cases hpi : p < i + 1
    · exact permIn_all d _ a (i + 1) (fun x => lt d[j]! x = R d[j]! x) (by omega) hp (fun q hq hqi => h j q (by omega) hjb hq (by omega)) p hap hpi
    · rw [hp.2.1 p (.inr (by omega))]
      exact h j p (by omega) hjb hap hpj

theorem insertion_ok (hR : SWO R) (d : Array α) (a b : Nat) (hab : a ≤ b) (hb : b ≤ d.size) (h : ∀ j p, j < b → a ≤ p → p < j → lt d[j]! d[p]! = R d[j]! d[p]!) :
    PermIn a b d (insertionSort lt d a b) ∧ SortedIn R a b (insertionSort lt d a b) := by
  have e : insertionSort lt d a b = insertionSort R d a b := insOuter_congr a b _ (a + 1) d rfl (by omega) hb fun j p _ hjb hap hpj => h j p hjb hap hpj
  rw [e]
  exact insertionSort_holds hR d a b hab hb

/-- what a stage of blocks of B leaves, from a on -/
structure Stage (R : α → α → Bool) (B n a : Nat) (d d' : Array α) : Prop where
  perm : PermIn a n d d'
  sorted : ∀ t, a ≤ t * B → SortedIn R (t * B) (min (t * B + B) n) d'
  from_ : ∀ t, a ≤ t * B → ∀ p, t * B ≤ p → p < min (t * B + B) n → ∃ q, t * B ≤ q ∧ q < min (t * B + B) n ∧ d'[p]! = d[q]!

theorem from_perm {d d' : Array α} {a b : Nat} (hb : b ≤ d.size) (h : PermIn a b d d') (p : Nat) (h1 : a ≤ p) (h2 : p < b) : ∃ q, a ≤ q ∧ q < b ∧ d'[p]! = d[q]! :=
  permIn_all d d' a b (fun x => ∃ q, a ≤ q ∧ q < b ∧ x = d[q]!) hb h (fun q h3 h4 => ⟨q, h3, h4, rfl⟩) p h1 h2

/-- one block, then the others -/
theorem Stage.cons {B n s : Nat} {d d1 d2 : Array α} (hn : n ≤ d.size) (hB : 0 < B) (hs : s * B + B ≤ n) (p1 : PermIn (s * B) (s * B + B) d d1) (s1 : SortedIn R (s * B) (s * B + B) d1) (h : Stage R B n (s * B + B) d1 d2) : Stage R B n (s * B) d d2 := by
  have hmin : min (s * B + B) n = s * B + B := by omega
  refine ⟨permIn_trans _ _ _ _ _ (permIn_mono _ _ _ _ _ _ (Nat.le_refl _) hs hn p1) (permIn_mono _ _ _ _ _ _ (by omega) (Nat.le_refl _) (by rw [p1.1]; exact hn) h.perm), fun t ht => ?_, fun t ht p hp1 hp2 => ?_⟩
  · by_cases he : s * B + B ≤ t * B
    · exact h.sorted t he
    · have hts : t = s := by
        have h1 : s ≤ t := Nat.le_of_mul_le_mul_right ht hB
        have h2 : ¬ s + 1 ≤ t := fun h3 => he (by have := Nat.mul_le_mul_right B h3; rw [Nat.add_mul, Nat.one_mul] at this; exact this)
        omega
      subst hts
      rw [hmin]
      intro i j h1 h2 h3
      rw [h.perm.2.1 i (.inl (by omega)), h.perm.2.1 j (.inl (by omega))]
      exact s1 i j h1 h2 h3
  · by_cases he : s * B + B ≤ t * B
    · obtain ⟨q, q1, q2, q3⟩ := h.from_ t he p hp1 hp2
      exact ⟨q, q1, q2, by rw [q3, p1.2.1 q (.inr (by omega))]⟩
    · have hts : t = s := by
        have h1 : s ≤ t := Nat.le_of_mul_le_mul_right ht hB
        have h2 : ¬ s + 1 ≤ t := fun h3 => he (by have := Nat.mul_le_mul_right B h3; rw [Nat.add_mul, Nat.one_mul] at this; exact this)
        omega
      subst hts
      rw [hmin] at hp2 ⊢
      rw [h.perm.2.1 p (.inl (by omega))]
      exact from_perm (by omega) p1 p hp1 hp2

/-- the last block -/
theorem Stage.last {B n s : Nat} {d d1 : Array α} (hn : n ≤ d.size) (hB : 0 < B) (hs : n < s * B + B) (hs0 : s * B ≤ n) (p1 : PermIn (s * B) n d d1) (s1 : SortedIn R (s * B) n d1) : Stage R B n (s * B) d d1 := by
  have key : ∀ t, s * B ≤ t * B → t = s ∨ n ≤ t * B := fun t ht => by
    have h1 : s ≤ t := Nat.le_of_mul_le_mul_right ht hB
    rcases Nat.lt_or_ge s t with h2 | h2
    · right
      have := Nat.mul_le_mul_right B h2
      rw [Nat.succ_mul] at this
      omega
    · left; omega
  have hmin : min (s * B + B) n = n := by omega
  refine ⟨p1, fun t ht => ?_, fun t ht p hp1 hp2 => ?_⟩
  · rcases key t ht with rfl | h
    · rw [hmin]; exact s1
    · intro i j h1 h2 h3; omega
  · rcases key t ht with rfl | h
    · rw [hmin] at hp2 ⊢; exact from_perm hn p1 p hp1 hp2
    · omega

theorem insBlocks_ok (hR : SWO R) (n : Nat) : ∀ (r s : Nat) (d : Array α), n - s * 20 ≤ r → s * 20 ≤ n → n ≤ d.size → (∀ j p, j < n → s * 20 ≤ p → p < j → lt d[j]! d[p]! = R d[j]! d[p]!) → Stage R 20 n (s * 20) d (insBlocks lt n (s * 20) d) := by
  intro r
  induction r with
  | zero =>
    intro s d hr hs hn h
    rw [insBlocks, if_neg (by omega)]
    obtain ⟨p1, s1⟩ := insertion_ok hR d (s * 20) n hs hn h
    exact Stage.last hn (by decide) (by omega) hs p1 s1
  | succ r ih =>
    intro s d hr hs hn h
    rw [insBlocks]
    by_cases hlt : s * 20 + 20 ≤ n
    · rw [if_pos hlt]
      obtain ⟨p1, s1⟩ := insertion_ok (lt := lt) hR d (s * 20) (s * 20 + 20) (by omega) (by omega) fun j p hj hp hpj => h j p (by omega) hp hpj
      have h2 := ih (s + 1) (insertionSort lt d (s * 20) (s * 20 + 20)) (by omega) (by omega) (by rw [p1.1]; exact hn) fun j p hj hp hpj => by
        rw [p1.2.1 j (.inr (by omega)), p1.2.1 p (.inr (by omega))]
        exact h j p hj (by omega) hpj
      rw [show (s + 1) * 20 = s * 20 + 20 from by omega] at h2
      exact h2.cons hn (by decide) hlt p1 s1
    · rw [if_neg hlt]
      obtain ⟨p1, s1⟩ := insertion_ok hR d (s * 20) n hs hn h
      exact Stage.last hn (by decide) (by omega) hs p1 s1

theorem pass_ok (hR : SWO R) (blk n : Nat) (hb : 0 < blk) : ∀ (f s : Nat) (d : Array α), n + 1 ≤ f + s * (2 * blk) → s * (2 * blk) ≤ n → n ≤ d.size → (∀ t, s * (2 * blk) ≤ t * blk → SortedIn R (t * blk) (min (t * blk + blk) n) d) →
    (∀ i j, s * (2 * blk) ≤ i → i < j → j < n → i / blk < j / blk → lt d[j]! d[i]! = R d[j]! d[i]!) → Stage R (2 * blk) n (s * (2 * blk)) d (pass lt blk n f (s * (2 * blk)) d)
  | 0, s, d, hf, hs, hn, hS, hC => by omega
  | f + 1, s, d, hf, hs, hn, hS, hC => by
    have e1 : s * (2 * blk) = (2 * s) * blk := by rw [← Nat.mul_assoc, Nat.mul_comm s 2]
    have e2 : s * (2 * blk) + blk = (2 * s + 1) * blk := by rw [e1, Nat.add_mul, Nat.one_mul]
    have hcross : ∀ b, b ≤ n → Cross lt R (s * (2 * blk)) (s * (2 * blk) + blk) b d := fun b hbn i j h1 h2 h3 h4 => by
      refine hC i j h1 (by omega) (by omega) ?_
      have h5 : i / blk < 2 * s + 1 := (Nat.div_lt_iff_lt_mul hb).2 (by rw [← e2]; exact h2)
      have h6 : 2 * s + 1 ≤ j / blk := (Nat.le_div_iff_mul_le hb).2 (by rw [← e2]; exact h3)
      omega
    have s0 := hS (2 * s) (Nat.le_of_eq e1)
    have s1 := hS (2 * s + 1) (by rw [← e2]; omega)
    rw [← e1] at s0
    rw [← e2] at s1
    rw [pass]
    by_cases hlt : s * (2 * blk) + 2 * blk ≤ n
    · rw [if_pos hlt]
      rw [Nat.min_eq_left (by omega)] at s0
      rw [show min (s * (2 * blk) + blk + blk) n = s * (2 * blk) + 2 * blk from by omega] at s1
      obtain ⟨p1, q1⟩ := symMerge_ok (lt := lt) hR (2 * blk) (s * (2 * blk)) (s * (2 * blk) + blk) (s * (2 * blk) + 2 * blk) d (by omega) (by omega) (by omega) (by omega) s0 s1 (hcross _ hlt)
      have e3 : (s + 1) * (2 * blk) = s * (2 * blk) + 2 * blk := by rw [Nat.add_mul, Nat.one_mul]
      have h2 := pass_ok hR blk n hb f (s + 1) (symMerge lt (2 * blk) (s * (2 * blk)) (s * (2 * blk) + blk) (s * (2 * blk) + 2 * blk) d) (by omega) (by omega) (by rw [p1.1]; exact hn)
        (fun t ht i j h3 h4 h5 => by rw [p1.2.1 i (.inr (by omega)), p1.2.1 j (.inr (by omega))]; exact hS t (by omega) i j h3 h4 h5)
        (fun i j h3 h4 h5 h6 => by rw [p1.2.1 i (.inr (by omega)), p1.2.1 j (.inr (by omega))]; exact hC i j (by omega) h4 h5 h6)
      rw [e3] at h2
      exact h2.cons hn (by omega) hlt p1 q1
    · rw [if_neg hlt]
      by_cases hl2 : s * (2 * blk) + blk < n
      · rw [if_pos hl2]
        rw [Nat.min_eq_left (by omega)] at s0
        rw [show min (s * (2 * blk) + blk + blk) n = n from by omega] at s1
        obtain ⟨p1, q1⟩ := symMerge_ok (lt := lt) hR (n - s * (2 * blk)) (s * (2 * blk)) (s * (2 * blk) + blk) n d (by omega) (by omega) hl2 hn s0 s1 (hcross _ (Nat.le_refl _))
        exact Stage.last hn (by omega) (by omega) hs p1 q1
      · rw [if_neg hl2]
        rw [Nat.min_eq_right (by omega)] at s0
        exact Stage.last hn (by omega) (by omega) hs (permIn_refl _ _ _) s0

theorem passes_ok (hR : SWO R) (n : Nat) : ∀ (f blk : Nat) (d : Array α), 0 < blk → n ≤ f + blk → n ≤ d.size → (∀ t, SortedIn R (t * blk) (min (t * blk + blk) n) d) → (∀ i j, i < j → j < n → i / blk < j / blk → lt d[j]! d[i]! = R d[j]! d[i]!) →
    PermIn 0 n d (passes lt n f blk d) ∧ SortedIn R 0 n (passes lt n f blk d) := by
  intro f
  induction f with
  | zero =>
    intro blk d hb hf hn hS hC
    rw [passes]
    have := hS 0
    rw [Nat.zero_mul, Nat.zero_add, Nat.min_eq_right (by omega)] at this
    exact ⟨permIn_refl _ _ _, this⟩
  | succ f ih =>
    intro blk d hb hf hn hS hC
    rw [passes]
    by_cases hlt : blk < n
    · rw [if_pos hlt]
      have h1 := pass_ok (lt := lt) hR blk n hb (n + 1) 0 d (by omega) (by omega) hn (fun t _ => hS t) (fun i j _ => hC i j)
      rw [Nat.zero_mul] at h1
      have hin : ∀ i, i < n → ∃ q, d[q]! = (pass lt blk n (n + 1) 0 d)[i]! ∧ q < n ∧ q / (2 * blk) = i / (2 * blk) := fun i hi => by
        have h2 := Nat.div_mul_le_self i (2 * blk)
        have h3 := Nat.lt_div_mul_add (a := i) (b := 2 * blk) (by omega)
        obtain ⟨q, q1, q2, q3⟩ := h1.from_ (i / (2 * blk)) (Nat.zero_le _) i h2 (by omega)
        refine ⟨q, q3.symm, by omega, ?_⟩
        have h4 : i / (2 * blk) ≤ q / (2 * blk) := (Nat.le_div_iff_mul_le (by omega)).2 q1
        have h5 : q / (2 * blk) < i / (2 * blk) + 1 := (Nat.div_lt_iff_lt_mul (by omega)).2 (by rw [Nat.add_mul, Nat.one_mul]; omega)
        omega
      obtain ⟨p2, s2⟩ := ih (2 * blk) (pass lt blk n (n + 1) 0 d) (by omega) (by omega) (by rw [h1.perm.1]; exact hn) (fun t => h1.sorted t (Nat.zero_le _)) fun i j hij hj hlt2 => by
        obtain ⟨qi, e1, l1, m1⟩ := hin i (by omega)
        obtain ⟨qj, e2, l2, m2⟩ := hin j hj
        rw [← e1, ← e2]
        have h6 : qi / (2 * blk) < qj / (2 * blk) := by omega
        have h7 : qi / blk < qj / blk := by
          rcases Nat.lt_or_ge (qi / blk) (qj / blk) with h | h
          · exact h
          · have := Nat.div_le_div_right (c := 2) h
            rw [Nat.div_div_eq_div_mul, Nat.div_div_eq_div_mul, Nat.mul_comm blk 2] at this
            omega
        have h8 : qi < qj := by
          rcases Nat.lt_or_ge qi qj with h | h
          · exact h
          · have := Nat.div_le_div_right (c := blk) h
            omega
        exact hC qi qj h8 l2 h7
      exact ⟨permIn_trans _ _ _ _ _ h1.perm p2, s2⟩
    · rw [if_neg hlt]
      have := hS 0
      rw [Nat.zero_mul, Nat.zero_add, Nat.min_eq_right (by omega)] at this
      exact ⟨permIn_refl _ _ _, this⟩

/-- THE LAW: sorted by R, and a permutation. -/
theorem stable_ok (hR : SWO R) (d : Array α) (h : ∀ i j, i < j → j < d.size → lt d[j]! d[i]! = R d[j]! d[i]!) : PermIn 0 d.size d (stable lt d.size d) ∧ SortedIn R 0 d.size (stable lt d.size d) := by
  have h1 := insBlocks_ok (lt := lt) hR d.size d.size 0 d (by omega) (by omega) (Nat.le_refl _) fun j p hj _ hpj => h p j hpj hj
  rw [Nat.zero_mul] at h1
  have hin : ∀ i, i < d.size → ∃ q, d[q]! = (insBlocks lt d.size 0 d)[i]! ∧ q < d.size ∧ q / 20 = i / 20 := fun i hi => by
    obtain ⟨q, q1, q2, q3⟩ := h1.from_ (i / 20) (Nat.zero_le _) i (by omega) (by omega)
    exact ⟨q, q3.symm, by omega, by omega⟩
  obtain ⟨p2, s2⟩ := passes_ok (lt := lt) hR d.size d.size 20 (insBlocks lt d.size 0 d) (by decide) (by omega) (by rw [h1.perm.1]; exact Nat.le_refl _) (fun t => h1.sorted t (Nat.zero_le _)) fun i j hij hj hlt => by
    obtain ⟨qi, e1, l1, m1⟩ := hin i (by omega)
    obtain ⟨qj, e2, l2, m2⟩ := hin j hj
    rw [← e1, ← e2]
    exact h qi qj (by omega) l2
  exact ⟨permIn_trans _ _ _ _ _ h1.perm p2, s2⟩
end Go.Proofs.YthncochjhbmceaaGreat

namespace Go.Proofs.YthncochjhbmceaaGreat
set_option maxRecDepth 100000
open Go.Shelf Go.RowKit Go.Lib Go.Sort

section
variable {α : Type} {lt : α → α → Bool}
/-- first by lt, then by the place -/
def byTag (lt : α → α → Bool) (u v : α × Nat) : Bool := lt u.1 v.1 || (!lt v.1 u.1 && decide (u.2 < v.2))
theorem swo_byTag (h : SWO lt) : SWO (byTag lt) where
  irrefl x := by simp [byTag, h.irrefl]
  trans x y z h1 h2 := by
    unfold byTag at *
    have a1 := h.trans x.1 y.1 z.1
    have a2 := h.ntrans z.1 y.1 x.1
    have a3 := h.ntrans x.1 z.1 y.1
    have a4 := h.ntrans y.1 x.1 z.1
    have b1 := h.trans x.1 y.1 x.1
    have b2 := h.trans y.1 z.1 y.1
    have b3 := h.irrefl x.1
    have b4 := h.irrefl y.1
    cases e1 : lt x.1 y.1 <;> cases e2 : lt y.1 z.1 <;> cases e3 : lt x.1 z.1 <;> cases e4 : lt y.1 x.1 <;> cases e5 : lt z.1 y.1 <;> cases e6 : lt z.1 x.1 <;> simp_all <;> omega
  ntrans x y z h1 h2 := by
    unfold byTag at *
    have a1 := h.ntrans x.1 y.1 z.1
    have a2 := h.trans z.1 y.1 x.1
    have a3 := h.ntrans z.1 x.1 y.1
    have a4 := h.ntrans y.1 z.1 x.1
    have a5 := h.trans y.1 x.1 z.1
    have a6 := h.trans x.1 z.1 y.1
    cases e1 : lt x.1 y.1 <;> cases e2 : lt y.1 z.1 <;> cases e3 : lt x.1 z.1 <;> cases e4 : lt y.1 x.1 <;> cases e5 : lt z.1 y.1 <;> cases e6 : lt z.1 x.1 <;> simp_all <;> omega
end

section
variable {α : Type} [Inhabited α] (lt : α → α → Bool)
/-- the stable sort -/
def stab (l : List α) : List α := (stable (fun u v => lt u.1 v.1) l.length l.zipIdx.toArray).toList.map Prod.fst
variable {lt}
theorem stab_ok (h : SWO lt) (l : List α) : (stable (fun u v : α × Nat => lt u.1 v.1) l.length l.zipIdx.toArray).toList.Perm l.zipIdx ∧ (stable (fun u v : α × Nat => lt u.1 v.1) l.length l.zipIdx.toArray).toList.Pairwise fun u v => byTag lt v u = false := by
  have hsz0 : l.zipIdx.toArray.size = l.length := by simp
  have hat : ∀ i (hi : i < l.length), l.zipIdx.toArray[i]! = (l[i], i) := fun i hi => by
    rw [getElem!_pos _ i (by rw [hsz0]; exact hi)]; simp
  obtain ⟨hp, hs⟩ := stable_ok (lt := fun u v : α × Nat => lt u.1 v.1) (R := byTag lt) (swo_byTag h) l.zipIdx.toArray (fun i j hij hj => by
    rw [hsz0] at hj
    rw [hat i (by omega), hat j hj]
    have : decide (j < i) = false := decide_eq_false (by omega)
    simp [byTag, this])
  rw [hsz0] at hp hs
  have hsz := hp.1
  rw [hsz0] at hsz
  have full : ∀ d : Array (α × Nat), d.size = l.length → d.extract 0 l.length = d := fun d hd => by rw [← hd]; simp
  have hperm := hp.2.2
  rw [full _ hsz, full _ hsz0] at hperm
  refine ⟨by simpa using hperm, ?_⟩
  rw [List.pairwise_iff_getElem]
  intro i j hi hj hij
  rw [Array.length_toList, hsz] at hi hj
  have := hs i j (Nat.zero_le _) hij hj
  rw [getElem!_pos _ i (by rw [hsz]; exact hi), getElem!_pos _ j (by rw [hsz]; exact hj)] at this
  simpa using this
theorem stab_perm (h : SWO lt) (l : List α) : (stab lt l).Perm l := by
  have := (stab_ok h l).1.map Prod.fst
  simpa [stab] using this
theorem stab_len (h : SWO lt) (l : List α) : (stab lt l).length = l.length := (stab_perm h l).length_eq
theorem stab_sorted (h : SWO lt) (l : List α) : (stab lt l).Pairwise fun x y => lt y x = false := by
  unfold stab
  rw [List.pairwise_map]
  refine (stab_ok h l).2.imp fun {u v} h1 => ?_
  unfold byTag at h1
  simp only [Bool.or_eq_false_iff] at h1
  exact h1.1
/-- what is alike stays in its order -/
theorem stab_filter (h : SWO lt) (l : List α) (P : α → Bool) (hP : ∀ x y, P x = true → P y = true → lt x y = false) : (stab lt l).filter P = l.filter P := by
  obtain ⟨h1, h2⟩ := stab_ok h l
  have h3 : (stable (fun u v : α × Nat => lt u.1 v.1) l.length l.zipIdx.toArray).toList.filter (fun u => P u.1) = l.zipIdx.filter (fun u => P u.1) := by
    refine (h1.filter _).eq_of_pairwise (le := fun u v => u.2 ≤ v.2) ?_ ?_ ?_
    · intro u v hu hv a b
      have hu' := (List.mem_filter.1 hu).1
      have hv' := (List.mem_filter.1 hv).1
      have e1 : u ∈ l.zipIdx := h1.mem_iff.1 hu'
      have hab : u.2 = v.2 := by omega
      have m1 := List.mem_zipIdx_iff_getElem?.1 e1
      have m2 := List.mem_zipIdx_iff_getElem?.1 hv'
      rw [hab, m2] at m1
      injection m1 with m1
      exact Prod.ext m1.symm hab
    · have h4 := h2.filter (fun u => P u.1)
      refine List.Pairwise.imp_of_mem (fun {u v} hu hv a => ?_) h4
      have pu := (List.mem_filter.1 hu).2
      have pv := (List.mem_filter.1 hv).2
      unfold byTag at a
      rw [hP _ _ pv pu, hP _ _ pu pv] at a
      simp only [Bool.false_or, Bool.not_false, Bool.true_and, decide_eq_false_iff_not] at a
      omega
    · have h5 : l.zipIdx.Pairwise fun u v => u.2 ≤ v.2 := by
        rw [List.pairwise_iff_getElem]
        intro i j hi hj hij
        simp
        omega
      exact h5.filter _
  have h4 := congrArg (List.map Prod.fst) h3
  have e : ∀ M : List (α × Nat), (M.filter (fun u => P u.1)).map Prod.fst = (M.map Prod.fst).filter P := fun M => by rw [List.filter_map]; rfl
  rw [e, e] at h4
  simpa [stab] using h4
end

theorem holdsK_of_cells' {α : Type} [Inhabited α] {enc : α → List Value} {k : Nat} (hk : ∀ x, (enc x).length = k) {w : World} {g off : Nat} {d : Array α} (h : ∀ j, j < d.size * k → w.cell? ⟨g, off + j, none⟩ = (d.toList.flatMap enc)[j]? ∧ w.frozen? ⟨g, off + j, none⟩ = false) : HoldsK enc k w g off d := by
  intro j hj
  have hs : (flatK enc k d).size = d.size * k := size_flatK enc k d
  rw [hs] at hj
  obtain ⟨h1, h2⟩ := h j hj
  refine ⟨?_, h2⟩
  have hk0 : 0 < k := by
    rcases Nat.eq_zero_or_pos k with h0 | h0
    · subst h0; omega
    · exact h0
  have hi : j / k < d.size := (Nat.div_lt_iff_lt_mul hk0).2 hj
  have hm : j % k < k := Nat.mod_lt _ hk0
  have hd : j / k * k + j % k = j := Nat.div_add_mod' j k
  have h3 := fm_at hk d.toList (j / k) d[j / k] (j % k) (by simp [hi]) hm
  rw [hd] at h3
  rw [h1, h3]
  have h4 : (flatK enc k d)[j]! = (enc d[j / k]!)[j % k]! := by
    unfold flatK
    rw [getElem!_pos _ j (by simpa using hj)]
    simp
  show _ = some (id (flatK enc k d)[j]!)
  rw [id, h4, getElem!_pos d (j / k) hi, getElem!_pos _ (j % k) (by rw [hk]; exact hm), List.getElem?_eq_getElem (by rw [hk]; exact hm)]

/-! a world of the sort's -/
section
variable {α : Type} [Inhabited α] {enc : α → List Value} {k : Nat} {w0 W : World} {blk : Nat} {dk : Array α}
theorem sw_gb {off : Nat} (h : SWK enc k w0 blk off dk W) : w0.grownBy W (some blk) := by
  obtain ⟨n, os, rfl⟩ := h
  refine ⟨rfl, rfl, rfl, by unfold sortWorldK; rw [size_grow, size_putRowK]; exact Nat.le_add_right _ _, fun i hi hne => ?_⟩
  unfold sortWorldK grow putRowK putRow mapBlock
  simp only
  have hne' : blk ≠ i := fun h => hne (by rw [h])
  rw [Array.getElem?_append_left (by simpa using hi), Array.getElem?_modify, if_neg hne']
  rfl
theorem sw_whole {T : TypeId} {cs : Array Value} (h : SWK enc k w0 blk 0 dk W) (hw : Whole1 w0 blk T cs) : ∃ cs', Whole1 W blk T cs' ∧ cs'.size = cs.size := by
  obtain ⟨n, os, rfl⟩ := h
  refine ⟨putCells id 0 (flatK enc k dk) cs, ?_, by simp [putCells]⟩
  have hlt := hw.lt
  unfold Whole1 at hw ⊢
  unfold sortWorldK grow putRowK putRow mapBlock
  simp only
  rw [Array.getElem?_append_left (by simpa using hlt), Array.getElem?_modify, if_pos rfl]
  have : (Sort.ahead w0 n).heap[blk]? = w0.heap[blk]? := rfl
  rw [this, hw]
  rfl
theorem sw_cells {d0 : Array α} (h : SWK enc k w0 blk 0 dk W) (R : RowK enc k w0 blk 0 d0) (hs : dk.size = d0.size) (j : Nat) (hj : j < dk.size * k) : W.cell? ⟨blk, j, none⟩ = (dk.toList.flatMap enc)[j]? := by
  have hH := h.holds R.hblk R.hH hs
  have hk0 : 0 < k := by
    rcases Nat.eq_zero_or_pos k with h0 | h0
    · subst h0; omega
    · exact h0
  have hi : j / k < dk.size := (Nat.div_lt_iff_lt_mul hk0).2 hj
  have hm : j % k < k := Nat.mod_lt _ hk0
  have hd : j / k * k + j % k = j := Nat.div_add_mod' j k
  have h3 := fm_at R.hk dk.toList (j / k) dk[j / k] (j % k) (by simp [hi]) hm
  have h4 := (HoldsK.cell hH hi hm).1
  rw [show 0 + j / k * k + j % k = j from by omega] at h4
  rw [hd] at h3
  rw [h3, h4, getElem!_pos dk (j / k) hi, getElem!_pos _ (j % k) (by rw [R.hk]; exact hm), List.getElem?_eq_getElem (by rw [R.hk]; exact hm)]
/-- the block holds the sorted row, and as many cells as before -/
theorem sw_block {T : TypeId} {l : List α} {rest : List Value} {m : Nat} {d0 : Array α} (h : SWK enc k w0 blk 0 dk W) (R : RowK enc k w0 blk 0 d0) (hs : dk.size = d0.size) (hw : Whole1 w0 blk T (l.flatMap enc ++ rest).toArray) (hm : (l.flatMap enc ++ rest).length = m) (hl : l.length = dk.size) :
    ∃ rest', Whole1 W blk T (dk.toList.flatMap enc ++ rest').toArray ∧ (dk.toList.flatMap enc ++ rest').length = m := by
  obtain ⟨cs', h1, h2⟩ := sw_whole h hw
  have hsz : cs'.toList.length = m := by rw [Array.length_toList, h2]; simpa using hm
  have hle : dk.size * k ≤ m := by rw [← hm, List.length_append, fm_len R.hk, hl]; omega
  have hfl : (dk.toList.flatMap enc).length = dk.size * k := by rw [fm_len R.hk]; simp
  have htake : cs'.toList.take (dk.size * k) = dk.toList.flatMap enc := by
    apply List.ext_getElem?
    intro j
    rw [List.getElem?_take]
    by_cases hj : j < dk.size * k
    · rw [if_pos hj, Array.getElem?_toList, ← h1.cell, sw_cells h R hs j hj]
    · rw [if_neg hj, List.getElem?_eq_none (by omega)]
  refine ⟨cs'.toList.drop (dk.size * k), ?_, ?_⟩
  · rw [← htake, List.take_append_drop]; exact h1
  · rw [← htake, List.take_append_drop]; exact hsz
end
end Go.Proofs.YthncochjhbmceaaGreat

namespace Go.Proofs.YthncochjhbmceaaGreat
set_option maxRecDepth 100000
open Go.RowKit Go.Sort

def cmpZ (x y : Int) : Int := if x < y then -1 else if y < x then 1 else 0
theorem cmpZ_lt (x y : Int) : decide (cmpZ x y < 0) = decide (x < y) := by
  unfold cmpZ
  by_cases h : x < y
  · simp [h]
  · rw [if_neg h]
    by_cases h2 : y < x
    · simp [h, h2]
    · simp [h, h2]
theorem swo_at {α : Type} (f : α → Int) : SWO fun x y => decide (cmpZ (f x) (f y) < 0) where
  irrefl x := by rw [cmpZ_lt]; simp
  trans x y z h1 h2 := by
    rw [cmpZ_lt] at *
    simp only [decide_eq_true_eq] at *
    omega
  ntrans x y z h1 h2 := by
    rw [cmpZ_lt] at *
    simp only [decide_eq_false_iff_not] at *
    omega
set_option maxHeartbeats 400000 in
theorem isNaN64_z (x : Int) (w : World) : Calls Tryz.prog 117 #[.int .i64 x] w fun e w' => e = .returned (.bool false) ∧ w' = w := by
  have h : ((x != x) : Bool) = false := by simp
  go_enter Tryz.func117, Tryz.ntmps117
  go_wp2
  go_ret
  exact ⟨rfl, rfl⟩
set_option maxHeartbeats 800000 in
theorem cmp64_z (x y : Int) (w : World) : Calls Tryz.prog 73 #[.int .i64 x, .int .i64 y] w fun e w' => e = .returned (.int .i64 (cmpZ x y)) ∧ w' = w := by
  rcases Int.lt_trichotomy x y with h | h | h
  · have hc := hidden (show cmpZ x y = -1 from if_pos h)
    go_enter Tryz.func73, Tryz.ntmps73
    go_wp2_with (go_at_call 117; refine (isNaN64_z _ _).mono ?_; rintro e w' ⟨rfl, rfl⟩)
    go_ret
    exact ⟨ret_int hc.out.symm, rfl⟩
  · subst h
    have hc := hidden (show cmpZ x x = 0 by simp [cmpZ])
    go_enter Tryz.func73, Tryz.ntmps73
    go_wp2_with (go_at_call 117; refine (isNaN64_z _ _).mono ?_; rintro e w' ⟨rfl, rfl⟩)
    go_ret
    exact ⟨ret_int hc.out.symm, rfl⟩
  · have hc := hidden (show cmpZ x y = 1 by unfold cmpZ; rw [if_neg (by omega), if_pos h])
    have h2 : ¬ x < y := by omega
    go_enter Tryz.func73, Tryz.ntmps73
    go_wp2_with (go_at_call 117; refine (isNaN64_z _ _).mono ?_; rintro e w' ⟨rfl, rfl⟩)
    go_ret
    exact ⟨ret_int hc.out.symm, rfl⟩
end Go.Proofs.YthncochjhbmceaaGreat

namespace Go.Proofs.YthncochjhbmceaaGreat.SrfLbl
set_option maxRecDepth 100000
open Go.Shelf Go.RowKit Go.Lib Go.Sort

def ren : Ren := { f := fun n => if n = 6 then 106 else if n = 14 then 150 else if n = 15 then 86 else if n = 20 then 180 else if n = 21 then 181 else if n = 22 then 182 else if n = 23 then 183 else if n = 24 then 184 else if n = 25 then 185 else if n = 26 then 186 else if n = 27 then 187 else if n = 28 then 139 else if n = 29 then 140 else if n = 46 then 200 else if n = 47 then 168 else if n = 48 then 169 else if n = 49 then 201 else if n = 50 then 202 else if n = 57 then 215 else 0, t := fun n => if n = 0 then 0 else if n = 3 then 3 else if n = 4 then 4 else if n = 5 then 5 else if n = 9 then 9 else if n = 22 then 61 else if n = 24 then 70 else if n = 25 then 220 else if n = 39 then 214 else if n = 45 then 260 else if n = 46 then 261 else if n = 50 then 103 else if n = 53 then 267 else if n = 55 then 66 else if n = 66 then 311 else if n = 70 then 315 else if n = 76 then 341 else if n = 77 then 342 else 0, g := fun _ => 0 }
theorem lays : SlLaysF0.n6 Tryz.prog ren where
  mixed := by kernel_rfl
  f6 := ⟨_, by kernel_rfl, Tryz.func106⟩
  f14 := ⟨_, by kernel_rfl, Tryz.func150⟩
  f15 := Tryz.func86
  f20 := ⟨_, by kernel_rfl, Tryz.func180⟩
  f21 := ⟨_, by kernel_rfl, Tryz.func181⟩
  f22 := ⟨_, by kernel_rfl, Tryz.func182⟩
  f23 := ⟨_, by kernel_rfl, Tryz.func183⟩
  f24 := ⟨_, by kernel_rfl, Tryz.func184⟩
  f25 := ⟨_, by kernel_rfl, Tryz.func185⟩
  f26 := ⟨_, by kernel_rfl, Tryz.func186⟩
  f27 := ⟨_, by kernel_rfl, Tryz.func187⟩
  f28 := Tryz.func139
  f29 := Tryz.func140
  f46 := ⟨_, by kernel_rfl, Tryz.func200⟩
  f47 := Tryz.func168
  f48 := Tryz.func169
  f49 := ⟨_, by kernel_rfl, Tryz.func201⟩
  f50 := ⟨_, by kernel_rfl, Tryz.func202⟩
  f57 := ⟨_, by kernel_rfl, Tryz.func215⟩
  t0 := by kernel_rfl
  a0 := fun w => by kernel_rfl
  z0 := fun w => by kernel_rfl
  v0 := fun w => by kernel_rfl
  t3 := by kernel_rfl
  a3 := fun w => by kernel_rfl
  z3 := fun w => by kernel_rfl
  v3 := fun w => by kernel_rfl
  t4 := by kernel_rfl
  a4 := fun w => by kernel_rfl
  z4 := fun w => by kernel_rfl
  v4 := fun w => by kernel_rfl
  t5 := by kernel_rfl
  a5 := fun w => by kernel_rfl
  z5 := fun w => by kernel_rfl
  v5 := fun w => by kernel_rfl
  t9 := by kernel_rfl
  a9 := fun w => by kernel_rfl
  z9 := fun w => by kernel_rfl
  v9 := fun w => by kernel_rfl
  t22 := by kernel_rfl
  a22 := fun w => by kernel_rfl
  z22 := fun w => by kernel_rfl
  v22 := fun w => by kernel_rfl
  t25 := by kernel_rfl
  a25 := fun w => by kernel_rfl
  z25 := fun w => by kernel_rfl
  v25 := fun w => by kernel_rfl
  t39 := by kernel_rfl
  a39 := fun w => by kernel_rfl
  z39 := fun w => by kernel_rfl
  v39 := fun w => by kernel_rfl
  t45 := by kernel_rfl
  a45 := fun w => by kernel_rfl
  z45 := fun w => by kernel_rfl
  v45 := fun w => by kernel_rfl
  t46 := by kernel_rfl
  a46 := fun w => by kernel_rfl
  z46 := fun w => by kernel_rfl
  v46 := fun w => by kernel_rfl
  t50 := by kernel_rfl
  a50 := fun w => by kernel_rfl
  z50 := fun w => by kernel_rfl
  v50 := fun w => by kernel_rfl
  t53 := by kernel_rfl
  a53 := fun w => by kernel_rfl
  z53 := fun w => by kernel_rfl
  v53 := fun w => by kernel_rfl
  t55 := by kernel_rfl
  a55 := fun w => by kernel_rfl
  z55 := fun w => by kernel_rfl
  v55 := fun w => by kernel_rfl
  t66 := by kernel_rfl
  a66 := fun w => by kernel_rfl
  z66 := fun w => by kernel_rfl
  v66 := fun w => by kernel_rfl
  t70 := by kernel_rfl
  a70 := fun w => by kernel_rfl
  z70 := fun w => by kernel_rfl
  v70 := fun w => by kernel_rfl
  t76 := by kernel_rfl
  a76 := fun w => by kernel_rfl
  z76 := fun w => by kernel_rfl
  v76 := fun w => by kernel_rfl
  t77 := by kernel_rfl
  a77 := fun w => by kernel_rfl
  z77 := fun w => by kernel_rfl
  v77 := fun w => by kernel_rfl

theorem hk (x : Lbl) : x.cells.length = 2 := rfl
theorem one (x : Lbl) : ∀ u ∈ x.cells, u.oneCell' = true := by
  intro u hu
  simp only [Lbl.cells, List.mem_cons, List.not_mem_nil, or_false] at hu
  rcases hu with rfl | rfl <;> rfl

/-- what is asked of an order -/
def CmpOk (f : FuncId) (cb : Array Value) (cf : Lbl → Lbl → Int) (l : List Lbl) (ok : World → Prop) : Prop :=
  ∀ x ∈ l, ∀ y ∈ l, ∀ W, ok W → Calls Tryz.prog f (#[.agg #[.string x.name, .string x.value], .agg #[.string y.name, .string y.value]] ++ cb) W fun e w2 => e = .returned (.int .i64 (cf x y)) ∧ ∃ q os', w2 = grow (W.drewN q) os'

/-- elements of the list -/
abbrev El (l : List Lbl) := {x : Lbl // x ∈ l}
def eenc (l : List Lbl) (u : El l) : List Value := u.1.cells
def ecf (l : List Lbl) (cf : Lbl → Lbl → Int) (u v : El l) : Int := cf u.1 v.1
theorem attach_cells (l : List Lbl) : (l.attach.toArray.toList).flatMap (eenc l) = l.flatMap Lbl.cells := by
  have h : l.attach.toArray.toList.map Subtype.val = l := by rw [List.toList_toArray, List.attach_map_subtype_val]
  have h3 := List.flatMap_map (Subtype.val (p := fun x => x ∈ l)) Lbl.cells l.attach.toArray.toList
  rw [h] at h3
  exact h3.symm
/-- a sort of l -/
def SrtRes (lt : Lbl → Lbl → Bool) (l S : List Lbl) : Prop := S.Perm l ∧ (S.Pairwise fun x y => lt y x = false)
theorem swo_el {l : List Lbl} {cf : Lbl → Lbl → Int} (h : SWO fun x y => decide (cf x y < 0)) : SWO (ltOf (ecf l cf)) where
  irrefl x := h.irrefl x.1
  trans x y z := h.trans x.1 y.1 z.1
  ntrans x y z := h.ntrans x.1 y.1 z.1

set_option maxHeartbeats 1600000 in
/-- THE SORT: the block holds what it held, in order. -/
theorem sort_any (g c n m : Nat) (l : List Lbl) (rest : List Value) (f : FuncId) (cb : Array Value) (cf : Lbl → Lbl → Int) (w : World) (eg : ∀ args w, (callFunc f args).run Tryz.prog w = .ok (.enter f args) w) (hlt : SWO fun x y => decide (cf x y < 0)) (hC : CmpOk f cb cf l (fun W => w.grownBy W (some g)))
    (hw : Whole1 w g 70 (l.flatMap Lbl.cells ++ rest).toArray) (hm : (l.flatMap Lbl.cells ++ rest).length = m) (hl : l.length = n) (hn : n < 1152921504606846976) (h0 : 0 < n) :
    Calls Tryz.prog 106 #[.slice (some ⟨g, 0, none⟩) n c, .func (.func f) #[] cb] w
      fun e w' => e = .returned (.tuple #[]) ∧ ∃ S rest', SrtRes (fun x y => decide (cf x y < 0)) l S ∧ Whole1 w' g 70 (S.flatMap Lbl.cells ++ rest').toArray ∧ (S.flatMap Lbl.cells ++ rest').length = m ∧ w.grownBy w' (some g) := by
  have hne : l ≠ [] := by intro h; rw [h] at hl; simp at hl; omega
  haveI : Inhabited (El l) := ⟨⟨l.head hne, List.head_mem hne⟩⟩
  obtain ⟨d0, hd0⟩ : ∃ d0 : Array (El l), d0 = l.attach.toArray := ⟨_, rfl⟩
  have hcs : d0.toList.flatMap (eenc l) = l.flatMap Lbl.cells := by rw [hd0]; exact attach_cells l
  have hsz : d0.size = n := by rw [hd0]; simpa using hl
  have R : RowK (eenc l) 2 w g 0 d0 := by
    refine ⟨fun _ => rfl, fun x v hv => one x.1 v hv, holdsK_of_cells' (enc := (eenc l)) (k := 2) (off := 0) (d := d0) (fun _ => rfl) fun j hj => ⟨?_, hw.free _⟩, hw.lt⟩
    rw [hcs, Nat.zero_add, hw.cell, List.getElem?_toArray, List.getElem?_append_left (by rw [fm_len hk, hl, ← hsz]; exact hj)]
  have hL : CmpLays Tryz.prog f cb (eenc l) 2 (ecf l cf) g 0 d0.size w := by
    intro mm os dk hdk x y
    exact hC x.1 x.2 y.1 y.2 _ (sw_gb (enc := (eenc l)) (k := 2) ⟨mm, os, rfl⟩)
  have hcon := AnyQ.slices_SortFunc lays 2 (fun w => by kernel_rfl) (fun w => by kernel_rfl) (eenc l) R.hk R.h1 (ecf l cf) (swo_el hlt) f cb g 0 c d0 w eg hL R.hH R.hblk (by omega)
  rw [hsz] at hcon
  refine hcon.mono ?_
  rintro e w' ⟨rfl, d', nq, os, hp, hs, hw'⟩
  refine ⟨rfl, ?_⟩
  have hS : SWK (eenc l) 2 w g 0 d' w' := ⟨nq, os, hw'⟩
  have hsz' : d'.size = n := by rw [hp.1, hsz]
  have full : ∀ d : Array (El l), d.size = n → d.extract 0 n = d := fun d hd => by rw [← hd]; simp
  have hperm := hp.2.2
  rw [full _ hsz', full _ hsz, hd0] at hperm
  obtain ⟨rest', h1, h2⟩ := sw_block (l := d0.toList) (rest := rest) (m := m) hS R (by rw [hsz', hsz]) (by rw [hcs]; exact hw) (by rw [hcs]; exact hm) (by rw [hsz', ← hsz]; simp)
  have e : d'.toList.flatMap (eenc l) = (d'.toList.map Subtype.val).flatMap Lbl.cells := by rw [List.flatMap_map]; rfl
  rw [e] at h1 h2
  refine ⟨_, rest', ⟨?_, ?_⟩, h1, h2, sw_gb hS⟩
  · have := hperm.map Subtype.val
    rwa [List.toList_toArray, List.attach_map_subtype_val] at this
  · rw [List.pairwise_map, List.pairwise_iff_getElem]
    intro i j hi hj hij
    rw [Array.length_toList, hsz'] at hi hj
    have := hs i j (Nat.zero_le _) hij hj
    rw [getElem!_pos _ i (by rw [hsz']; exact hi), getElem!_pos _ j (by rw [hsz']; exact hj)] at this
    exact this
/-- the sort, at none -/
theorem ins0_any (A : Option Addr) (c : Nat) (fv : Value) (w : World) : Calls Tryz.prog 180 #[.slice A 0 c, .int .i64 0, .int .i64 0, fv] w fun e w' => e = .returned (.tuple #[]) ∧ w = w' := by
  go_enter Tryz.func180, Tryz.ntmps180
  go_wp2
  refine wp_loop_rounds 1 ?_
  rw [rounds_succ]
  go_wp2
  go_end0
  exact ⟨rfl, rfl⟩
theorem pdq0_any (A : Option Addr) (c : Nat) (lim : Int) (fv : Value) (w : World) : Calls Tryz.prog 150 #[.slice A 0 c, .int .i64 0, .int .i64 0, .int .i64 lim, fv] w fun e w' => e = .returned (.tuple #[]) ∧ w = w' := by
  go_enter Tryz.func150, Tryz.ntmps150
  go_wp2_with fail
  refine wp_loop_rounds 1 ?_
  rw [rounds_succ]
  go_wp2_with fail
  refine (ins0_any A c fv _).mono ?_
  rintro e w' ⟨rfl, rfl⟩
  go_wp2_with fail
  exact bodyPost_ret (v := .tuple #[]) (by simp [results, Tryz.results150, go_sem]) rfl ⟨rfl, rfl⟩
theorem sort0_any (A : Option Addr) (c : Nat) (fv : Value) (w : World) : Calls Tryz.prog 106 #[.slice A 0 c, fv] w fun e w' => e = .returned (.tuple #[]) ∧ w = w' := by
  have hl : Calls Tryz.prog 86 #[.int .u64 0] w fun e w' => e = .returned (.int .i64 (Lib.bitLen 0 : Nat)) ∧ w' = w :=
    Any.bits_Len (SlLaysF0.n15.bits (P := Tryz.prog) (ρ := ren) { lays with }) 0 w (by omega) (by omega)
  have HL := hidden hl
  clear hl
  go_enter Tryz.func106, Tryz.ntmps106
  go_wp2_with fail
  refine HL.out.mono ?_
  rintro e w' ⟨rfl, rfl⟩
  go_wp2_with fail
  refine (pdq0_any A c _ fv _).mono ?_
  rintro e w' ⟨rfl, rfl⟩
  go_wp2_with fail
  go_end0
  exact ⟨rfl, rfl⟩
/-- the sort at a row of the call's own -/
theorem sortAll_any (v : Value) (n base : Nat) (l : List Lbl) (f : FuncId) (cb : Array Value) (cf : Lbl → Lbl → Int) (w : World) (eg : ∀ args w, (callFunc f args).run Tryz.prog w = .ok (.enter f args) w) (hlt : SWO fun x y => decide (cf x y < 0)) (hC : ∀ g, base ≤ g → CmpOk f cb cf l (fun W => w.grownBy W (some g)))
    (hown : w.ownsRow base 70 2 v n (l.flatMap Lbl.cells)) (hl : l.length = n) (hn : n < 1152921504606846976) :
    Calls Tryz.prog 106 #[v, .func (.func f) #[] cb] w
      fun e w' => e = .returned (.tuple #[]) ∧ ∃ S, SrtRes (fun x y => decide (cf x y < 0)) l S ∧ w'.ownsRow base 70 2 v n (S.flatMap Lbl.cells) ∧ w.grownBy w' v.ownBlock := by
  rcases Nat.eq_zero_or_pos n with h0 | h0
  · subst h0
    obtain rfl : l = [] := List.eq_nil_of_length_eq_zero hl
    obtain ⟨A, c, rfl, _, _⟩ := own_shape hown
    refine (sort0_any A c _ w).mono ?_
    rintro e w' ⟨rfl, rfl⟩
    exact ⟨rfl, [], ⟨List.Perm.refl _, List.Pairwise.nil⟩, hown, gb_refl _ _⟩
  · obtain ⟨g, c, rest, rfl, hg, hw, hnc, hc, _, hm⟩ := own_whole_g hk hown h0
    refine (sort_any g c n (c * 2) l rest f cb cf w eg hlt (hC g hg) hw hm hl hn h0).mono ?_
    rintro e w' ⟨rfl, S, rest', hS, hw', hm', hgb⟩
    exact ⟨rfl, S, hS, own_of_whole_g hk hg hw' hnc hc (by rw [hS.1.length_eq]; exact hl) hm', hgb⟩
end Go.Proofs.YthncochjhbmceaaGreat.SrfLbl
