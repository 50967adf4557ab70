/- The library's stable sort, as functions on arrays: what it leaves is sorted by an order that tells equals by where they stood. No condition. No program in this text. What the stable sort leaves is sorted, equals as they stood. No condition. No program in this text. -/
import Derived.Sort.LotA
namespace Go.Proofs.YthncochjhbmceaaGreat
open Go.Sort
variable {α : Type} [Inhabited α]

/-- 'for i := 0; i < n; i++ { swap a+i, b+i }', from i -/
def swapFrom (a b n i : Nat) (d : Array α) : Array α := if i < n then swapFrom a b n (i + 1) (swp d (a + i) (b + i)) else d
termination_by n - i

/-- the loop of rotate -/
def rot (m : Nat) : Nat → Nat → Nat → Array α → Array α
  | 0, _, _, d => d
  | f + 1, i, j, d =>
    if i = j then swapFrom (m - i) m i 0 d
    else if j < i then rot m f (i - j) j (swapFrom (m - i) m j 0 d)
    else rot m f i (j - i) (swapFrom (m - i) (m + j - i) i 0 d)

/-- where a binary search comes to an end -/
def bsr (p : Nat → Bool) (i j : Nat) : Nat := if i < j then (if p ((i + j) / 2) then bsr p ((i + j) / 2 + 1) j else bsr p i ((i + j) / 2)) else i
termination_by j - i

/-- 'for k := a; k < t; k++ { swap k, k+1 }', from k -/
def moveUp (t k : Nat) (d : Array α) : Array α := if k < t then moveUp t (k + 1) (swp d k (k + 1)) else d
termination_by t - k
/-- 'for k := m; k > i; k-- { swap k, k-1 }', from k -/
def moveDown (i : Nat) : Nat → Array α → Array α
  | 0, d => d
  | k + 1, d => if i < k + 1 then moveDown i k (swp d (k + 1) k) else d

def symMerge (lt : α → α → Bool) : Nat → Nat → Nat → Nat → Array α → Array α
  | 0, _, _, _, d => d
  | f + 1, a, m, b, d =>
    if m - a = 1 then moveUp (bsr (fun h => lt d[h]! d[a]!) m b - 1) a d
    else if b - m = 1 then moveDown (bsr (fun h => !lt d[m]! d[h]!) a m) m d
    else
      let mid := (a + b) / 2
      let n := mid + m
      let s := if mid < m then bsr (fun c => !lt d[n - 1 - c]! d[c]!) (n - b) mid else bsr (fun c => !lt d[n - 1 - c]! d[c]!) a m
      let e := n - s
      let d1 := if s < m ∧ m < e then rot m (b - a) (m - s) (e - m) d else d
      let d2 := if a < s ∧ s < mid then symMerge lt f a s mid d1 else d1
      if mid < e ∧ e < b then symMerge lt f mid e b d2 else d2

/-- the blocks of the first rounds, from a -/
def insBlocks (lt : α → α → Bool) (n a : Nat) (d : Array α) : Array α := if a + 20 ≤ n then insBlocks lt n (a + 20) (insertionSort lt d a (a + 20)) else insertionSort lt d a n
termination_by n - a
/-- one pass of merges of blocks of blk, from a -/
def pass (lt : α → α → Bool) (blk n : Nat) : Nat → Nat → Array α → Array α
  | 0, _, d => d
  | f + 1, a, d => if a + 2 * blk ≤ n then pass lt blk n f (a + 2 * blk) (symMerge lt (2 * blk) a (a + blk) (a + 2 * blk) d) else if a + blk < n then symMerge lt (n - a) a (a + blk) n d else d
def passes (lt : α → α → Bool) (n : Nat) : Nat → Nat → Array α → Array α
  | 0, _, d => d
  | f + 1, blk, d => if blk < n then passes lt n f (2 * blk) (pass lt blk n (n + 1) 0 d) else d
def stable (lt : α → α → Bool) (n : Nat) (d : Array α) : Array α := passes lt n n 20 (insBlocks lt n 0 d)

/-! What they do. -/
/-- [s, m) and [m, e) are exchanged -/
def Rotd (s m e : Nat) (d d' : Array α) : Prop := ∀ p, d'[p]! = if s ≤ p ∧ p < s + (e - m) then d[p + (m - s)]! else if s + (e - m) ≤ p ∧ p < e then d[p - (e - m)]! else d[p]!

/-! Two orders: 'lt', by which the text compares; 'R', that tells equals by where they stood. Across a border both are one. -/
variable {lt R : α → α → Bool}

/-- what stands ahead of the border m and what stands behind it -/
def Cross (lt R : α → α → Bool) (a m b : Nat) (d : Array α) : Prop := ∀ i j, a ≤ i → i < m → m ≤ j → j < b → lt d[j]! d[i]! = R d[j]! d[i]!

end Go.Proofs.YthncochjhbmceaaGreat

namespace Go.Proofs.YthncochjhbmceaaGreat
open Go.Sort
variable {α : Type} [Inhabited α] {lt R : α → α → Bool}

/-- what a stage of blocks of B leaves, from a on -/
structure Stage (R : α → α → Bool) (B n a : Nat) (d d' : Array α) : Prop where
  perm : PermIn a n d d'
  sorted : ∀ t, a ≤ t * B → SortedIn R (t * B) (min (t * B + B) n) d'
  from_ : ∀ t, a ≤ t * B → ∀ p, t * B ≤ p → p < min (t * B + B) n → ∃ q, t * B ≤ q ∧ q < min (t * B + B) n ∧ d'[p]! = d[q]!

theorem from_perm {d d' : Array α} {a b : Nat} (hb : b ≤ d.size) (h : PermIn a b d d') (p : Nat) (h1 : a ≤ p) (h2 : p < b) : ∃ q, a ≤ q ∧ q < b ∧ d'[p]! = d[q]! :=
  permIn_all d d' a b (fun x => ∃ q, a ≤ q ∧ q < b ∧ x = d[q]!) hb h (fun q h3 h4 => ⟨q, h3, h4, rfl⟩) p h1 h2

/-- one block, then the others -/
theorem Stage.cons {B n s : Nat} {d d1 d2 : Array α} (hn : n ≤ d.size) (hB : 0 < B) (hs : s * B + B ≤ n) (p1 : PermIn (s * B) (s * B + B) d d1) (s1 : SortedIn R (s * B) (s * B + B) d1) (h : Stage R B n (s * B + B) d1 d2) : Stage R B n (s * B) d d2 := by
  have hmin : min (s * B + B) n = s * B + B := by omega
  refine ⟨permIn_trans _ _ _ _ _ (permIn_mono _ _ _ _ _ _ (Nat.le_refl _) hs hn p1) (permIn_mono _ _ _ _ _ _ (by omega) (Nat.le_refl _) (by rw [p1.1]; exact hn) h.perm), fun t ht => ?_, fun t ht p hp1 hp2 => ?_⟩
  · by_cases he : s * B + B ≤ t * B
    · exact h.sorted t he
    · have hts : t = s := by
        have h1 : s ≤ t := Nat.le_of_mul_le_mul_right ht hB
        have h2 : ¬ s + 1 ≤ t := fun h3 => he (by have := Nat.mul_le_mul_right B h3; rw [Nat.add_mul, Nat.one_mul] at this; exact this)
        omega
      subst hts
      rw [hmin]
      intro i j h1 h2 h3
      rw [h.perm.2.1 i (.inl (by omega)), h.perm.2.1 j (.inl (by omega))]
      exact s1 i j h1 h2 h3
  · by_cases he : s * B + B ≤ t * B
    · obtain ⟨q, q1, q2, q3⟩ := h.from_ t he p hp1 hp2
      exact ⟨q, q1, q2, by rw [q3, p1.2.1 q (.inr (by omega))]⟩
    · have hts : t = s := by
        have h1 : s ≤ t := Nat.le_of_mul_le_mul_right ht hB
        have h2 : ¬ s + 1 ≤ t := fun h3 => he (by have := Nat.mul_le_mul_right B h3; rw [Nat.add_mul, Nat.one_mul] at this; exact this)
        omega
      subst hts
      rw [hmin] at hp2 ⊢
      rw [h.perm.2.1 p (.inl (by omega))]
      exact from_perm (by omega) p1 p hp1 hp2

/-- the last block -/
theorem Stage.last {B n s : Nat} {d d1 : Array α} (hn : n ≤ d.size) (hB : 0 < B) (hs : n < s * B + B) (hs0 : s * B ≤ n) (p1 : PermIn (s * B) n d d1) (s1 : SortedIn R (s * B) n d1) : Stage R B n (s * B) d d1 := by
  have key : ∀ t, s * B ≤ t * B → t = s ∨ n ≤ t * B := fun t ht => by
    have h1 : s ≤ t := Nat.le_of_mul_le_mul_right ht hB
    rcases Nat.lt_or_ge s t with h2 | h2
    · right
      have := Nat.mul_le_mul_right B h2
      rw [Nat.succ_mul] at this
      omega
    · left; omega
  have hmin : min (s * B + B) n = n := by omega
  refine ⟨p1, fun t ht => ?_, fun t ht p hp1 hp2 => ?_⟩
  · rcases key t ht with rfl | h
    · rw [hmin]; exact s1
    · intro i j h1 h2 h3; omega
  · rcases key t ht with rfl | h
    · rw [hmin] at hp2 ⊢; exact from_perm hn p1 p hp1 hp2
    · omega

end Go.Proofs.YthncochjhbmceaaGreat
