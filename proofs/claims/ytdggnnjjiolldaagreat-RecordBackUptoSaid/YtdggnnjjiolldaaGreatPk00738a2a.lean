/- The reference's Uint and Int, walked. The reference's Quote, walked: a text in quotation marks. Condition: the text is within the reach. The loose reading of a quotation, plainly. No condition. The reference's value of a digit. No condition. -/
import Derived.Test.YtdggnnjjiolldaaGreatPk10a58e19
import Derived.Laws.IdiomStrings
import Derived.Test.YtdggnnjjiolldaaGreatPk16d34f5a
import Derived.IntWalk
import Derived.Test.YtdggnnjjiolldaaGreatPka150b50f
namespace Go.Proofs.YtdggnnjjiolldaaGreat
set_option maxRecDepth 100000
open Go.RowKit Go.Shelf

theorem bytes_back {w : World} {v : Value} {B n : Nat} {l : List UInt8} (h : w.ownsRow B 5 1 v n (Lib.byteCells l)) (hl : l.length = n) (h0 : l ≠ []) :
    (convert 46 9 v).run Tryz.prog w = .ok (.string ⟨l.toArray⟩) w := by
  have hn := List.length_pos_iff.2 h0
  rcases h.2 with ⟨rfl, hs⟩ | ⟨g, cap, cur, rfl, _⟩
  · omega
  · subst hl
    refine run_convert_bytes_back w 46 9 5 ⟨g, 0, none⟩ cap l Tryz.underlying46 Tryz.underlying5 Tryz.underlying9 fun j hj => ?_
    exact h.cells (g := g) rfl j (.int .u8 l[j].toNat) (by simp [Lib.byteCells, List.getElem?_eq_getElem hj])

theorem zz_pos {v : Int} (h : 0 ≤ v) : v * 2 = (zz v : Nat) := by
  unfold zz; rw [if_pos h]; omega
theorem zz_neg {v : Int} (h : ¬ 0 ≤ v) : -(v + 1) * 2 + 1 = (zz v : Nat) := by
  unfold zz; rw [if_neg h]; omega
end Go.Proofs.YtdggnnjjiolldaaGreat

namespace Go.Proofs.YtdggnnjjiolldaaGreat
set_option maxRecDepth 100000
open Go.RowKit

theorem fresh_byte (w : World) (b : UInt8) : (w.alloc (.cells #[.int .u8 (b.toNat : Int)] 5)).ownsRow w.heap.size 5 1 (.slice (some ⟨w.heap.size, 0, none⟩) 1 1) 1 (Lib.byteCells [b]) :=
  ⟨rfl, .inr ⟨w.heap.size, 1, #[.int .u8 (b.toNat : Int)], rfl, Nat.le_refl _, Array.getElem?_push_size, Nat.le_refl _, by unfold maxLen; omega, rfl, by rw [bytes_one]; rfl⟩⟩
theorem str_app (a b : List UInt8) : (⟨a.toArray⟩ : ByteArray) ++ ⟨b.toArray⟩ = ⟨(a ++ b).toArray⟩ := bytes_eq (by simp)
theorem str_sub {v : ByteArray} {k : Nat} {b : UInt8} (h : v.data.toList[k]? = some b) : v.extract k (k + 1) = ⟨[b].toArray⟩ := bytes_eq (by
  have hk := (List.getElem?_eq_some_iff.1 h).1
  rw [ByteArray.data_extract, Array.toList_extract]
  simp only [List.extract]
  rw [show k + 1 - k = 1 by omega, List.drop_eq_getElem_cons hk, List.take_succ_cons, List.take_zero, (List.getElem?_eq_some_iff.1 h).2])

end Go.Proofs.YtdggnnjjiolldaaGreat

namespace Go.Proofs.YtdggnnjjiolldaaGreat

def hexI (b : UInt8) : Nat := if hexV b < 16 then hexV b else 255
def hexB (h l : UInt8) : UInt8 := UInt8.ofNat ((hexI h * 16 % 256) ||| hexI l)
/-- one step of the loose reading: what is read, and what is left -/
def looStep : List UInt8 → UInt8 × List UInt8
  | [] => (0, [])
  | [c] => (c, [])
  | c :: d :: r => if c.toNat = 92 then (if d.toNat = 120 then (match r with | h :: l :: r2 => (hexB h l, r2) | _ => (d, r)) else (d, r)) else (c, d :: r)
/-- v was read of s, and r is left -/
inductive Loo (s : List UInt8) : List UInt8 → List UInt8 → Prop
  | here : Loo s [] s
  | more {v r : List UInt8} : Loo s v r → r ≠ [] → r.head? ≠ some 34 → Loo s (v ++ [(looStep r).1]) (looStep r).2

theorem hex_or : ∀ a b : Fin 16, (a.val * 16 % 256) ||| b.val = a.val * 16 + b.val := by decide +kernel
theorem hexB_D (b : UInt8) : hexB (hexD (b.toNat / 16)) (hexD (b.toNat % 16)) = b := by
  have hb := b.toNat_lt
  have h1 : b.toNat / 16 < 16 := by omega
  have h2 : b.toNat % 16 < 16 := by omega
  have h3 := hex_or ⟨b.toNat / 16, h1⟩ ⟨b.toNat % 16, h2⟩
  simp only at h3
  unfold hexB hexI
  rw [hexV_D h1, hexV_D h2, if_pos h1, if_pos h2, h3, show b.toNat / 16 * 16 + b.toNat % 16 = b.toNat by omega]
  simp
theorem looStep_quo (b : UInt8) (t : List UInt8) : looStep (quoB b ++ 34 :: t) = (b, 34 :: t) ∧ ∀ (x : UInt8) (r : List UInt8), looStep (quoB b ++ x :: r) = (b, x :: r) := by
  have key : ∀ (x : UInt8) (r : List UInt8), looStep (quoB b ++ x :: r) = (b, x :: r) := by
    intro x r
    unfold quoB
    by_cases h1 : b.toNat = 34 ∨ b.toNat = 92
    · rw [if_pos h1]
      have h2 : ¬ b.toNat = 120 := by omega
      simp [looStep, h2]
    · rw [if_neg h1]
      by_cases h2 : 32 ≤ b.toNat ∧ b.toNat ≤ 126
      · rw [if_pos h2]
        have h3 : ¬ b.toNat = 92 := by omega
        simp [looStep, h3]
      · rw [if_neg h2]
        have := hexB_D b
        simp [looStep, this]
  exact ⟨key _ _, key⟩
theorem quoB_head (b : UInt8) (r : List UInt8) : quoB b ++ r ≠ [] ∧ (quoB b ++ r).head? ≠ some 34 := by
  unfold quoB
  by_cases h1 : b.toNat = 34 ∨ b.toNat = 92
  · rw [if_pos h1]; simp
  · rw [if_neg h1]
    by_cases h2 : 32 ≤ b.toNat ∧ b.toNat ≤ 126
    · rw [if_pos h2]
      refine ⟨by simp, fun e => ?_⟩
      simp only [List.cons_append, List.nil_append, List.head?_cons, Option.some.injEq] at e
      exact h1 (.inl (by rw [e]; rfl))
    · rw [if_neg h2]; simp
/-- the loose reading of a right quotation reads its value -/
theorem loo_quo {u t : List UInt8} : ∀ {v r : List UInt8}, Loo (quoL u ++ 34 :: t) v r → ∃ k, v = u.take k ∧ r = quoL (u.drop k) ++ 34 :: t := by
  intro v r h
  induction h with
  | here => exact ⟨0, by simp, by simp⟩
  | @more v r h h1 h2 ih =>
    obtain ⟨k, rfl, rfl⟩ := ih
    cases hd : u.drop k with
    | nil =>
      rw [hd] at h2
      exact absurd rfl h2
    | cons b d =>
      have hu : u[k]? = some b := by
        have : (u.drop k)[0]? = some b := by rw [hd]; rfl
        rwa [List.getElem?_drop, Nat.add_zero] at this
      have hd2 : u.drop (k + 1) = d := by rw [← List.drop_drop, hd]; rfl
      have hq : quoL (b :: d) ++ 34 :: t = quoB b ++ (quoL d ++ 34 :: t) := by simp [quoL]
      have hs : looStep (quoL (b :: d) ++ 34 :: t) = (b, quoL d ++ 34 :: t) := by
        rw [hq]
        cases hx : quoL d ++ 34 :: t with
        | nil => simp at hx
        | cons x r => exact (looStep_quo b t).2 x r
      rw [hs]
      refine ⟨k + 1, ?_, by rw [hd2]⟩
      rw [List.take_add_one, hu]
      rfl
theorem loo_end {u t v r : List UInt8} (h : Loo (quoL u ++ 34 :: t) v r) (he : r = [] ∨ r.head? = some 34) : v = u ∧ r = 34 :: t := by
  obtain ⟨k, rfl, rfl⟩ := loo_quo h
  cases hd : u.drop k with
  | nil =>
    have : u.length ≤ k := List.drop_eq_nil_iff.1 hd
    exact ⟨List.take_of_length_le this, by simp [quoL]⟩
  | cons b d =>
    rw [hd] at he
    have hq : quoL (b :: d) ++ 34 :: t = quoB b ++ (quoL d ++ 34 :: t) := by simp [quoL]
    rw [hq] at he
    have := quoB_head b (quoL d ++ 34 :: t)
    rcases he with he | he
    · exact absurd he this.1
    · exact absurd he this.2
end Go.Proofs.YtdggnnjjiolldaaGreat

namespace Go.Proofs.YtdggnnjjiolldaaGreat
set_option maxRecDepth 100000
open Go.RowKit

end Go.Proofs.YtdggnnjjiolldaaGreat
