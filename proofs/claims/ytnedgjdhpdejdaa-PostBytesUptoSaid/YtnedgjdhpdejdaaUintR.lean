/- The reference's Uint and Int, walked. -/
import Derived.Test.YtnedgjdhpdejdaaEncU
import Derived.Laws.IdiomStrings
namespace Go.Proofs.Ytnedgjdhpdejdaa
set_option maxRecDepth 100000
open Go.RowKit Go.Shelf

theorem bytes_back {w : World} {v : Value} {B n : Nat} {l : List UInt8} (h : w.ownsRow B 5 1 v n (Lib.byteCells l)) (hl : l.length = n) (h0 : l ≠ []) :
    (convert 57 9 v).run Try.prog w = .ok (.string ⟨l.toArray⟩) w := by
  have hn := List.length_pos_iff.2 h0
  rcases h.2 with ⟨rfl, hs⟩ | ⟨g, cap, cur, rfl, _⟩
  · omega
  · subst hl
    refine run_convert_bytes_back w 57 9 5 ⟨g, 0, none⟩ cap l Try.underlying57 Try.underlying5 Try.underlying9 fun j hj => ?_
    exact h.cells (g := g) rfl j (.int .u8 l[j].toNat) (by simp [Lib.byteCells, List.getElem?_eq_getElem hj])

set_option maxHeartbeats 2000000 in
theorem uintR_any (v : Nat) (w : World) (hv : v < 18446744073709551616) :
    Calls Try.prog 28 #[.int .u64 v] w fun e w' => e = .returned (.string ⟨(uintL v).toArray⟩) ∧ Below w.heap.size w w' := by
  obtain ⟨i0, hi, hz0, hz1, hz2⟩ := info_parts infoByte
  have hten := uintL_ten hv
  go_enter Try.func28, Try.ntmps28
  go_wp2_with fail
  have hO : (w.alloc (.cells #[] 5)).ownsRow w.heap.size 5 1 (.slice (some ⟨w.heap.size, 0, none⟩) 0 0) 0 (Lib.byteCells []) :=
    ⟨rfl, .inr ⟨w.heap.size, 0, #[], rfl, Nat.le_refl _, Array.getElem?_push_size, Nat.le_refl _, Nat.zero_le _, rfl, rfl⟩⟩
  have hB : Below w.heap.size w (w.alloc (.cells #[] 5)) := (Below.refl _ _).alloc (Nat.le_refl _) _
  generalize w.alloc (.cells #[] 5) = w1 at hO hB ⊢
  obtain ⟨g, hg⟩ : ∃ g, w.heap.size = g := ⟨_, rfl⟩
  have HG := hidden hg
  rw [hg] at hO hB ⊢
  go_loopw [0, 3] (fun x out wr => ∃ (k : Nat) (pre : List UInt8), x = .int .u64 k ∧ k < 18446744073709551616 ∧ wr.ownsRow g 5 1 out pre.length (Lib.byteCells pre) ∧ Hid (pre ++ uintL k = uintL v) ∧ Below g w wr) (fun x _ _ => (intOf x).toNat)
  case atStart => exact ⟨v, [], rfl, hv, hO, hidden rfl, hB⟩
  case round =>
    obtain ⟨k, pre, rfl, hk, ho, hp, hbl⟩ := hrel
    by_cases hs : k < 128
    · have h1 : ¬ (127 : Int) < (k : Int) := by omega
      have hpl := uintL_pre hp.out (by rw [uintL_small hs]; simp)
      go_wp2_with (at_builtin; refine wpList_append_own _ rfl _ _ 57 rfl g 5 i0 (.int .u8 0) 1 1 Try.underlying57 hi hz0 hz1 hz2 rfl (by decide) _ _ _ rfl (ho.alloc _) ⟨wr.heap.size, 0, none⟩ 1 1 [.int .u8 k] rfl rfl ?c1 ?c2 ?c3 ?c4 ?c5 ?_)
      case c2 => rfl
      case c3 => unfold maxLen; omega
      case c4 => omega
      case c5 => have := hbl.size; simp; omega
      intro v' w2 hown' hgrow _
      have hby : Lib.byteCells pre ++ [.int .u8 (k : Int)] = Lib.byteCells (uintL v) := by rw [← hp.out, uintL_small hs, Lib.byteCells_append, byteCells_one (by omega)]
      rw [hby] at hown'
      have hC := bytes_back hown' (by rw [← hp.out, uintL_small hs, List.length_append]; rfl) (uintL_ne v)
      go_wp2_with fail
      go_ret
      refine ⟨rfl, ?_⟩
      have hB2 : Below g w (wr.alloc (.cells #[.int .u8 k] 5)) := hbl.alloc (by have := hbl.size; have := HG.out; omega) _
      have := HG.out
      subst this
      exact hB2.grown hgrow (by have := hbl.size; simp; omega) (fun q hq => (ho.lt q hq).1)
    · have h1 : (127 : Int) < (k : Int) := by omega
      have hpl := uintL_pre hp.out (List.length_pos_iff.2 (uintL_ne k))
      have hch : Hid ((k : Int) % 128 + 128 = ((k % 128 + 128 : Nat) : Int)) := hidden (by omega)
      go_wp2_with (at_builtin; refine wpList_append_own _ rfl _ _ 57 rfl g 5 i0 (.int .u8 0) 1 1 Try.underlying57 hi hz0 hz1 hz2 rfl (by decide) _ _ _ rfl (ho.alloc _) ⟨wr.heap.size, 0, none⟩ 1 1 [.int .u8 ((k : Int) % 128 + 128)] rfl rfl ?d1 ?d2 ?d3 ?d4 ?d5 ?_)
      case d1 =>
        intro j u hj
        match j, hj with
        | 0, hj => simp at hj; subst hj; simp [Addr.add]
      case d2 => intro u hu; simp at hu; subst hu; rfl
      case d3 => unfold maxLen; omega
      case d4 => omega
      case d5 => have := hbl.size; simp; omega
      intro v' w2 hown' hgrow _
      have hby : Lib.byteCells pre ++ [.int .u8 ((k : Int) % 128 + 128)] = Lib.byteCells (pre ++ [UInt8.ofNat (k % 128 + 128)]) := by rw [Lib.byteCells_append, byteCells_one (by omega), hch.out]
      rw [hby] at hown'
      have hp2 : Hid ((pre ++ [UInt8.ofNat (k % 128 + 128)]) ++ uintL (k / 128) = uintL v) := hidden (by rw [← hp.out, uintL_big hs, List.append_assoc]; rfl)
      have hB2 : Below g w (wr.alloc (.cells #[.int .u8 ((k : Int) % 128 + 128)] 5)) := hbl.alloc (by have := hbl.size; have := HG.out; omega) _
      have hB3 := hB2.grown hgrow (by have := hbl.size; simp; omega) (fun q hq => (ho.lt q hq).1)
      clear hB2 hgrow ho hbl hch hby
      go_wp2_with fail
      go_roundw
      case rel => exact ⟨k / 128, _, by go_num, by omega, by simpa using hown', hp2, hB3⟩
      case measure => simp [intOf]; omega

theorem zz_pos {v : Int} (h : 0 ≤ v) : v * 2 = (zz v : Nat) := by
  unfold zz; rw [if_pos h]; omega
theorem zz_neg {v : Int} (h : ¬ 0 ≤ v) : -(v + 1) * 2 + 1 = (zz v : Nat) := by
  unfold zz; rw [if_neg h]; omega
end Go.Proofs.Ytnedgjdhpdejdaa
