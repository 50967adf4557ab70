/- The reference's Uint, Int, ReadUint and ReadInt, walked. Texts with their length ahead, written and read: enc.Text, enc.ReadText and the reference's. Condition: the text is within the reach. The law's helpers ref, twin, alike at labels: what they return. Condition: the rows are within the reach. -/
import Derived.Test.YtbijjjhfekkfaaaGreatPk03438cbb
import Derived.Test.YtbijjjhfekkfaaaGreatPk33371d00
import Derived.Test.YtbijjjhfekkfaaaGreatPke35ef7c2
import Derived.Test.YtbijjjhfekkfaaaGreatPkc787b734
import Derived.Test.YtbijjjhfekkfaaaGreatPkeab15ca0
namespace Go.Proofs.YtbijjjhfekkfaaaGreat
set_option maxRecDepth 100000
open Go.RowKit Go.Shelf

theorem valL_drop_le (l : List UInt8) (m : Nat) : valL (l.drop m) ≤ valL l := by
  induction l generalizing m with
  | nil => simp
  | cons b l ih =>
    match m with
    | 0 => exact Nat.le_refl _
    | m + 1 =>
      have := ih m
      simp only [List.drop_succ_cons, valL]
      omega
theorem rd_byte {s : List UInt8} {a : Int} {k m : Nat} (h0 : 0 ≤ a) (hm : m ≤ k) (hk : k < s.length - a.toNat) : ∃ c, s[(a + ((m : Int) + 1)).toNat - 1]? = some c ∧ ((s.drop a.toNat).take (k + 1))[m]? = some c := by
  refine ⟨s[(a + ((m : Int) + 1)).toNat - 1]'(by omega), List.getElem?_eq_getElem (by omega), ?_⟩
  rw [List.getElem?_take_of_lt (by omega), List.getElem?_drop, List.getElem?_eq_getElem (by omega)]
  congr 2
  omega
theorem rd_step {T : List UInt8} {m : Nat} {c : UInt8} (hc : T[m]? = some c) (h : valL T < 18446744073709551616) :
    IntKind.u64.wrap (IntKind.u64.wrap ((valL (T.drop (m + 1)) : Int) * 128) + (c.toNat : Int) % 128) = (valL (T.drop m) : Nat) := by
  have hl := (List.getElem?_eq_some_iff.1 hc).1
  have e : T.drop m = c :: T.drop (m + 1) := by
    rw [List.drop_eq_getElem_cons hl]
    congr 1
    exact (List.getElem?_eq_some_iff.1 hc).2
  have hd := valL_drop_le T m
  rw [e] at hd ⊢
  simp only [valL] at hd ⊢
  rw [IntKind.wrap_u64, IntKind.wrap_u64]
  omega

end Go.Proofs.YtbijjjhfekkfaaaGreat

namespace Go.Proofs.YtbijjjhfekkfaaaGreat
set_option maxRecDepth 100000
open Go.RowKit

/-- a text, its length ahead -/
def textL (v : ByteArray) : List UInt8 := uintL v.size ++ v.data.toList
/-- a text read: what it is, the place behind it, the error -/
def readT (s : List UInt8) (a : Int) : ByteArray × Int × Int :=
  if (readU s a).2.2 = 0 then
    if (s.length : Int) - (readU s a).2.1 < (readU s a).1 then (⟨#[]⟩, 0, 20)
    else ((⟨s.toArray⟩ : ByteArray).extract (readU s a).2.1.toNat ((readU s a).2.1.toNat + (readU s a).1), (readU s a).2.1 + (readU s a).1, 0)
  else (⟨#[]⟩, 0, (readU s a).2.2)
section
variable {s : List UInt8} {a b e : Int} {n : Nat}
theorem readT_e (h : readU s a = (n, b, e)) (he : e ≠ 0) : readT s a = (⟨#[]⟩, 0, e) := by
  rw [readT, h]; exact if_neg he
theorem readT_short (h : readU s a = (n, b, 0)) (hl : (s.length : Int) - b < n) : readT s a = (⟨#[]⟩, 0, 20) := by
  rw [readT, h]; simp only [if_true]; exact if_pos hl
theorem readT_ok (h : readU s a = (n, b, 0)) (hl : ¬ (s.length : Int) - b < n) : readT s a = ((⟨s.toArray⟩ : ByteArray).extract b.toNat (b.toNat + n), b + n, 0) := by
  rw [readT, h]; simp only [if_true]; exact if_neg hl
end
theorem text_join (v : ByteArray) : (⟨(uintL v.size).toArray⟩ : ByteArray) ++ v = ⟨(textL v).toArray⟩ := bytes_eq (by simp [textL])
theorem uintB_size {n : Nat} (h : n < 18446744073709551616) : (⟨(uintL n).toArray⟩ : ByteArray).size ≤ 10 := by
  have := uintL_ten h
  have e : (⟨(uintL n).toArray⟩ : ByteArray).size = (uintL n).length := rfl
  omega
theorem text_any (v : ByteArray) (w : World) (hv : v.size ≤ 1000) :
    Calls Tryz.prog 165 #[.string v] w fun e w' => e = .returned (.string ⟨(textL v).toArray⟩) ∧ Below w.heap.size w w' := by
  have S1 := hidden (uint_any v.size w (by omega))
  have hj := text_join v
  have hz := uintB_size (n := v.size) (by omega)
  have hu : IntKind.u64.wrap (v.size : Int) = (v.size : Int) := Go.IntWalk.u64_in _ (by omega)
  obtain ⟨X, hX⟩ : ∃ X, (⟨(uintL v.size).toArray⟩ : ByteArray) = X := ⟨_, rfl⟩
  rw [hX] at S1 hj hz
  have hlim : ¬ 9223372036854775807 < X.size + v.size := by omega
  have HJ := hidden hj
  clear hj hX
  go_enter Tryz.func165, Tryz.ntmps165
  go_wp2_with fail
  refine S1.out.mono ?_
  rintro e w1 ⟨rfl, b1⟩
  go_wp2_with fail
  go_ret
  rw [HJ.out]
  exact ⟨rfl, b1⟩
theorem textR_any (v : ByteArray) (w : World) (hv : v.size ≤ 1000) :
    Calls Tryz.prog 217 #[.string v] w fun e w' => e = .returned (.string ⟨(textL v).toArray⟩) ∧ Below w.heap.size w w' := by
  have S1 := hidden (uintR_any v.size w (by omega))
  have hj := text_join v
  have hz := uintB_size (n := v.size) (by omega)
  have hu : IntKind.u64.wrap (v.size : Int) = (v.size : Int) := Go.IntWalk.u64_in _ (by omega)
  obtain ⟨X, hX⟩ : ∃ X, (⟨(uintL v.size).toArray⟩ : ByteArray) = X := ⟨_, rfl⟩
  rw [hX] at S1 hj hz
  have hlim : ¬ 9223372036854775807 < X.size + v.size := by omega
  have HJ := hidden hj
  clear hj hX
  go_enter Tryz.func217, Tryz.ntmps217
  go_wp2_with fail
  refine S1.out.mono ?_
  rintro e w1 ⟨rfl, b1⟩
  go_wp2_with fail
  go_ret
  rw [HJ.out]
  exact ⟨rfl, b1⟩

end Go.Proofs.YtbijjjhfekkfaaaGreat

namespace Go.Proofs.YtbijjjhfekkfaaaGreat.TwnLbl
set_option maxRecDepth 100000
open Go.RowKit

theorem hk (x : Lbl) : x.cells.length = 2 := rfl
theorem rinfo : (Tryz.prog.info? 245).map (fun i => (i.zero, i.size, i.bytes)) = some (some (.agg #[.string ByteArray.empty, .string ByteArray.empty]), 2, 32) := by kernel_rfl
theorem snoc_cells (l : List Lbl) (x : Lbl) : (l ++ [x]).flatMap Lbl.cells = l.flatMap Lbl.cells ++ [.string x.name, .string x.value] := by simp [Lbl.cells]

end Go.Proofs.YtbijjjhfekkfaaaGreat.TwnLbl
