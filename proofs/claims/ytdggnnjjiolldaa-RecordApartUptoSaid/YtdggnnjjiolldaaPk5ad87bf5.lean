/- The reference's Uint, Int, ReadUint and ReadInt, walked. -/
import Derived.Test.YtdggnnjjiolldaaPk61db2b11
import Derived.Test.YtdggnnjjiolldaaPk12a43743
namespace Go.Proofs.Ytdggnnjjiolldaa
set_option maxRecDepth 100000
open Go.RowKit Go.Shelf

theorem valL_drop_le (l : List UInt8) (m : Nat) : valL (l.drop m) ≤ valL l := by
  induction l generalizing m with
  | nil => simp
  | cons b l ih =>
    match m with
    | 0 => exact Nat.le_refl _
    | m + 1 =>
      have := ih m
      simp only [List.drop_succ_cons, valL]
      omega
theorem rd_byte {s : List UInt8} {a : Int} {k m : Nat} (h0 : 0 ≤ a) (hm : m ≤ k) (hk : k < s.length - a.toNat) : ∃ c, s[(a + ((m : Int) + 1)).toNat - 1]? = some c ∧ ((s.drop a.toNat).take (k + 1))[m]? = some c := by
  refine ⟨s[(a + ((m : Int) + 1)).toNat - 1]'(by omega), List.getElem?_eq_getElem (by omega), ?_⟩
  rw [List.getElem?_take_of_lt (by omega), List.getElem?_drop, List.getElem?_eq_getElem (by omega)]
  congr 2
  omega
theorem rd_step {T : List UInt8} {m : Nat} {c : UInt8} (hc : T[m]? = some c) (h : valL T < 18446744073709551616) :
    IntKind.u64.wrap (IntKind.u64.wrap ((valL (T.drop (m + 1)) : Int) * 128) + (c.toNat : Int) % 128) = (valL (T.drop m) : Nat) := by
  have hl := (List.getElem?_eq_some_iff.1 hc).1
  have e : T.drop m = c :: T.drop (m + 1) := by
    rw [List.drop_eq_getElem_cons hl]
    congr 1
    exact (List.getElem?_eq_some_iff.1 hc).2
  have hd := valL_drop_le T m
  rw [e] at hd ⊢
  simp only [valL] at hd ⊢
  rw [IntKind.wrap_u64, IntKind.wrap_u64]
  omega

end Go.Proofs.Ytdggnnjjiolldaa
