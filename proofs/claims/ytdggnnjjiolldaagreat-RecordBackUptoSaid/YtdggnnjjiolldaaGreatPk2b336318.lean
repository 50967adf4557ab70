/- The reference's Uint, Int, ReadUint and ReadInt, walked. Texts with their length ahead, written and read: enc.Text, enc.ReadText and the reference's. Condition: the text is within the reach. (*strings.Builder).Grow at a fresh builder, walked. Condition: the number is within the reach. -/
import Derived.Test.YtdggnnjjiolldaaGreatPkfa4ebbd5
import Derived.Test.YtdggnnjjiolldaaGreatPk10a58e19
import Derived.Test.YtdggnnjjiolldaaGreatPk5f3240ef
import Derived.Lib.MakeNoZero
namespace Go.Proofs.YtdggnnjjiolldaaGreat
set_option maxRecDepth 100000
open Go.RowKit Go.Shelf

theorem valL_drop_le (l : List UInt8) (m : Nat) : valL (l.drop m) ≤ valL l := by
  induction l generalizing m with
  | nil => simp
  | cons b l ih =>
    match m with
    | 0 => exact Nat.le_refl _
    | m + 1 =>
      have := ih m
      simp only [List.drop_succ_cons, valL]
      omega
theorem rd_byte {s : List UInt8} {a : Int} {k m : Nat} (h0 : 0 ≤ a) (hm : m ≤ k) (hk : k < s.length - a.toNat) : ∃ c, s[(a + ((m : Int) + 1)).toNat - 1]? = some c ∧ ((s.drop a.toNat).take (k + 1))[m]? = some c := by
  refine ⟨s[(a + ((m : Int) + 1)).toNat - 1]'(by omega), List.getElem?_eq_getElem (by omega), ?_⟩
  rw [List.getElem?_take_of_lt (by omega), List.getElem?_drop, List.getElem?_eq_getElem (by omega)]
  congr 2
  omega
theorem rd_step {T : List UInt8} {m : Nat} {c : UInt8} (hc : T[m]? = some c) (h : valL T < 18446744073709551616) :
    IntKind.u64.wrap (IntKind.u64.wrap ((valL (T.drop (m + 1)) : Int) * 128) + (c.toNat : Int) % 128) = (valL (T.drop m) : Nat) := by
  have hl := (List.getElem?_eq_some_iff.1 hc).1
  have e : T.drop m = c :: T.drop (m + 1) := by
    rw [List.drop_eq_getElem_cons hl]
    congr 1
    exact (List.getElem?_eq_some_iff.1 hc).2
  have hd := valL_drop_le T m
  rw [e] at hd ⊢
  simp only [valL] at hd ⊢
  rw [IntKind.wrap_u64, IntKind.wrap_u64]
  omega

end Go.Proofs.YtdggnnjjiolldaaGreat

namespace Go.Proofs.YtdggnnjjiolldaaGreat
set_option maxRecDepth 100000
open Go.RowKit

/-- a text, its length ahead -/
def textL (v : ByteArray) : List UInt8 := uintL v.size ++ v.data.toList
/-- a text read: what it is, the place behind it, the error -/
def readT (s : List UInt8) (a : Int) : ByteArray × Int × Int :=
  if (readU s a).2.2 = 0 then
    if (s.length : Int) - (readU s a).2.1 < (readU s a).1 then (⟨#[]⟩, 0, 20)
    else ((⟨s.toArray⟩ : ByteArray).extract (readU s a).2.1.toNat ((readU s a).2.1.toNat + (readU s a).1), (readU s a).2.1 + (readU s a).1, 0)
  else (⟨#[]⟩, 0, (readU s a).2.2)
section
variable {s : List UInt8} {a b e : Int} {n : Nat}
theorem readT_e (h : readU s a = (n, b, e)) (he : e ≠ 0) : readT s a = (⟨#[]⟩, 0, e) := by
  rw [readT, h]; exact if_neg he
theorem readT_short (h : readU s a = (n, b, 0)) (hl : (s.length : Int) - b < n) : readT s a = (⟨#[]⟩, 0, 20) := by
  rw [readT, h]; simp only [if_true]; exact if_pos hl
theorem readT_ok (h : readU s a = (n, b, 0)) (hl : ¬ (s.length : Int) - b < n) : readT s a = ((⟨s.toArray⟩ : ByteArray).extract b.toNat (b.toNat + n), b + n, 0) := by
  rw [readT, h]; simp only [if_true]; exact if_neg hl
end
theorem text_join (v : ByteArray) : (⟨(uintL v.size).toArray⟩ : ByteArray) ++ v = ⟨(textL v).toArray⟩ := bytes_eq (by simp [textL])
theorem uintB_size {n : Nat} (h : n < 18446744073709551616) : (⟨(uintL n).toArray⟩ : ByteArray).size ≤ 10 := by
  have := uintL_ten h
  have e : (⟨(uintL n).toArray⟩ : ByteArray).size = (uintL n).length := rfl
  omega
theorem text_any (v : ByteArray) (w : World) (hv : v.size ≤ 1000) :
    Calls Tryz.prog 48 #[.string v] w fun e w' => e = .returned (.string ⟨(textL v).toArray⟩) ∧ Below w.heap.size w w' := by
  have S1 := hidden (uint_any v.size w (by omega))
  have hj := text_join v
  have hz := uintB_size (n := v.size) (by omega)
  have hu : IntKind.u64.wrap (v.size : Int) = (v.size : Int) := Go.IntWalk.u64_in _ (by omega)
  obtain ⟨X, hX⟩ : ∃ X, (⟨(uintL v.size).toArray⟩ : ByteArray) = X := ⟨_, rfl⟩
  rw [hX] at S1 hj hz
  have hlim : ¬ 9223372036854775807 < X.size + v.size := by omega
  have HJ := hidden hj
  clear hj hX
  go_enter Tryz.func48, Tryz.ntmps48
  go_wp2_with fail
  refine S1.out.mono ?_
  rintro e w1 ⟨rfl, b1⟩
  go_wp2_with fail
  go_ret
  rw [HJ.out]
  exact ⟨rfl, b1⟩
set_option maxHeartbeats 1600000 in
theorem readText_any (s : List UInt8) (a : Int) (w : World) (hs : s.length < 9223372036854775000) (ha : -9223372036854775808 ≤ a) (ha2 : a < 9223372036854775808) :
    Calls Tryz.prog 51 #[.string ⟨s.toArray⟩, .int .i64 a] w fun e w' => e = .returned (.tuple #[.string (readT s a).1, .int .i64 (readT s a).2.1, .int .i64 (readT s a).2.2]) ∧ Below w.heap.size w w' := by
  have S1 := hidden (readUint_any s a w hs ha ha2)
  have hsz : (⟨s.toArray⟩ : ByteArray).size = s.length := by simp [ByteArray.size]
  obtain ⟨n, b, e, h1⟩ : ∃ n b e, readU s a = (n, b, e) := ⟨_, _, _, rfl⟩
  have hlt := readU_lt s a
  rw [h1] at S1 hlt
  simp only at S1 hlt
  obtain ⟨X, hX⟩ : ∃ X, (⟨s.toArray⟩ : ByteArray) = X := ⟨_, rfl⟩
  rw [hX] at S1 hsz ⊢
  by_cases he : e = 0
  · subst he
    obtain ⟨p1, p2, p3, _⟩ := readU_ok h1
    obtain ⟨m, rfl⟩ : ∃ m : Nat, b = m := ⟨b.toNat, by omega⟩
    have d1 : IntKind.i64.wrap ((X.size : Int) - (m : Int)) = (X.size : Int) - (m : Int) := Go.IntWalk.i64_in _ (by omega)
    have d2 : IntKind.u64.wrap ((X.size : Int) - (m : Int)) = (X.size : Int) - (m : Int) := Go.IntWalk.u64_in _ (by omega)
    by_cases hl : (s.length : Int) - m < n
    · have HU := hidden (readT_short h1 hl)
      obtain ⟨D, hD⟩ : ∃ D, (X.size : Int) - (m : Int) = D := ⟨_, rfl⟩
      have l1 : D < (n : Int) := by omega
      rw [hD] at d2
      have d3 := d1.trans hD
      clear h1 hX hl p1 p2 p3 d1 hD hsz
      go_enter Tryz.func51, Tryz.ntmps51
      go_wp2_with fail
      refine S1.out.mono ?_
      rintro e w1 ⟨rfl, b1⟩
      go_wp2_with fail
      go_ret3
      rw [HU.out]
      exact ⟨rfl, b1⟩
    · have HU := hidden (readT_ok h1 hl)
      rw [hX, Int.toNat_natCast] at HU
      obtain ⟨T, hT⟩ : ∃ T, X.extract m (m + n) = T := ⟨_, rfl⟩
      rw [hT] at HU
      have l1 : ¬ (X.size : Int) - (m : Int) < (n : Int) := by omega
      have l2 : IntKind.i64.wrap (n : Int) = (n : Int) := Go.IntWalk.i64_in _ (by omega)
      have l3 : IntKind.i64.wrap ((m : Int) + (n : Int)) = (m : Int) + (n : Int) := Go.IntWalk.i64_in _ (by omega)
      have l4 : ((m : Int) + (n : Int)).toNat = m + n := by omega
      have l5 : (0 : Int) ≤ (m : Int) := by omega
      have l6 : (m : Int) ≤ (m : Int) + (n : Int) := by omega
      have l7 : (m : Int) + (n : Int) ≤ (X.size : Int) := by omega
      clear h1 hX hl p1 p2 p3
      go_enter Tryz.func51, Tryz.ntmps51
      go_wp2_with fail
      refine S1.out.mono ?_
      rintro e w1 ⟨rfl, b1⟩
      go_wp2_with fail
      go_ret3
      rw [HU.out]
      exact ⟨rfl, b1⟩
  · have HU := hidden (readT_e h1 he)
    have e0 : (e != 0) = true := by simpa using he
    clear h1 hX
    go_enter Tryz.func51, Tryz.ntmps51
    go_wp2_with fail
    refine S1.out.mono ?_
    rintro e w1 ⟨rfl, b1⟩
    go_wp2_with fail
    go_ret3
    rw [HU.out]
    exact ⟨rfl, b1⟩

end Go.Proofs.YtdggnnjjiolldaaGreat

namespace Go.Proofs.YtdggnnjjiolldaaGreat
set_option maxRecDepth 100000
open Go.RowKit Go.Shelf

theorem alloc_put (w : World) (b i : Nat) (v : Value) (o : Obj) (hb : b < w.heap.size) : (w.alloc o).setCell ⟨b, i, none⟩ v = (w.setCell ⟨b, i, none⟩ v).alloc o := by
  unfold World.alloc World.setCell
  congr 1
  simp only
  apply Array.ext_getElem?
  intro k
  simp only [Array.getElem?_modify, Array.getElem?_push, Array.size_modify]
  by_cases hk : k = w.heap.size
  · subst hk
    rw [if_neg (by omega)]; simp
  · simp [hk]
theorem sizeByte : (Tryz.prog.info? 5).map (·.size) = some 1 := by kernel_rfl
end Go.Proofs.YtdggnnjjiolldaaGreat
