/- The reference's ReadInt, walked. -/
import Derived.Test.YtjklonfheenfbaaReadR
namespace Go.Proofs.Ytjklonfheenfbaa
set_option maxRecDepth 100000
open Go.RowKit Go.Shelf

theorem unzz_odd {v : Nat} (h : v % 2 = 1) : unzz v = -((v : Int) / 2) - 1 := by
  unfold unzz; rw [if_neg (by omega)]; omega
theorem unzz_even {v : Nat} (h : ¬ v % 2 = 1) : unzz v = (v : Int) / 2 := by
  unfold unzz; rw [if_pos (by omega)]; omega
set_option maxHeartbeats 1000000 in
theorem readIntR_any (s : List UInt8) (a : Int) (w : World) (hs : s.length < 9223372036854775000) (ha : -9223372036854775808 ≤ a) (ha2 : a < 9223372036854775808) :
    Calls Try.prog 71 #[.string ⟨s.toArray⟩, .int .i64 a] w fun e w' => e = .returned (.tuple #[.int .i64 (readI s a).1, .int .i64 (readI s a).2.1, .int .i64 (readI s a).2.2]) ∧ Below w.heap.size w w' := by
  have hU := hidden (readUintR_any s a w hs ha ha2)
  have hlt := readU_lt s a
  have hI : Hid (readI s a = if (readU s a).2.2 = 0 then (unzz (readU s a).1, (readU s a).2.1, 0) else (0, 0, (readU s a).2.2)) := hidden rfl
  generalize readU s a = r at hU hI hlt
  obtain ⟨v, n, e⟩ := r
  simp only at hlt
  go_enter Try.func71, Try.ntmps71
  go_wp2_with fail
  refine hU.out.mono ?_
  rintro e1 w1 ⟨rfl, hb⟩
  by_cases he : e = 0
  · subst he
    by_cases hp : v % 2 = 1
    · have hpI : (v : Int) % 2 = 1 := by omega
      go_wp2_with fail
      go_ret3
      rw [show readI s a = (unzz v, n, 0) from by rw [hI.out]; simp]
      show _ = Ending.returned (.tuple #[.int .i64 (unzz v), .int .i64 n, .int .i64 0]) ∧ _
      rw [unzz_odd hp]
      exact ⟨rfl, hb⟩
    · have hpI : ¬ (v : Int) % 2 = 1 := by omega
      go_wp2_with fail
      go_ret3
      rw [show readI s a = (unzz v, n, 0) from by rw [hI.out]; simp]
      show _ = Ending.returned (.tuple #[.int .i64 (unzz v), .int .i64 n, .int .i64 0]) ∧ _
      rw [unzz_even hp]
      exact ⟨rfl, hb⟩
  · go_wp2_with fail
    go_ret3
    rw [hI.out, if_neg he]
    exact ⟨rfl, hb⟩
end Go.Proofs.Ytjklonfheenfbaa
