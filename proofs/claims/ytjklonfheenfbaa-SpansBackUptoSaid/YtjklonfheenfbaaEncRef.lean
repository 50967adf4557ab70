/- The reference's Encode, walked. -/
import Derived.Test.YtjklonfheenfbaaUintR
import Derived.Test.YtjklonfheenfbaaSpnRef
import Derived.Test.YtjklonfheenfbaaSpnEnc
namespace Go.Proofs.Ytjklonfheenfbaa
set_option maxRecDepth 100000
open Go.RowKit Go.Shelf

theorem cat_bytes (a b : List UInt8) : (⟨a.toArray⟩ : ByteArray) ++ (⟨b.toArray⟩ : ByteArray) = ⟨(a ++ b).toArray⟩ := by
  apply ByteArray.ext
  simp [ByteArray.data_append]

set_option maxHeartbeats 3200000 in
theorem rEncode_any (A : Option Addr) (n c : Nat) (l : List Spn) (w : World) (hr : Row w w.heap.size 2 A n (l.flatMap Spn.cells)) (hl : l.length = n) (hn : n * 16 ≤ 140737488351232) (hn2 : n * 20 + 10 ≤ 140737488355328) (hok : ∀ x ∈ l, x.ok) :
    Calls Try.prog 37 #[.slice A n c] w fun e w' => ∃ R, OfRes l R ∧ e = .returned (.string ⟨(encL R).toArray⟩) ∧ Below w.heap.size w w' := by
  have HO := hidden (rOf_any A n c l w hr hl hn hok)
  clear hr hl
  go_enter Try.func37, Try.ntmps37
  go_wp2_with fail
  refine HO.out.mono ?_
  rintro e w1 ⟨v, R, rfl, ho, hR, hlen, hb1⟩
  clear HO
  have HRes := hidden hR
  have HOK := hidden (hR.ok hok)
  obtain ⟨m, hm⟩ : ∃ m, R.length = m := ⟨_, rfl⟩
  rw [hm] at ho hlen
  obtain ⟨A2, c2, rfl, hc2, hr2⟩ := own_shape ho
  have HR2 := hidden hr2
  have HM := hidden hm
  have B1 := hidden hb1
  clear hR hm ho hr2 hb1 hok
  have hU := hidden (uintR_any m w1 (by omega))
  go_wp2_with fail
  refine hU.out.mono ?_
  rintro e w3 ⟨rfl, hb3⟩
  have B3 := hidden (B1.out.trans (hb3.mono B1.out.size))
  have HR3 := hidden ((HR2.out.below hb3).more hb3.size)
  clear hU hb3 B1 HR2
  go_wp2_with fail
  go_loopw [4, 5] (fun sv i wr => ∃ (k : Nat), k ≤ m ∧ i = .int .i64 k ∧ sv = .string ⟨(uintL m ++ encS (R.take k)).toArray⟩ ∧ Below w3.heap.size w3 wr) (fun _ i _ => m - (intOf i).toNat)
  case atStart => exact ⟨0, Nat.zero_le _, rfl, by simp [encS], Below.refl _ _⟩
  case round =>
    obtain ⟨k, hk, rfl, rfl, hb⟩ := hrel
    by_cases hlt : k < m
    · obtain ⟨gs, o, x, rfl, _, hx, hcl⟩ := row_at spnK (HR3.out.below hb) HM.out k hlt
      have c0 : wr.cell? ⟨gs, o + k * 2, none⟩ = some (.int .i64 x.frm) := hcl 0 (by omega)
      have c1 : wr.cell? ⟨gs, o + k * 2 + 1, none⟩ = some (.int .i64 x.til) := hcl 1 (by omega)
      have hT : Hid (encS (R.take (k + 1)) = encS (R.take k) ++ (intL x.frm ++ intL x.til)) := by rw [Hid, take_snoc? hx]; simp [encS]
      have hxo := HOK.out x (List.mem_of_getElem? hx)
      have hgs := World.block_lt_of_cell? wr _ c0
      simp only at hgs
      have hel := encS_len (R.take k) fun y hy => HOK.out y (List.mem_of_mem_take hy)
      have k0 : (0 : Int) ≤ (k : Int) := by omega
      have k1 : (k : Int) < (m : Int) := by omega
      clear hx hcl
      obtain ⟨xi1, xi2, xi3, xi4⟩ := hxo
      have H1 := hidden (intR_any x.frm wr xi1 xi2)
      go_wp2_with fail
      refine H1.out.mono ?_
      rintro e w4 ⟨rfl, hb4⟩
      have c1' := (hb4.cell (p := ⟨gs, o + k * 2 + 1, none⟩) hgs).trans c1
      have H2 := hidden (intR_any x.til w4 xi3 xi4)
      have B4 := hidden (hb.trans (hb4.mono hb.size))
      clear c0 c1 H1 hb hb4 hgs
      go_wp2_with fail
      refine H2.out.mono ?_
      rintro e w5 ⟨rfl, hb5⟩
      have B5 := hidden (B4.out.trans (hb5.mono B4.out.size))
      clear H2 hb5 B4 c1'
      have lm := uintL_ten (v := m) (by omega)
      have l1 := uintL_ten (zz_lt xi1 xi2)
      have l2 := uintL_ten (zz_lt xi3 xi4)
      have lk : (R.take k).length ≤ m := by rw [List.length_take, HM.out]; omega
      go_wp2_with fail
      · rename_i hc
        simp [intL] at hc
        omega
      · rename_i hc
        simp [intL] at hc
        omega
      · refine ⟨⟨k + 1, by omega, by go_num, ?_, B5.out⟩, by simp [intOf]; omega⟩
        rw [cat_bytes, cat_bytes, hT.out]
        simp
    · obtain rfl : m = k := by omega
      go_wp2_with fail
      go_ret
      have ht : R.take m = R := List.take_of_length_le (by rw [HM.out]; exact Nat.le_refl _)
      refine ⟨R, HRes.out, ?_, B3.out.trans (hb.mono B3.out.size)⟩
      show Ending.returned (.string ⟨(uintL m ++ encS (R.take m)).toArray⟩) = _
      rw [ht, encL, HM.out]
end Go.Proofs.Ytjklonfheenfbaa
