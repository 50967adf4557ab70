/- deriv.Match, walked: does the tree match the text? Condition: the text is no longer than memory. -/
import Derived.Test.YthncochjhbmceaaGreatPk362cfb5c
namespace Go.Proofs.YthncochjhbmceaaGreat
set_option maxRecDepth 100000
open Go.RowKit

set_option maxHeartbeats 6400000 in
theorem match_any (n : Nat) (t : Tr) (S : ByteArray) (w : World) (ht : IsTr w n t) (hS : S.size ≤ 140737488355328) :
    Calls Tryz.prog 95 #[.pointer (some ⟨n, 0, none⟩), .string S] w fun e w' => e = .returned (.bool (matT t (S.data.toList.map UInt8.toNat))) ∧ Below w.heap.size w w' := by
  have S1 := hidden (behind_any n t S w ht hS)
  obtain ⟨L, hL⟩ : ∃ L, leftT t (S.data.toList.map UInt8.toNat) = L := ⟨_, rfl⟩
  have eM : matT t (S.data.toList.map UInt8.toNat) = L.any fun r => r.all nulT := by rw [← hL]; rfl
  rw [eM]
  rw [hL] at S1
  clear eM hL
  obtain ⟨B, hB⟩ : ∃ B, (L.any fun r => r.all nulT) = B := ⟨_, rfl⟩
  rw [hB]
  have HB := hidden hB
  clear hB
  go_enter Tryz.func95, Tryz.ntmps95
  go_wp2_with fail
  refine S1.out.mono ?_
  rintro e w1 ⟨b, rfl, ⟨mo, ho⟩, hb1⟩
  obtain ⟨w2, hrg, hR2, hg2, hz2⟩ := ho.map.range (P := Tryz.prog) Tryz.underlying274
  have hs2 : Stays (fun _ => False) w1 w2 := Stays.of_none hg2
  have HIN := hidden (fun e he => (ho.on hs2 id).each e he)
  have HALL := hidden (fun l hl => (ho.on hs2 id).all l hl)
  obtain ⟨rI, hrI⟩ : ∃ r, w1.heap.size = r := ⟨_, rfl⟩
  rw [hrI] at hrg hR2 hz2
  have HBL := hidden (show Below w.heap.size w w2 from hb1.trans (hs2.below (fun _ h => h.elim) hb1.size))
  have HRI := hidden (show w.heap.size ≤ rI from by have := hb1.size; omega)
  have HSub := hidden (show ∀ come w', RangeV IsPtr w' b rI mo come → ∀ p ∈ come, p ∈ mo from fun come w' ⟨_, _, _, _, _, _, _, _, _, _, _, _, _, _, _, h⟩ => h)
  have HR2 := hidden hR2
  clear ho hs2 hg2 hz2 hb1 hR2 S1
  go_wp2_with fail
  clear hrg
  go_loopg [5] mo.length (fun k _ wz => ∃ come, come.length + k = mo.length ∧ Hid (RangeV IsPtr wz b rI mo come) ∧ Hid (Stays (fun k => k = rI) w2 wz) ∧ Hid (∀ p ∈ come, ∀ a l, p.1 = .pointer a → IsRest w2 a l → l.all nulT = false))
  case atStart => exact ⟨[], by simp, HR2, Stays.refl _ _, hidden (by simp)⟩
  case round =>
    obtain ⟨come, hck, hrv, hst, hno⟩ := hrel
    go_wp2_with (at_next; refine wpList_next _ rfl _ rfl b rI mo come rfl hrv.out ?_ ?_)
    · intro hdone
      have hBf : B = false := by
        rw [← HB.out, List.any_eq_false]
        intro l hl
        obtain ⟨a, k, hm, hr⟩ := HALL.out l hl
        rw [hno.out _ (hdone _ _ hm) a l rfl hr]
        simp
      subst hBf
      go_wp2_with fail
      go_ret
      exact ⟨rfl, HBL.out.trans (hst.out.below (fun k hk => by rw [hk]; exact HRI.out) HBL.out.size)⟩
    · intro pk pv wx hp hpn hrx hgx hsx hex
      have hfew := hrv.out.fewer hp hpn
      obtain ⟨a0, l0, kk, e0, hq0, hl0⟩ := HIN.out _ hp
      simp only [Prod.mk.injEq] at e0
      obtain ⟨rfl, rfl⟩ := e0
      have HRX := hidden hrx
      have HSX := hidden (hst.out.trans (Stays.of_iter (F := fun k => k = rI) hrv.out hgx rfl))
      have HQ0 := hidden hq0
      have HL0 := hidden hl0
      clear hrx hgx hsx hp hpn hq0 hl0
      go_wp2_with fail
      clear hex
      generalize wr = wu at *
      go_loopg [5] l0.length (fun k vx wz => ∃ (a : Option Addr) (lk : List Tr), vx = .pointer a ∧ lk.length ≤ k ∧ wz = wx ∧ Hid (IsRest w2 a lk) ∧ Hid (l0.all nulT = lk.all nulT))
      case atStart => exact ⟨a0, l0, rfl, Nat.le_refl _, rfl, HQ0, hidden rfl⟩
      case round =>
        obtain ⟨ak, lk, rfl, hlk, rfl, hqk, hak⟩ := hrel
        cases lk with
        | nil =>
          have hn : ak = none := hqk.out
          subst hn
          have hBt : B = true := by
            rw [← HB.out, List.any_eq_true]
            exact ⟨l0, HL0.out, by rw [hak.out]; rfl⟩
          subst hBt
          go_wp2_with fail
          go_ret
          exact ⟨rfl, HBL.out.trans (HSX.out.below (fun k hk => by rw [hk]; exact HRI.out) HBL.out.size)⟩
        | cons tk lk =>
          obtain ⟨gk1, nk, qk, rfl, hwk, htk, hnk⟩ := hqk.out
          have c0 := (HSX.out.cells _ _ _ hwk).cell 0
          have c1 := (HSX.out.cells _ _ _ hwk).cell 1
          unfold kid at c0
          have S2 := hidden (null_any tk nk wr (isTr_on HSX.out.cells _ _ htk))
          have hlk2 : lk.length + 1 ≤ gk := by simpa using hlk
          have HNK := hidden hnk
          clear hwk htk hnk hlk
          go_wp2_with fail
          refine S2.out.mono ?_
          rintro e wB ⟨rfl, rfl⟩
          cases hnt : nulT tk with
          | false =>
            have HF := hidden (show ∀ p ∈ come ++ [(Value.pointer a0, Value.int .i64 kk)], ∀ a l, p.1 = .pointer a → IsRest w2 a l → l.all nulT = false from fun p hp a l e hr => by
              rcases List.mem_append.1 hp with hp | hp
              · exact hno.out p hp a l e hr
              · simp only [List.mem_singleton] at hp
                subst hp
                cases e
                rw [isRest_one _ _ _ hr HQ0.out, hak.out]
                simp [hnt])
            clear hnt
            go_wp2_with fail
            go_roundg (mo.length - (come.length + 1))
            case measure => omega
            case rel => exact ⟨_, by simp; omega, HRX, HSX, HF⟩
          | true =>
            have HF := hidden (show l0.all nulT = lk.all nulT from by rw [hak.out]; simp [hnt])
            clear hnt
            go_wp2_with fail
            go_roundg lk.length
            case measure => omega
            case rel => exact ⟨qk, lk, rfl, Nat.le_refl _, rfl, HNK, HF⟩
end Go.Proofs.YthncochjhbmceaaGreat
