/- The reference's Show. Condition: the row is within the reach. -/
import Derived.Test.YtfidneoakcejgaaShow
namespace Go.Proofs.Ytfidneoakcejgaa
set_option maxRecDepth 100000
open Go.RowKit

def showB (l : List Lbl) (k : Nat) : ByteArray := ⟨(joinL ((l.take k).map partB)).toArray⟩
theorem showB_one {l : List Lbl} {x : Lbl} (h : l[0]? = some x) : showB l 1 = x.name ++ ⟨#[61]⟩ ++ ⟨(quoteL x.value.data.toList).toArray⟩ := by
  refine bytes_eq ?_
  unfold showB
  rw [take_snoc? h]
  simp [joinL, partB, partL]
theorem showB_more {l : List Lbl} {k : Nat} {x : Lbl} (hk : 0 < k) (h : l[k]? = some x) : showB l (k + 1) = showB l k ++ ⟨#[44]⟩ ++ x.name ++ ⟨#[61]⟩ ++ ⟨(quoteL x.value.data.toList).toArray⟩ := by
  refine bytes_eq ?_
  obtain ⟨j, rfl⟩ : ∃ j, k = j + 1 := ⟨k - 1, by omega⟩
  have hs := joinL_snoc (xs := l.map partB) (i := j) (y := partB x) (by rw [List.getElem?_map, h]; rfl)
  unfold showB
  simp only [List.map_take]
  show joinL ((l.map partB).take (j + 1 + 1)) = _
  rw [hs]
  simp [partB, partL]
theorem showB_size {l : List Lbl} (h : l.length ≤ 8) (hx : ∀ x ∈ l, x.name.size ≤ 32 ∧ x.value.size ≤ 64) (k : Nat) : (showB l k).size ≤ 9000 := by
  have h1 := joinL_len ((l.take k).map partB)
  have h2 : sizes ((l.take k).map partB) ≤ 1000 * ((l.take k).map partB).length := sizes_le fun y hy => by
    obtain ⟨x, hxm, rfl⟩ := List.mem_map.1 hy
    have := hx x (List.mem_of_mem_take hxm)
    exact partB_size this.1 this.2
  have h3 : ((l.take k).map partB).length ≤ 8 := by rw [List.length_map, List.length_take]; omega
  have : (showB l k).size = (joinL ((l.take k).map partB)).length := rfl
  omega

set_option maxHeartbeats 3200000 in
theorem rshow_any (A : Option Addr) (n c : Nat) (l : List Lbl) (w : World) (h : LbF w A n l) :
    Calls Try.prog 40 #[.slice A n c] w fun e w' => e = .returned (.string ⟨(showL l).toArray⟩) ∧ Below w.heap.size w w' := by
  have H := hidden h
  have S1 := hidden (rvalid_any A n c l w h)
  clear h
  by_cases hv : validP l
  · have hS : Hid (showL l = showP l) := if_pos hv
    have hsm := hidden (valid_small hv)
    have hn8 : n ≤ 8 := by have := hsm.out.1; have := H.out.len; omega
    have HSZ := hidden (fun k => showB_size hsm.out.1 hsm.out.2 k)
    rw [decide_eq_true hv] at S1
    clear hv
    go_enter Try.func40, Try.ntmps40
    go_wp2_with fail
    refine S1.out.mono ?_
    rintro e w2 ⟨rfl, b2⟩
    have HB2 := hidden b2
    clear b2 S1
    go_wp2_with fail
    go_loopw [4, 5] (fun vs vi wr => ∃ (k : Nat) (s : ByteArray), vs = .string s ∧ vi = .int .i64 k ∧ k ≤ n ∧ Hid (s = showB l k) ∧ Below w.heap.size w wr) (fun _ vi _ => n - (intOf vi).toNat)
    case atStart => exact ⟨0, _, rfl, rfl, Nat.zero_le _, hidden (bytes_eq (by simp [showB, joinL])), HB2.out⟩
    case round =>
      obtain ⟨k, s, rfl, rfl, hk, hs, hb⟩ := hrel
      have k0 : (0 : Int) ≤ (k : Int) := by omega
      by_cases hlt : k < n
      · have k1 : (k : Int) < (n : Int) := by omega
        obtain ⟨g, o, x, rfl, hg, hx, d0, d1, hxm⟩ := lb_cells (H.out.on hb) hlt
        have hsz := hsm.out.2 x hxm
        have HB := hidden hb
        have HX := hidden hx
        have HRX := hidden (H.out.on hb)
        have hssz : s.size ≤ 9000 := by rw [hs.out]; exact HSZ.out k
        obtain ⟨q, hq⟩ : ∃ q : ByteArray, (⟨(quoteL x.value.data.toList).toArray⟩ : ByteArray) = q := ⟨_, rfl⟩
        have HQ := hidden hq
        have hqs : q.size ≤ 258 := by
          rw [← hq]
          show (quoteL x.value.data.toList).length ≤ 258
          have h3 := quoL_len x.value.data.toList
          have e2 : x.value.data.toList.length = x.value.size := rfl
          simp only [quoteL, List.length_append, List.length_cons, List.length_nil]
          omega
        have S2 := hidden (fun W => rquote_any x.value W (by omega))
        rw [hq] at S2
        have hn1 : x.name.size ≤ 32 := hsz.1
        clear hq hx hxm hb hsz
        by_cases hk0 : k = 0
        · subst hk0
          have hs0 : s = ⟨#[]⟩ := by rw [hs.out]; exact bytes_eq (by simp [showB, joinL])
          subst hs0
          have HP := hidden (showB_one HX.out)
          rw [HQ.out] at HP
          have n1 : ¬ (9223372036854775807 < x.name.size) := by omega
          have n2 : ¬ (9223372036854775807 < x.name.size + 1) := by omega
          have n3 : ¬ (9223372036854775807 < x.name.size + 1 + q.size) := by omega
          clear HQ
          go_wp2_with fail
          refine (S2.out _).mono ?_
          rintro e w3 ⟨rfl, b3⟩
          have e0 : w3.cell? ⟨g, o, none⟩ = some (.string x.name) := by
            have := (b3.cell (p := ⟨g, o + 0 * 2, none⟩) hg).trans d0
            simpa using this
          have HB3 := hidden (HB.out.trans (b3.mono HB.out.size))
          clear b3 d0 d1
          go_wp2_with fail
          go_roundw
          case rel => exact ⟨1, _, rfl, by go_num, by omega, hidden HP.out.symm, HB3.out⟩
          case measure => simp [intOf]; omega
        · have kp : (0 : Int) < (k : Int) := by omega
          have HP := hidden (showB_more (by omega) HX.out)
          rw [HQ.out, ← hs.out] at HP
          have n0 : ¬ (9223372036854775807 < s.size + 1) := by omega
          have n1 : ¬ (9223372036854775807 < s.size + 1 + x.name.size) := by omega
          have n2 : ¬ (9223372036854775807 < s.size + 1 + x.name.size + 1) := by omega
          have n3 : ¬ (9223372036854775807 < s.size + 1 + x.name.size + 1 + q.size) := by omega
          clear HQ
          go_wp2_with fail
          refine (S2.out _).mono ?_
          rintro e w3 ⟨rfl, b3⟩
          have e0 : w3.cell? ⟨g, o + k * 2, none⟩ = some (.string x.name) := (b3.cell (p := ⟨g, o + k * 2, none⟩) hg).trans d0
          have HB3 := hidden (HB.out.trans (b3.mono HB.out.size))
          clear b3 d0 d1
          go_wp2_with fail
          go_roundw
          case rel => exact ⟨k + 1, _, rfl, by go_num, by omega, hidden HP.out.symm, HB3.out⟩
          case measure => simp [intOf]; omega
      · obtain rfl : n = k := by omega
        have k1 : ¬ (n : Int) < (n : Int) := by omega
        have HE : Hid (s = ⟨(showL l).toArray⟩) := by
          rw [Hid, hs.out, hS.out]
          unfold showB showP
          rw [List.take_of_length_le (by rw [H.out.len]; exact Nat.le_refl _)]
        have HB := hidden hb
        clear hb hs
        go_wp2_with fail
        go_ret
        rw [HE.out]
        exact ⟨rfl, HB.out⟩
  · have hS : Hid (showL l = []) := if_neg hv
    rw [decide_eq_false hv] at S1
    go_enter Try.func40, Try.ntmps40
    go_wp2_with fail
    refine S1.out.mono ?_
    rintro e w2 ⟨rfl, b2⟩
    have HB2 := hidden b2
    clear b2 S1
    go_wp2_with fail
    go_ret
    rw [hS.out]
    exact ⟨rfl, HB2.out⟩
end Go.Proofs.Ytfidneoakcejgaa
