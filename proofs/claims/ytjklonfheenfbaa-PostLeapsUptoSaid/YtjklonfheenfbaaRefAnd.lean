/- The reference's And over lists of numbers, walked. Condition: the rows are within the reach. -/
import Derived.Test.YtjklonfheenfbaaRefOr
namespace Go.Proofs.Ytjklonfheenfbaa
set_option maxRecDepth 100000
open Go.RowKit Go.Shelf

def inAll (y : Int) (ss : List IS) : Bool := ss.all fun s => decide (y ∈ s.l)
/-- what stands in all of them, in the first one's order -/
def andLs : List IS → List Int
  | [] => []
  | s :: r => s.l.filter fun y => inAll y r
theorem inAll_snoc {y : Int} {r : List IS} {k : Nat} {s : IS} (h : r[k]? = some s) : inAll y (r.take (k + 1)) = (inAll y (r.take k) && decide (y ∈ s.l)) := by
  rw [take_snoc? h]; simp [inAll]

set_option maxHeartbeats 3200000 in
theorem rAnd13_any (A : Option Addr) (m c : Nat) (ss : List IS) (w : World) (h : LLF w A m ss) :
    Calls Try.prog 78 #[.slice A m c] w fun e w' => ∃ v, e = .returned v ∧ w'.ownsRow w.heap.size 3 1 v (andLs ss).length ((andLs ss).map (Value.int .i64)) ∧ Below w.heap.size w w' := by
  obtain ⟨i0, hi, hz0, hz1, hz2⟩ := info_parts info_int
  cases ss with
  | nil =>
    obtain rfl : 0 = m := h.len
    go_enter Try.func78, Try.ntmps78
    go_wp2_with fail
    go_ret
    exact ⟨_, rfl, World.ownsRow_nil _ _ _ _, Below.refl _ _⟩
  | cons s0 rs =>
    have H := hidden h
    have hm := h.len
    simp only [List.length_cons] at hm
    have hfit := h.fit
    obtain ⟨g, o, s, rfl, hg, hs, hc0, hS, hnc⟩ := ll_cell h (k := 0) (by omega)
    simp only [List.getElem?_cons_zero, Option.some.injEq] at hs
    subst hs
    obtain ⟨sA, sn, sc, sl⟩ := s0
    have HS := hidden hS
    have HSN := hidden hS.len
    have hsf := hS.fit
    have HC0 := hidden (fun (w' : World) (hb' : Below w.heap.size w w') => (hb'.cell (p := ⟨g, o + 0, none⟩) hg).trans hc0)
    have mne : ((m : Int) == 0) = false := by simp; omega
    have m1 : (1 : Int) ≤ (m : Int) := by omega
    have m0 : (0 : Int) < (m : Int) := by omega
    clear h hS hc0
    simp only at HC0 HS HSN hnc hsf
    go_enter Try.func78, Try.ntmps78
    go_wp2_with fail
    go_loopw [3, 4] (fun v i wr => ∃ (k : Nat) (O : List Int), k ≤ sn ∧ i = .int .i64 k ∧ Hid (O = (sl.take k).filter fun y => inAll y rs) ∧ O.length ≤ k ∧ wr.ownsRow w.heap.size 3 1 v O.length (O.map (Value.int .i64)) ∧ Below w.heap.size w wr) (fun _ i _ => sn - (intOf i).toNat)
    case atStart => exact ⟨0, [], Nat.zero_le _, rfl, hidden (by simp), Nat.le_refl _, World.ownsRow_nil _ _ _ _, Below.refl _ _⟩
    case round =>
      obtain ⟨k, O, hk, rfl, hO, hle, hown, hb⟩ := hrel
      have c0 : wr.cell? ⟨g, o, none⟩ = some (.slice sA sn sc) := HC0.out wr hb
      by_cases hlt : k < sn
      · obtain ⟨g2, o2, y, rfl, hg2, hy, hcy⟩ := int_cell (HS.out.on hb) hlt
        have k0 : (0 : Int) ≤ (k : Int) := by omega
        have k1 : (k : Int) < (sn : Int) := by omega
        have hT := hidden (take_snoc? hy)
        have HOW := hidden hown
        have HB := hidden hb
        have HCY := hidden (fun (w' : World) (hb' : Below wr.heap.size wr w') => (hb'.cell (p := ⟨g2, o2 + k, none⟩) (World.block_lt_of_cell? wr _ hcy)).trans hcy)
        clear hy hcy hown hb
        go_wp2_with fail
        generalize wr = wo at *
        go_loopw [5, 6] (fun va vi wz => ∃ j : Nat, 1 ≤ j ∧ j ≤ m ∧ vi = .int .i64 j ∧ va = .bool (inAll y (rs.take (j - 1))) ∧ Below wo.heap.size wo wz) (fun _ vi _ => m - (intOf vi).toNat)
        case atStart => exact ⟨1, Nat.le_refl _, by omega, rfl, by simp [inAll], Below.refl _ _⟩
        case round =>
          obtain ⟨j, hj1, hjm, rfl, rfl, hbz⟩ := hrel
          have hbw := HB.out.trans (hbz.mono HB.out.size)
          have HBZ := hidden hbz
          have HBW := hidden hbw
          have j0 : (0 : Int) ≤ (j : Int) := by omega
          by_cases hjl : j < m
          · obtain ⟨g3, o3, t, he3, hg3, ht, hct, hT3, hnt⟩ := ll_cell (H.out.on hbw) hjl
            simp only [Option.some.injEq, Addr.mk.injEq, and_true] at he3
            obtain ⟨rfl, rfl⟩ := he3
            have ht2 : rs[j - 1]? = some t := by
              obtain ⟨j', rfl⟩ : ∃ j', j = j' + 1 := ⟨j - 1, by omega⟩
              simpa using ht
            have hsn := hidden (inAll_snoc (y := y) ht2)
            obtain ⟨tA, tn, tc, tl⟩ := t
            simp only at hct hT3 hsn hnt
            have S1 : Hid (∀ q, Calls Try.prog 100 #[.slice tA tn tc, .int .i64 y] (wr.drewN q) fun e w' => e = .returned (.bool (decide (y ∈ tl))) ∧ ∃ q', w' = (wr.drewN q).drewN q') := hidden fun q => rHas13_q tA tn tc tl y (wr.drewN q) (hT3.on (below_drewN (Below.refl _ _) q))
            have c1 : wr.cell? ⟨g, o, none⟩ = some (.slice (some ⟨g2, o2, none⟩) sn sc) := HC0.out wr hbw
            have cy := HCY.out wr hbz
            have j1 : (j : Int) < (m : Int) := by omega
            clear ht ht2 hT3 hbz hbw c0
            go_wp2_with fail
            go_quiet ((go_at_call 100; refine Calls.quiet_of (S1.out _)))
            rename_i nq
            have HB2 := hidden (below_drewN HBZ.out nq)
            generalize wr.drewN nq = wq at HB2 ⊢
            clear S1 hct c1 cy
            cases hin : inAll y (rs.take (j - 1))
            · have hsn2 : Hid (false = inAll y (rs.take (j + 1 - 1))) := by
                have := hsn.out
                rw [show j - 1 + 1 = j + 1 - 1 by omega, hin] at this
                rw [Hid, this]; simp
              go_wp2_with fail
              go_roundw
              case rel => exact ⟨j + 1, by omega, by omega, by go_num, by rw [hsn2.out], HB2.out⟩
              case measure => simp [intOf]; omega
            · have hsn2 : Hid (decide (y ∈ tl) = inAll y (rs.take (j + 1 - 1))) := by
                have := hsn.out
                rw [show j - 1 + 1 = j + 1 - 1 by omega, hin] at this
                rw [Hid, this]; simp
              go_wp2_with fail
              go_roundw
              case rel => exact ⟨j + 1, by omega, by omega, by go_num, by rw [hsn2.out], HB2.out⟩
              case measure => simp [intOf]; omega
          · obtain rfl : m = j := by omega
            have hall : rs.take (m - 1) = rs := List.take_of_length_le (by omega)
            rw [hall]
            have c1 : wr.cell? ⟨g, o, none⟩ = some (.slice (some ⟨g2, o2, none⟩) sn sc) := HC0.out wr hbw
            have cy := HCY.out wr hbz
            have j1 : ¬ (m : Int) < (m : Int) := by omega
            have HOW2 := hidden (own_below HOW.out hbz (Nat.le_refl _))
            clear hbz hbw c0
            cases hin : inAll y rs
            · have hO2 : Hid (O = (sl.take (k + 1)).filter fun x => inAll x rs) := by rw [Hid, hT.out, List.filter_append, ← hO.out]; simp [hin]
              go_wp2_with fail
              go_roundw
              case rel => exact ⟨k + 1, O, by omega, by go_num, hO2, by omega, HOW2.out, HBW.out⟩
              case measure => simp [intOf]; omega
            · have hO2 : Hid (O ++ [y] = (sl.take (k + 1)).filter fun x => inAll x rs) := by rw [Hid, hT.out, List.filter_append, ← hO.out]; simp [hin]
              have hown := HOW2.out
              have hb := HBW.out
              have hbs := hb.size
              have hfr := Row.fresh wr 3 1 1 [.int .i64 y] rfl
              go_wp2_with (at_builtin; refine wpList_app _ rfl _ _ 69 rfl w.heap.size 3 i0 _ 1 8 Try.underlying69 hi hz0 hz1 hz2 rfl (by decide) _ _ _ rfl (hown.alloc _) _ _ _ _ _ rfl hfr (by simp [Value.oneCell']) (by unfold maxLen; omega) (by omega) (by simp; omega) ?_; intro v1 w3 hown3 hg3 hat3)
              have hcs : O.map (Value.int .i64) ++ [.int .i64 y] = (O ++ [y]).map (Value.int .i64) := by simp
              rw [hcs] at hown3
              have hb4 : Below w.heap.size w w3 := (hb.alloc hbs _).grown hg3 (by simp; omega) (fun j hj => (hown.lt j hj).1)
              clear hown hb hbs hg3 hat3 hcs hfr c1 cy
              go_wp2_with fail
              go_roundw
              case rel => exact ⟨k + 1, O ++ [y], by omega, by go_num, hO2, by rw [List.length_append, List.length_singleton]; omega, by rw [List.length_append]; exact hown3, hb4⟩
              case measure => simp [intOf]; omega
      · obtain rfl : sn = k := by omega
        have hO2 := hO.out
        rw [List.take_of_length_le (by rw [HSN.out]; exact Nat.le_refl _)] at hO2
        have HO := hidden (show andLs (⟨sA, sn, sc, sl⟩ :: rs) = O from hO2.symm)
        have k1 : ¬ (sn : Int) < (sn : Int) := by omega
        clear hO2
        go_wp2_with fail
        go_ret
        rw [HO.out]
        exact ⟨_, rfl, hown, hb⟩
end Go.Proofs.Ytjklonfheenfbaa
