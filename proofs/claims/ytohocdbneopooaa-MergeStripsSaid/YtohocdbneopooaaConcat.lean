/- slices.Concat at series: what it leaves. Condition: the lists together are within the reach. -/
import Derived.Test.YtohocdbneopooaaBase
import Derived.Test.YtohocdbneopooaaSerMem
import Derived.Shelf.Spec.SlicesGrow
namespace Go.Proofs.Ytohocdbneopooaa
set_option maxRecDepth 100000
open Go.RowKit Go.Shelf

def renGrowS : Ren := { f := fun n => if n = 4 then 102 else 0, t := fun n => if n = 0 then 0 else if n = 3 then 3 else if n = 4 then 4 else if n = 9 then 9 else if n = 20 then 20 else if n = 22 then 24 else if n = 25 then 46 else 0, g := fun _ => 0 }
theorem growS_lays : Lays8.n4 Try.prog renGrowS where
  mixed := by kernel_rfl
  f4 := ⟨_, by kernel_rfl, Try.func102⟩
  t0 := by kernel_rfl
  a0 := fun w => by kernel_rfl
  z0 := fun w => by kernel_rfl
  v0 := fun w => by kernel_rfl
  t3 := by kernel_rfl
  a3 := fun w => by kernel_rfl
  z3 := fun w => by kernel_rfl
  v3 := fun w => by kernel_rfl
  t4 := by kernel_rfl
  a4 := fun w => by kernel_rfl
  z4 := fun w => by kernel_rfl
  v4 := fun w => by kernel_rfl
  t9 := by kernel_rfl
  a9 := fun w => by kernel_rfl
  z9 := fun w => by kernel_rfl
  v9 := fun w => by kernel_rfl
  t20 := by kernel_rfl
  a20 := fun w => by kernel_rfl
  z20 := fun w => by kernel_rfl
  v20 := fun w => by kernel_rfl
  t22 := by kernel_rfl
  a22 := fun w => by kernel_rfl
  z22 := fun w => by kernel_rfl
  v22 := fun w => by kernel_rfl

/-- slices.Grow at nil: a row of none with room -/
theorem growS_any (n : Nat) (hn : n ≤ 1099511627776) (hp : 0 < n) (w : World) :
    Calls Try.prog 102 #[.slice none 0 0, .int .i64 n] w fun e w' => ∃ v, e = .returned v ∧ w'.ownsRow w.heap.size 46 3 v 0 [] ∧ Below w.heap.size w w' := by
  obtain ⟨i0, hi, hz0, hz1, hz2⟩ := info_parts info_ser
  refine (Any8.slices_Grow_grow growS_lays i0 _ hi hz0 (by rw [hz1]; decide) none 0 0 n [] w (Nat.le_refl _) (by omega) (by rw [hz2]; omega) (by omega) (by simp) (fun _ => rfl) (fun a h => by cases h)).mono ?_
  rintro e w' ⟨rfl, rfl⟩
  refine ⟨_, rfl, ⟨rfl, .inr ⟨w.heap.size, _, _, rfl, Nat.le_refl _, Whole1.new w.drew _ _, Nat.zero_le _, grownCap_le_maxLen _ _ _ _ (by unfold maxLen; omega), ?_, by simp⟩⟩, ((Below.refl w.heap.size w).drew).alloc (Nat.le_refl _) _⟩
  have hge := grownCap_ge w (0 + n) 0 46
  show _ = grownCap w (0 + n) 0 46 * 3
  simp only [Builtin.zeroCells, Array.size_append, List.size_toArray, List.length_nil, Array.size_map, Array.size_range]
  show 0 + (0 + n - 0) * 3 + (grownCap w (0 + n) 0 46 - (0 + n)) * 3 = _
  omega

theorem sl_cell {α : Type} {w : World} {B : Nat} {A : Option Addr} {n : Nat} {S : List (Sl α)} (hr : Row w B 1 A n (S.map Sl.val)) (i : Nat) (hi : i < n) :
    ∃ g o s, A = some ⟨g, o, none⟩ ∧ g < B ∧ S[i]? = some s ∧ w.cell? ⟨g, o + i, none⟩ = some s.val := by
  obtain ⟨g, o, rfl, hg, hc⟩ := hr.at_ (by omega)
  have hl := hr.len
  rw [List.length_map, Nat.mul_one] at hl
  refine ⟨g, o, S[i]'(by omega), rfl, hg, List.getElem?_eq_getElem (by omega), ?_⟩
  rw [hc i (by omega), List.getElem?_map, List.getElem?_eq_getElem (by omega)]; rfl
/-- how many there are together -/
def total {α : Type} (S : List (Sl α)) : Nat := (S.map Sl.n).sum
theorem total_snoc {α : Type} (S : List (Sl α)) (s : Sl α) : total (S ++ [s]) = total S + s.n := by simp [total]
theorem total_take {α : Type} (S : List (Sl α)) (k : Nat) : total (S.take k) ≤ total S := by
  unfold total
  have h : (S.map Sl.n).sum = ((S.take k).map Sl.n).sum + ((S.drop k).map Sl.n).sum := by rw [← List.sum_append, ← List.map_append, List.take_append_drop]
  omega
theorem total_len {α : Type} : ∀ (S : List (Sl α)), (∀ s ∈ S, s.l.length = s.n) → (S.flatMap Sl.l).length = total S
  | [], _ => rfl
  | s :: S, h => by
    have := total_len S (fun t ht => h t (List.mem_cons_of_mem _ ht))
    rw [List.flatMap_cons, List.length_append, this, h s (List.mem_cons_self ..)]
    simp [total]
theorem serCells_one (l : List Ser) : ∀ u ∈ serCells l, u.oneCell' = true := by
  intro u hu
  simp only [serCells, Ser.cells, List.mem_flatMap, List.mem_cons, List.not_mem_nil, or_false] at hu
  obtain ⟨s, _, rfl | rfl | rfl⟩ := hu <;> rfl

set_option maxHeartbeats 3200000 in
theorem concat_any (A : Option Addr) (n c : Nat) (LL : List (Sl Ser)) (w : World) (hr : Row w w.heap.size 1 A n (LL.map Sl.val)) (hl : LL.length = n) (hat : ∀ s ∈ LL, s.At w w.heap.size 3 Ser.cells) (ht : total LL ≤ 1099511627776) (hn : n ≤ 4611686018427387904) :
    Calls Try.prog 53 #[.slice A n c] w fun e w' => ∃ v, e = .returned v ∧ w'.ownsRow w.heap.size 46 3 v (total LL) (serCells (LL.flatMap Sl.l)) ∧ Below w.heap.size w w' := by
  obtain ⟨i0, hi, hz0, hz1, hz2⟩ := info_parts info_ser
  have hL := hidden hl
  have HR := hidden hr
  have HT := hidden (fun k => total_take LL k)
  clear hl hr
  go_enter Try.func53, Try.ntmps53
  go_wp2
  go_loop [3, 11] (fun vs vi => ∃ k : Nat, vi = .int .i64 k ∧ k ≤ n ∧ vs = .int .i64 (total (LL.take k) : Nat)) (fun _ vi => n - (intOf vi).toNat)
  case atStart => exact ⟨0, rfl, Nat.zero_le _, rfl⟩
  case round =>
    obtain ⟨k, rfl, hk, rfl⟩ := hrel
    by_cases hlt : k < n
    · obtain ⟨g, o, s, rfl, _, hs, hc⟩ := sl_cell HR.out k hlt
      have hts : total (LL.take (k + 1)) = total (LL.take k) + s.n := by rw [take_snoc? hs, total_snoc]
      have h1 := HT.out (k + 1)
      have HTS := hidden hts
      have h2 : total (LL.take k) + s.n ≤ 1099511627776 := by omega
      obtain ⟨sA, sn, sc, sl⟩ := s
      simp only [Sl.val] at hc h2 HTS
      have hkz : (k : Int) < (n : Int) := by omega
      have hk0 : (0 : Int) ≤ (k : Int) := by omega
      obtain ⟨T, hT⟩ : ∃ T, total (LL.take k) = T := ⟨_, rfl⟩
      rw [hT] at h2 ⊢
      have HTT := hidden hT
      have hz : ¬ ((T : Int) + (sn : Int)) < 0 := by omega
      clear hts h1 hs hT
      go_wp2
      go_round
      case rel => exact ⟨k + 1, by go_num, by omega, by rw [HTS.out, HTT.out]; go_num⟩
      case measure => simp [intOf]; omega
    · obtain rfl : k = n := by omega
      rw [List.take_of_length_le (by rw [hL.out]; exact Nat.le_refl _)]
      have hkz : ¬ (k : Int) < (k : Int) := by omega
      obtain ⟨T, hT⟩ : ∃ T, total LL = T := ⟨_, rfl⟩
      rw [hT] at ht ⊢
      have HTT := hidden hT
      clear hT
      have hgrow : Calls Try.prog 102 #[.slice none 0 0, .int .i64 T] w fun e w' => ∃ v, e = .returned v ∧ w'.ownsRow w.heap.size 46 3 v 0 [] ∧ Below w.heap.size w w' := by
        rcases Nat.eq_zero_or_pos T with h0 | h0
        · subst h0
          refine (Any8.slices_Grow_room growS_lays none 0 0 0 w (Nat.le_refl _) (by omega) (by omega) (Nat.le_refl _)).mono ?_
          rintro e w' ⟨rfl, rfl⟩
          exact ⟨_, rfl, World.ownsRow_nil _ _ _ _, Below.refl _ _⟩
        · exact growS_any T ht h0 w
      have HG := hidden hgrow
      clear hgrow
      go_wp2_with fail
      refine HG.out.mono ?_
      rintro e w1 ⟨v1, rfl, ho1, hb1⟩
      have HO1 := hidden ho1
      clear ho1 HG
      go_wp2_with fail
      go_loopw [6, 27] (fun v vi wr => ∃ (j : Nat) (vo : Value), vo = v ∧ vi = .int .i64 j ∧ j ≤ k ∧ wr.ownsRow w.heap.size 46 3 v (total (LL.take j)) (serCells ((LL.take j).flatMap Sl.l)) ∧ Below w.heap.size w wr) (fun _ vi _ => k - (intOf vi).toNat)
      case atStart => exact ⟨0, _, rfl, rfl, Nat.zero_le _, HO1.out, hb1⟩
      case round =>
        obtain ⟨j, vo, rfl, rfl, hj, hown, hb⟩ := hrel
        by_cases hjl : j < k
        · obtain ⟨g, o, s, rfl, _, hs, hc⟩ := sl_cell (HR.out.below hb) j hjl
          have hts : total (LL.take (j + 1)) = total (LL.take j) + s.n := by rw [take_snoc? hs, total_snoc]
          have hfs : serCells ((LL.take (j + 1)).flatMap Sl.l) = serCells ((LL.take j).flatMap Sl.l) ++ serCells s.l := by
            rw [take_snoc? hs, List.flatMap_append]
            simp [serCells]
          have h1 := HT.out (j + 1)
          rw [HTT.out] at h1
          have hsr := ((hat s (List.mem_of_getElem? hs)).below hb).2.2
          have HTS := hidden hts
          have HFS := hidden hfs
          have h2 : total (LL.take j) + s.n ≤ 1099511627776 := by omega
          obtain ⟨sA, sn, sc, sl⟩ := s
          simp only [Sl.val] at hc h2 hsr HTS HFS
          have hjz : (j : Int) < (k : Int) := by omega
          have hj0 : (0 : Int) ≤ (j : Int) := by omega
          have hbs := hb.size
          clear hts hfs h1 hs
          go_wp2_with (at_builtin; refine wpList_app _ rfl _ _ 24 rfl w.heap.size 46 i0 _ 3 72 Try.underlying24 hi hz0 hz1 hz2 rfl (by decide) _ _ _ rfl hown _ _ _ _ _ rfl hsr (serCells_one sl) (by unfold maxLen; omega) (by omega) hbs ?_; intro v9 w9 hown9 hg9 hat9)
          go_roundw
          case rel => exact ⟨j + 1, v9, rfl, by go_num, by omega, by rw [HTS.out, HFS.out]; exact hown9, hb.grown hg9 hbs (fun q hq => (hown.lt q hq).1)⟩
          case measure => simp [intOf]; omega
        · obtain rfl : j = k := by omega
          rw [List.take_of_length_le (by rw [hL.out]; exact Nat.le_refl _)] at hown
          have hjz : ¬ (j : Int) < (j : Int) := by omega
          go_wp2_with fail
          go_ret
          exact ⟨_, rfl, by rw [← HTT.out]; exact hown, hb⟩
end Go.Proofs.Ytohocdbneopooaa
