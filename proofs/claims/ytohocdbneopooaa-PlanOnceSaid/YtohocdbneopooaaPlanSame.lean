/- The law's helper same at like lists of lists: true. Condition: the lists are not too long. -/
import Derived.Test.YtohocdbneopooaaPlanRefP
namespace Go.Proofs.Ytohocdbneopooaa
set_option maxRecDepth 100000
open Go.Shelf Go.RowKit Go.Lib Go.Sort

theorem intCells_at (l : List Int) : ∀ (k : Nat) (h : k < l.length), (intCells l)[k]? = some (.int .i64 l[k])
  | k, h => by
    have := flatMap_at intc 1 (fun _ => rfl) l k 0 h (by omega)
    simpa [intCells, intc] using this
theorem int_cell {w : World} {B : Nat} {A : Option Addr} {n : Nat} {l : List Int} (hr : Row w B 1 A n (l.flatMap intc)) (hl : l.length = n) (i : Nat) (hi : i < n) :
    ∃ g o z, A = some ⟨g, o, none⟩ ∧ l[i]? = some z ∧ w.cell? ⟨g, o + i, none⟩ = some (.int .i64 z) := by
  obtain ⟨g, o, rfl, hg, hc⟩ := hr.at_ (by omega)
  refine ⟨g, o, l[i]'(by omega), rfl, List.getElem?_eq_getElem (by omega), ?_⟩
  rw [hc i (by omega)]
  exact intCells_at l i (by omega)

set_option maxHeartbeats 3200000 in
theorem same_yes (A B : Option Addr) (n c1 c2 : Nat) (Sa Sb : List (Sl Int)) (w : World) (b1 b2 : Nat) (hr : Row w b1 1 A n (Sa.map Sl.val)) (hr2 : Row w b2 1 B n (Sb.map Sl.val)) (hn : n ≤ 4611686018427387904)
    (hA : ∀ s ∈ Sa, s.At w b1 1 intc) (hB : ∀ s ∈ Sb, s.At w b2 1 intc) (hs : Sa.map Sl.l = Sb.map Sl.l) (hz : ∀ s ∈ Sa, s.n ≤ 4611686018427387904) :
    Calls Try.prog 36 #[.slice A n c1, .slice B n c2] w fun e w' => e = .returned (.bool true) ∧ ∃ m, w' = w.drewN m := by
  have HS := hidden hs
  have hnn : ((n : Int) != (n : Int)) = false := by simp
  clear hs
  go_enter Try.func36, Try.ntmps36
  go_wp2
  go_loopw [14] (fun i wr => ∃ k : Nat, k ≤ n ∧ i = .int .i64 k ∧ ∃ m, wr = w.drewN m) (fun i _ => n - (intOf i).toNat)
  case atStart => exact ⟨0, Nat.zero_le _, rfl, 0, rfl⟩
  case round =>
    obtain ⟨k, hk, rfl, m, hwm⟩ := hrel
    by_cases hlt : k < n
    · have hrA := hr.drewN m
      have hrB := hr2.drewN m
      rw [← hwm] at hrA hrB
      obtain ⟨ga, oa, s, rfl, _, hsa, ca⟩ := ll_cell hrA k hlt
      obtain ⟨gb, ob, t, rfl, _, htb, cb⟩ := ll_cell hrB k hlt
      have hst : s.l = t.l := by
        have h1 : (Sa.map Sl.l)[k]? = (Sb.map Sl.l)[k]? := by rw [HS.out]
        rw [List.getElem?_map, List.getElem?_map, hsa, htb] at h1
        simpa using h1
      have hsz := hz s (List.mem_of_getElem? hsa)
      obtain ⟨_, sl, sr⟩ := hA s (List.mem_of_getElem? hsa)
      obtain ⟨_, tl, tr⟩ := hB t (List.mem_of_getElem? htb)
      obtain ⟨As, ns, cs, ls⟩ := s
      obtain ⟨At, nt, ct, lt⟩ := t
      simp only [Sl.val] at hst hsz sl sr tl tr ca cb
      subst hst
      obtain rfl : ns = nt := by omega
      have hlt' : (k : Int) < (n : Int) := by omega
      have hk0 : (0 : Int) ≤ (k : Int) := by omega
      have n1 : ((ns : Int) != (ns : Int)) = false := by simp
      have HW := hidden hwm
      have HRs := hidden sr
      have HRt := hidden tr
      clear hwm hrA hrB hsa htb sr tr
      go_upto_region 6 with (fail)
      go_quiet (fail)
      go_wp2_with fail
      have RA : ∀ q, Row (wr.drewN q) b1 1 As ns (ls.flatMap intc) := fun q => by rw [HW.out]; exact (HRs.out.drewN m).drewN q
      have RB : ∀ q, Row (wr.drewN q) b2 1 At ns (ls.flatMap intc) := fun q => by rw [HW.out]; exact (HRt.out.drewN m).drewN q
      have HRA := hidden RA
      have HRB := hidden RB
      clear RA RB
      go_loopw [33] (fun i wx => ∃ (j q : Nat), j ≤ ns ∧ i = .int .i64 j ∧ wx = wr.drewN q) (fun i _ => ns - (intOf i).toNat)
      case atStart => exact ⟨0, _, Nat.zero_le _, rfl, rfl⟩
      case round =>
        obtain ⟨j, q, hj, rfl, rfl⟩ := hrel
        by_cases hjn : j < ns
        · obtain ⟨g7, o7, y, rfl, hys, u0⟩ := int_cell (HRA.out 0) sl j hjn
          obtain ⟨g8, o8, z, rfl, hzs, v0⟩ := int_cell (HRB.out 0) sl j hjn
          have hyz := hys.symm.trans hzs
          injection hyz with hyz
          subst hyz
          have hjz : (j : Int) < (ns : Int) := by omega
          have hj0 : (0 : Int) ≤ (j : Int) := by omega
          have a0 : wr.cell? _ = _ := u0
          have e0 : wr.cell? _ = _ := v0
          clear u0 v0 hys hzs
          go_wp2_with fail
          go_quiet (fail)
          go_wp2_with fail
          go_roundw
          case rel => exact ⟨j + 1, _, by omega, by go_num, rfl⟩
          case measure => simp [intOf]; omega
        · obtain rfl : j = ns := by omega
          go_wp2_with fail
          go_roundw
          case rel => exact ⟨k + 1, by omega, by go_num, _, by rw [HW.out, World.drewN_drewN]⟩
          case measure => simp [intOf]; omega
    · obtain rfl : k = n := by omega
      go_wp2
      go_ret
      exact ⟨rfl, m, rfl⟩

/-! no group is longer than the list -/
theorem chainsF_inner : ∀ (f : Nat) (l : List Inf), ∀ g ∈ chainsF f l, g.length ≤ l.length
  | 0, l, g, h => by simp [chainsF] at h
  | f + 1, [], g, h => by simp [chainsF] at h
  | f + 1, x :: r, g, h => by
    rw [chainsF, List.mem_append] at h
    rcases h with h | h
    · split at h
      · rw [List.mem_singleton] at h
        rw [h, List.length_map, List.length_take]
        exact Nat.min_le_right _ _
      · simp at h
    · have := chainsF_inner f _ g h
      rw [List.length_drop] at this
      omega
theorem rowsF_inner (fan : Nat) : ∀ (f : Nat) (l : List Inf), ∀ g ∈ rowsF fan f l, g.length ≤ l.length
  | 0, l, g, h => by simp [rowsF] at h
  | f + 1, [], g, h => by simp [rowsF] at h
  | f + 1, x :: r, g, h => by
    rw [rowsF] at h
    split at h
    · rw [List.mem_append] at h
      rcases h with h | h
      · rw [List.mem_singleton] at h
        rw [h, List.length_map, List.length_take]
        exact Nat.min_le_right _ _
      · have := rowsF_inner fan f _ g h
        rw [List.length_drop] at this
        omega
    · have := rowsF_inner fan f _ g h
      rw [List.length_drop] at this
      omega
theorem groupsAt_inner (fan : Int) (l : List Inf) : ∀ g ∈ groupsAt fan l, g.length ≤ l.length := by
  intro g h
  unfold groupsAt rowsP at h
  split at h
  · split at h
    · exact rowsF_inner _ _ _ g h
    · simp at h
  · exact chainsF_inner _ _ g h
theorem planI_inner (fan : Int) (l : List Inf) : ∀ g ∈ planI fan l, g.length ≤ l.length := by
  intro g h
  unfold planI at h
  rw [List.mem_flatMap] at h
  obtain ⟨r, _, h⟩ := h
  have h1 := groupsAt_inner _ _ g h
  rw [(keys_sorted _).2.1] at h1
  exact Nat.le_trans h1 (List.length_filter_le _ _)
theorem planI_len (fan : Int) (l : List Inf) : (planI fan l).length ≤ l.length := Nat.le_trans (planTo_len fan l 3) (siftTo_le l 3)

/-- two like lists of lists of the call's own -/
theorem same_ll {base base2 : Nat} {va vb : Value} {G : List (List Int)} {Sa Sb : List (Sl Int)} {w : World} (ha : LLAt w base va G Sa) (hb : LLAt w base2 vb G Sb) (hG : G.length ≤ 1000000000000000) (hi : ∀ g ∈ G, g.length ≤ 1000000000000000) :
    Calls Try.prog 36 #[va, vb] w fun e w' => e = .returned (.bool true) ∧ ∃ m, w' = w.drewN m := by
  obtain ⟨A1, c1, rfl, hc1, hr1⟩ := own_shape ha.1
  obtain ⟨A2, c2, rfl, hc2, hr2⟩ := own_shape hb.1
  refine same_yes A1 A2 G.length c1 c2 Sa Sb w _ _ hr1 hr2 (by omega) ha.2.2.1 hb.2.2.1 (ha.2.1.trans hb.2.1.symm) ?_
  intro s hs
  have h1 : s.l ∈ G := by rw [← ha.2.1]; exact List.mem_map_of_mem hs
  have h2 := hi _ h1
  have h3 := (ha.2.2.1 s hs).2.1
  omega
end Go.Proofs.Ytohocdbneopooaa
