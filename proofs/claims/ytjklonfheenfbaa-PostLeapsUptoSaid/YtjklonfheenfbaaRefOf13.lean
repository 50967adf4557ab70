/- The reference's Of at numbers, walked: the rising list of them. Condition: the row is within the reach. -/
import Derived.Test.YtjklonfheenfbaaPostKit
namespace Go.Proofs.Ytjklonfheenfbaa
set_option maxRecDepth 100000
open Go.RowKit Go.Shelf

theorem ints_whole {w : World} {base n : Nat} {T : TypeId} {v : Value} {E : List Int} (h : w.ownsRow base T 1 v n (E.map (Value.int .i64))) (hn : 0 < n) :
    ∃ g cap rest, v = .slice (some ⟨g, 0, none⟩) n cap ∧ base ≤ g ∧ Whole1 w g T (E.map (Value.int .i64) ++ rest).toArray ∧ n ≤ cap ∧ cap ≤ maxLen ∧ E.length = n ∧ (E.map (Value.int .i64) ++ rest).length = cap := by
  obtain ⟨hl, h2⟩ := h
  rw [List.length_map, Nat.mul_one] at hl
  rcases h2 with ⟨_, h0⟩ | ⟨g, cap, cur, rfl, hb, hg, hnc, hc, hs, ht⟩
  · omega
  · have e : E.map (Value.int .i64) ++ cur.toList.drop (n * 1) = cur.toList := by rw [← ht, List.take_append_drop]
    exact ⟨g, cap, cur.toList.drop (n * 1), rfl, hb, by rw [e]; exact hg, hnc, hc, hl, by rw [e]; simpa using hs⟩
theorem ints_own {w : World} {base n g cap : Nat} {T : TypeId} {E : List Int} {rest : List Value} (hb : base ≤ g) (hw : Whole1 w g T (E.map (Value.int .i64) ++ rest).toArray) (hnc : n ≤ cap) (hc : cap ≤ maxLen) (hl : E.length = n) (hs : (E.map (Value.int .i64) ++ rest).length = cap) :
    w.ownsRow base T 1 (.slice (some ⟨g, 0, none⟩) n cap) n (E.map (Value.int .i64)) :=
  ⟨by rw [List.length_map]; omega, .inr ⟨g, cap, _, rfl, hb, hw, hnc, hc, by simpa using hs, by
    have h1 : (E.map (Value.int .i64)).length = n * 1 := by rw [List.length_map]; omega
    simp [← h1]⟩⟩
theorem ints_cell {w : World} {g : Nat} {T : TypeId} {E : List Int} {rest : List Value} (hw : Whole1 w g T (E.map (Value.int .i64) ++ rest).toArray) {i : Nat} {x : Int} (hx : E[i]? = some x) : w.cell? ⟨g, i, none⟩ = some (.int .i64 x) := by
  have hi := (List.getElem?_eq_some_iff.1 hx).1
  rw [hw.cell, List.getElem?_toArray, List.getElem?_append_left (by simpa using hi), List.getElem?_map, hx]; rfl
theorem ints_put {w : World} {g : Nat} {T : TypeId} {E : List Int} {rest : List Value} (hw : Whole1 w g T (E.map (Value.int .i64) ++ rest).toArray) {i : Nat} (hi : i < E.length) (x : Int) : Whole1 (w.setCell ⟨g, i, none⟩ (.int .i64 x)) g T ((E.set i x).map (Value.int .i64) ++ rest).toArray := by
  have h := hw.put i (.int .i64 x)
  rw [List.setIfInBounds_toArray, List.set_append_left _ _ (by simpa using hi), ← List.map_set] at h
  exact h
/-- the list with a hole at k -/
def holeAt (O : List Int) (k : Nat) (z : Int) : List Int := O.take k ++ z :: O.drop k
theorem hole_len (O : List Int) (k : Nat) (z : Int) : (holeAt O k z).length = O.length + 1 := by
  simp [holeAt]; omega
theorem hole_end (O : List Int) (z : Int) : holeAt O O.length z = O ++ [z] := by simp [holeAt]
theorem hole_before {O : List Int} {k : Nat} {z x : Int} (hx : O[k]? = some x) : (holeAt O (k + 1) z)[k]? = some x := by
  have hk := (List.getElem?_eq_some_iff.1 hx).1
  rw [holeAt, List.getElem?_append_left (by simp; omega), List.getElem?_take_of_lt (by omega), hx]
theorem hole_down {O : List Int} {k : Nat} {z x : Int} (hx : O[k]? = some x) : (holeAt O (k + 1) z).set (k + 1) x = holeAt O k x := by
  obtain ⟨hk, he⟩ := List.getElem?_eq_some_iff.1 hx
  have e1 : O.take (k + 1) = O.take k ++ [x] := take_snoc? hx
  have e2 : O.drop k = x :: O.drop (k + 1) := by rw [List.drop_eq_getElem_cons hk, he]
  have hl : (O.take (k + 1)).length = k + 1 := by simp; omega
  rw [holeAt, List.set_append_right _ _ (by omega), hl, Nat.sub_self, List.set_cons_zero, holeAt, e1, e2]
  simp
theorem hole_put {O : List Int} {k : Nat} {z y : Int} (hk : k ≤ O.length) : (holeAt O k z).set k y = holeAt O k y := by
  have hl : (O.take k).length = k := by simp; omega
  rw [holeAt, List.set_append_right _ _ (by omega), hl, Nat.sub_self, List.set_cons_zero, holeAt]
theorem hole_rising {O : List Int} (h : rising O) {j : Nat} {y : Int} (hlo : ∀ i x, i < j → O[i]? = some x → x < y) (hhi : ∀ x, O[j]? = some x → y < x) (hj : j ≤ O.length) : rising (holeAt O j y) ∧ ∀ x, x ∈ holeAt O j y ↔ x ∈ O ∨ x = y := by
  have hs : O = O.take j ++ O.drop j := (List.take_append_drop j O).symm
  have hp := h
  unfold rising at hp
  rw [hs] at hp
  obtain ⟨p1, p2, p3⟩ := List.pairwise_append.1 hp
  have htake : ∀ a ∈ O.take j, a < y := fun a ha => by
    obtain ⟨i, hi⟩ := List.mem_iff_getElem?.1 ha
    have hil := (List.getElem?_eq_some_iff.1 hi).1
    have hij : i < j := by rw [List.length_take] at hil; omega
    rw [List.getElem?_take_of_lt hij] at hi
    exact hlo i a hij hi
  have hdrop : ∀ a ∈ O.drop j, y < a := fun a ha => by
    cases hd : O.drop j with
    | nil => rw [hd] at ha; simp at ha
    | cons b r =>
      have hb : O[j]? = some b := by
        have : (O.drop j)[0]? = some b := by rw [hd]; rfl
        rw [List.getElem?_drop, Nat.add_zero] at this
        exact this
      have hyb := hhi b hb
      rw [hd] at ha p2
      rcases List.mem_cons.1 ha with rfl | ha
      · exact hyb
      · have := (List.pairwise_cons.1 p2).1 a ha; omega
  refine ⟨?_, fun x => ?_⟩
  · unfold rising holeAt
    rw [List.pairwise_append]
    refine ⟨p1, List.pairwise_cons.2 ⟨hdrop, p2⟩, fun a ha b hb => ?_⟩
    rcases List.mem_cons.1 hb with rfl | hb
    · exact htake a ha
    · exact p3 a ha b hb
  · rw [holeAt, List.mem_append, List.mem_cons]
    constructor
    · rintro (h | h | h)
      · exact .inl (List.mem_of_mem_take h)
      · exact .inr h
      · exact .inl (List.mem_of_mem_drop h)
    · rintro (h | h)
      · rw [hs] at h
        rcases List.mem_append.1 h with h | h
        · exact .inl h
        · exact .inr (.inr h)
      · exact .inr (.inl h)

set_option maxHeartbeats 6400000 in
theorem rOf13_any (A : Option Addr) (n c : Nat) (l : List Int) (w : World) (h : IntF w A n l) :
    Calls Try.prog 51 #[.slice A n c] w fun e w' => ∃ E v, e = .returned v ∧ rising E ∧ (∀ x, x ∈ E ↔ x ∈ l) ∧ w'.ownsRow w.heap.size 3 1 v E.length (E.map (Value.int .i64)) ∧ Below w.heap.size w w' := by
  obtain ⟨i0, hi, hz0, hz1, hz2⟩ := info_parts info_int
  have H := hidden h
  have hfit := h.fit
  clear h
  go_enter Try.func51, Try.ntmps51
  go_wp2_with fail
  go_loopw [3, 4] (fun vo vi wr => ∃ (k : Nat) (O : List Int) (v : Value), v = vo ∧ k ≤ n ∧ vi = .int .i64 k ∧ O.length ≤ k ∧ Hid (rising O) ∧ Hid (∀ x, x ∈ O ↔ x ∈ l.take k) ∧ wr.ownsRow w.heap.size 3 1 v O.length (O.map (Value.int .i64)) ∧ Below w.heap.size w wr) (fun _ vi _ => n - (intOf vi).toNat)
  case atStart => exact ⟨0, [], _, rfl, Nat.zero_le _, rfl, Nat.le_refl _, List.Pairwise.nil, hidden (by simp), World.ownsRow_nil _ _ _ _, Below.refl _ _⟩
  case round =>
    obtain ⟨k, O, v, rfl, hk, rfl, hOk, hO, hm, hown, hb⟩ := hrel
    obtain ⟨A1, c1, rfl, _, hr1⟩ := own_shape hown
    by_cases hlt : k < n
    · obtain ⟨gs, o, rfl, hgs, hc⟩ := ints_at H.out.row (by omega)
      obtain ⟨y, hy⟩ : ∃ y, l[k]? = some y := ⟨_, List.getElem?_eq_getElem (by have := H.out.len; omega)⟩
      have cy0 : w.cell? ⟨gs, o + k, none⟩ = some (.int .i64 y) := by
        have := hc k (by have := H.out.len; omega)
        rw [this]; simp [List.getD, hy]
      have HCY := hidden (fun (w' : World) (hb' : Below w.heap.size w w') => (hb'.cell (p := ⟨gs, o + k, none⟩) hgs).trans cy0)
      have cy := HCY.out wr hb
      clear cy0
      have hT := hidden (take_snoc? hy)
      have HOW := hidden hown
      have HB := hidden hb
      have HR := hidden hr1
      have k0 : (0 : Int) ≤ (k : Int) := by omega
      have k1 : (k : Int) < (n : Int) := by omega
      clear hc hown hb hr1 hy
      go_wp2_with fail
      generalize wr = wo at *
      go_loopw [5] (fun vj wz => ∃ (j q : Nat), vj = .int .i64 j ∧ j ≤ O.length ∧ Hid (∀ i x, i < j → O[i]? = some x → x < y) ∧ wz = wo.drewN q) (fun vj _ => O.length - (intOf vj).toNat)
      case atStart => exact ⟨0, 0, rfl, Nat.zero_le _, hidden (fun _ _ h => absurd h (Nat.not_lt_zero _)), rfl⟩
      case round =>
        obtain ⟨j, q, rfl, hj, hlo, rfl⟩ := hrel
        have j0 : (0 : Int) ≤ (j : Int) := by omega
        by_cases hjl : j < O.length
        · obtain ⟨x, hx⟩ : ∃ x, O[j]? = some x := ⟨_, List.getElem?_eq_getElem hjl⟩
          obtain ⟨g1, o1, rfl, _, hc1⟩ := ints_at HR.out (by omega)
          have cx : wo.cell? ⟨g1, o1 + j, none⟩ = some (.int .i64 x) := by rw [hc1 j hjl]; simp [List.getD, hx]
          have HX := hidden hx
          have j1 : (j : Int) < (O.length : Int) := by omega
          clear hc1 hx
          by_cases hxy : x < y
          · have hlo2 : Hid (∀ i z, i < j + 1 → O[i]? = some z → z < y) := fun i z hi hz => by
              by_cases e : i = j
              · subst e; have := hz.symm.trans HX.out; cases this; exact hxy
              · exact hlo.out i z (by omega) hz
            go_wp2_with fail
            go_quiet (fail)
            go_wp2_with fail
            go_roundw
            case rel => exact ⟨j + 1, _, by go_num, by omega, hlo2, rfl⟩
            case measure => simp [intOf]; omega
          · have hxd : decide (x < y) = false := decide_eq_false hxy
            by_cases hxe : x = y
            · subst hxe
              have hxb : (x == x) = true := beq_self_eq_true _
              have hm2 : Hid (∀ z, z ∈ O ↔ z ∈ l.take (k + 1)) := fun z => by
                rw [hT.out, List.mem_append, hm.out z, List.mem_singleton]
                exact ⟨.inl, fun h => h.elim id fun e => (hm.out z).1 (by rw [e]; exact List.mem_of_getElem? HX.out)⟩
              go_wp2_with fail
              go_quiet (fail)
              go_wp2_with fail
              go_quiet (fail)
              go_wp2_with fail
              go_roundw
              case rel => exact ⟨k + 1, O, _, rfl, by omega, by go_num, by omega, hO, hm2, own_drewN HOW.out _, below_drewN HB.out _⟩
              case measure => simp [intOf]; omega
            · have hxb : (x == y) = false := by simpa using hxe
              have hhi : Hid (∀ z, O[j]? = some z → y < z) := fun z hz => by
                have := hz.symm.trans HX.out; cases this; omega
              go_wp2_with fail
              go_quiet (fail)
              go_wp2_with fail
              go_quiet (fail)
              have hm2 := hidden (show (∀ z, z ∈ holeAt O j y ↔ z ∈ l.take (k + 1)) from fun z => by
                rw [(hole_rising hO.out hlo.out hhi.out hj).2 z, hT.out, List.mem_append, hm.out z, List.mem_singleton])
              have hO2 := hidden (hole_rising hO.out hlo.out hhi.out hj).1
              generalize hwq : ((wo.drewN _).drewN _).drewN _ = w2
              have hown2 : w2.ownsRow w.heap.size 3 1 _ O.length (O.map (Value.int .i64)) := hwq ▸ own_drewN (own_drewN (own_drewN HOW.out _) _) _
              have hb2 : Below w.heap.size w w2 := hwq ▸ below_drewN (below_drewN (below_drewN HB.out _) _) _
              have hbs := hb2.size
              have hfr := Row.fresh w2 3 1 1 [.int .i64 0] rfl
              clear hwq cy cx hxd hxb hxy hxe
              go_wp2_with (at_builtin; refine wpList_app _ rfl _ _ 69 rfl w.heap.size 3 i0 _ 1 8 Try.underlying69 hi hz0 hz1 hz2 rfl (by decide) _ _ _ rfl (hown2.alloc _) _ _ _ _ _ rfl hfr (by simp [Value.oneCell']) (by unfold maxLen; omega) (by omega) (by simp; omega) ?_; intro v1 w3 hown3 hg3 hat3)
              have hcs : O.map (Value.int .i64) ++ [.int .i64 0] = (O ++ [0]).map (Value.int .i64) := by simp
              rw [hcs] at hown3
              have hb3 : Below w.heap.size w w3 := (hb2.alloc hbs _).grown hg3 (by simp; omega) (fun q hq => (hown2.lt q hq).1)
              obtain ⟨g, cap, rest, rfl, hg, hw3, hnc, hcm, hl2, hs2⟩ := ints_whole hown3 (by omega)
              rw [← hole_end] at hw3 hs2
              have HW3 := hidden hw3
              have HB3 := hidden hb3
              have HS2 := hidden hs2
              clear hown2 hb2 hbs hfr hown3 hg3 hat3 hcs hw3 hb3 hs2 hl2
              obtain ⟨N, hN⟩ : ∃ N, O.length + 1 = N := ⟨_, rfl⟩
              rw [hN] at hnc ⊢
              have HN := hidden hN
              have hN0 : N ≤ n := by omega
              have HNC := hidden hnc
              have HCM := hidden hcm
              have HG := hidden hg
              clear hN hnc hcm hg
              have hle : (Builtin.len_ #[69] 3 #[.slice (some ⟨g, 0, none⟩) N cap]).run Try.prog w3 = .ok (.int .i64 N) w3 := by simp [Builtin.len_, go_sem]
              go_wp2_with fail
              simp only [hle, Result.andThen]
              rw [Oper.upon_value]
              go_wp2_with fail
              go_loopw [6] (fun vk wz => ∃ (k2 : Nat) (z : Int), vk = .int .i64 k2 ∧ j ≤ k2 ∧ k2 ≤ O.length ∧ Whole1 wz g 3 ((holeAt O k2 z).map (Value.int .i64) ++ rest).toArray ∧ w3.grownBy wz (some g)) (fun vk _ => (intOf vk).toNat)
              case atStart => exact ⟨O.length, 0, congrArg (Value.int .i64) (by have := HN.out; omega), hj, Nat.le_refl _, HW3.out, gb_refl _ _⟩
              case round =>
                obtain ⟨k2, z, rfl, hjk, hkO, hw, hgb⟩ := hrel
                have HBZ := hidden (below_gb HB3.out hgb HB3.out.size HG.out)
                have HGB := hidden hgb
                have HWZ := hidden hw
                clear hgb
                by_cases hkj : j < k2
                · obtain ⟨k3, rfl⟩ : ∃ k3, k2 = k3 + 1 := ⟨k2 - 1, by omega⟩
                  obtain ⟨x3, hx3⟩ : ∃ x, O[k3]? = some x := ⟨_, List.getElem?_eq_getElem (by omega)⟩
                  have cz := ints_cell hw (hole_before (z := z) hx3)
                  have hp := ints_put hw (i := k3 + 1) (by rw [hole_len]; omega) x3
                  rw [hole_down hx3] at hp
                  have HP := hidden hp
                  have fz := hw.free (k3 + 1)
                  have cz1 : wr.cell? ⟨g, k3 + 1, none⟩ = some (.int .i64 z) := by
                    have : (holeAt O (k3 + 1) z)[k3 + 1]? = some z := by
                      have hl : (O.take (k3 + 1)).length = k3 + 1 := by simp; omega
                      rw [holeAt, List.getElem?_append_right (by omega), hl, Nat.sub_self]; rfl
                    exact ints_cell hw this
                  have q0 : (j : Int) < ((k3 + 1 : Nat) : Int) := by omega
                  have q1 : ((k3 + 1 : Nat) : Int) - 1 = (k3 : Int) := by omega
                  have q2 : (0 : Int) ≤ (k3 : Int) := by omega
                  have q3 : (k3 : Int) < (N : Int) := by have := HN.out; omega
                  have q4 : (k3 : Int) + 1 < (N : Int) := by have := HN.out; omega
                  clear hw hx3 hp
                  go_wp2_with fail
                  go_roundw
                  case rel => exact ⟨k3, x3, by go_num, by omega, by omega, HP.out, gb_put HGB.out _ _⟩
                  case measure => simp [intOf]
                · obtain rfl : k2 = j := by omega
                  have cyz := HCY.out wr HBZ.out
                  have hp := ints_put hw (i := k2) (by rw [hole_len]; omega) y
                  rw [hole_put hj] at hp
                  have HP := hidden hp
                  have fz := hw.free k2
                  have hgb2 := hidden (gb_put HGB.out k2 (.int .i64 y))
                  have cz1 : wr.cell? ⟨g, k2, none⟩ = some (.int .i64 z) := by
                    have : (holeAt O k2 z)[k2]? = some z := by
                      have hl : (O.take k2).length = k2 := by simp; omega
                      rw [holeAt, List.getElem?_append_right (by omega), hl, Nat.sub_self]; rfl
                    exact ints_cell hw this
                  have q0 : ¬ (k2 : Int) < (k2 : Int) := by omega
                  have q3 : (k2 : Int) < (N : Int) := by have := HN.out; omega
                  clear hw hp
                  go_wp2_with fail
                  go_roundw
                  case rel => exact ⟨k + 1, holeAt O k2 y, _, rfl, by omega, by go_num, by rw [hole_len]; omega, hO2, hm2, by rw [hole_len, HN.out]; exact ints_own HG.out HP.out HNC.out HCM.out ((hole_len _ _ _).trans HN.out) (by have := HS2.out; rw [List.length_append, List.length_map, hole_len] at this ⊢; exact this), below_gb HB3.out hgb2.out HB3.out.size HG.out⟩
                  case measure => simp [intOf]; omega
        · have hhi : Hid (∀ z, O[j]? = some z → y < z) := fun z hz => by
            have := (List.getElem?_eq_some_iff.1 hz).1; omega
          have j1 : ¬ (j : Int) < (O.length : Int) := by omega
          go_wp2_with fail
          go_quiet (fail)
          go_wp2_with fail
          go_quiet (fail)
          have hm2 := hidden (show (∀ z, z ∈ holeAt O j y ↔ z ∈ l.take (k + 1)) from fun z => by
            rw [(hole_rising hO.out hlo.out hhi.out hj).2 z, hT.out, List.mem_append, hm.out z, List.mem_singleton])
          have hO2 := hidden (hole_rising hO.out hlo.out hhi.out hj).1
          generalize hwq : ((wo.drewN _).drewN _).drewN _ = w2
          have hown2 : w2.ownsRow w.heap.size 3 1 _ O.length (O.map (Value.int .i64)) := hwq ▸ own_drewN (own_drewN (own_drewN HOW.out _) _) _
          have hb2 : Below w.heap.size w w2 := hwq ▸ below_drewN (below_drewN (below_drewN HB.out _) _) _
          have hbs := hb2.size
          have hfr := Row.fresh w2 3 1 1 [.int .i64 0] rfl
          clear hwq cy 
          go_wp2_with (at_builtin; refine wpList_app _ rfl _ _ 69 rfl w.heap.size 3 i0 _ 1 8 Try.underlying69 hi hz0 hz1 hz2 rfl (by decide) _ _ _ rfl (hown2.alloc _) _ _ _ _ _ rfl hfr (by simp [Value.oneCell']) (by unfold maxLen; omega) (by omega) (by simp; omega) ?_; intro v1 w3 hown3 hg3 hat3)
          have hcs : O.map (Value.int .i64) ++ [.int .i64 0] = (O ++ [0]).map (Value.int .i64) := by simp
          rw [hcs] at hown3
          have hb3 : Below w.heap.size w w3 := (hb2.alloc hbs _).grown hg3 (by simp; omega) (fun q hq => (hown2.lt q hq).1)
          obtain ⟨g, cap, rest, rfl, hg, hw3, hnc, hcm, hl2, hs2⟩ := ints_whole hown3 (by omega)
          rw [← hole_end] at hw3 hs2
          have HW3 := hidden hw3
          have HB3 := hidden hb3
          have HS2 := hidden hs2
          clear hown2 hb2 hbs hfr hown3 hg3 hat3 hcs hw3 hb3 hs2 hl2
          obtain ⟨N, hN⟩ : ∃ N, O.length + 1 = N := ⟨_, rfl⟩
          rw [hN] at hnc ⊢
          have HN := hidden hN
          have hN0 : N ≤ n := by omega
          have HNC := hidden hnc
          have HCM := hidden hcm
          have HG := hidden hg
          clear hN hnc hcm hg
          have hle : (Builtin.len_ #[69] 3 #[.slice (some ⟨g, 0, none⟩) N cap]).run Try.prog w3 = .ok (.int .i64 N) w3 := by simp [Builtin.len_, go_sem]
          go_wp2_with fail
          simp only [hle, Result.andThen]
          rw [Oper.upon_value]
          go_wp2_with fail
          go_loopw [6] (fun vk wz => ∃ (k2 : Nat) (z : Int), vk = .int .i64 k2 ∧ j ≤ k2 ∧ k2 ≤ O.length ∧ Whole1 wz g 3 ((holeAt O k2 z).map (Value.int .i64) ++ rest).toArray ∧ w3.grownBy wz (some g)) (fun vk _ => (intOf vk).toNat)
          case atStart => exact ⟨O.length, 0, congrArg (Value.int .i64) (by have := HN.out; omega), hj, Nat.le_refl _, HW3.out, gb_refl _ _⟩
          case round =>
            obtain ⟨k2, z, rfl, hjk, hkO, hw, hgb⟩ := hrel
            have HBZ := hidden (below_gb HB3.out hgb HB3.out.size HG.out)
            have HGB := hidden hgb
            have HWZ := hidden hw
            clear hgb
            by_cases hkj : j < k2
            · exfalso; omega
            · obtain rfl : k2 = j := by omega
              have cyz := HCY.out wr HBZ.out
              have hp := ints_put hw (i := k2) (by rw [hole_len]; omega) y
              rw [hole_put hj] at hp
              have HP := hidden hp
              have fz := hw.free k2
              have hgb2 := hidden (gb_put HGB.out k2 (.int .i64 y))
              have cz1 : wr.cell? ⟨g, k2, none⟩ = some (.int .i64 z) := by
                have : (holeAt O k2 z)[k2]? = some z := by
                  have hl : (O.take k2).length = k2 := by simp; omega
                  rw [holeAt, List.getElem?_append_right (by omega), hl, Nat.sub_self]; rfl
                exact ints_cell hw this
              have q0 : ¬ (k2 : Int) < (k2 : Int) := by omega
              have q3 : (k2 : Int) < (N : Int) := by have := HN.out; omega
              clear hw hp
              go_wp2_with fail
              go_roundw
              case rel => exact ⟨k + 1, holeAt O k2 y, _, rfl, by omega, by go_num, by rw [hole_len]; omega, hO2, hm2, by rw [hole_len, HN.out]; exact ints_own HG.out HP.out HNC.out HCM.out ((hole_len _ _ _).trans HN.out) (by have := HS2.out; rw [List.length_append, List.length_map, hole_len] at this ⊢; exact this), below_gb HB3.out hgb2.out HB3.out.size HG.out⟩
              case measure => simp [intOf]; omega
    · obtain rfl : n = k := by omega
      rw [List.take_of_length_le (by rw [H.out.len]; exact Nat.le_refl _)] at hm
      go_wp2_with fail
      go_ret
      exact ⟨O, _, rfl, hO.out, hm.out, hown, hb⟩
end Go.Proofs.Ytjklonfheenfbaa
