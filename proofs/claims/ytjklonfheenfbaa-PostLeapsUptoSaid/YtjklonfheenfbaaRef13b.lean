/- The reference's has, Without and Seek at rising lists, walked. Condition: the rows are within the reach. -/
import Derived.Test.YtjklonfheenfbaaPostKit
namespace Go.Proofs.Ytjklonfheenfbaa
set_option maxRecDepth 100000
open Go.RowKit Go.Shelf

theorem int_cell {w : World} {A : Option Addr} {n : Nat} {l : List Int} (h : IntF w A n l) {k : Nat} (hk : k < n) : ∃ g o y, A = some ⟨g, o, none⟩ ∧ g < w.heap.size ∧ l[k]? = some y ∧ w.cell? ⟨g, o + k, none⟩ = some (.int .i64 y) := by
  obtain ⟨g, o, rfl, hg, hc⟩ := ints_at h.row (by omega)
  have hl := h.len
  refine ⟨g, o, l[k]'(by omega), rfl, hg, List.getElem?_eq_getElem _, ?_⟩
  rw [hc k (by omega)]; simp [List.getD, List.getElem?_eq_getElem (show k < l.length by omega)]
theorem mem_take_not {l : List Int} {k : Nat} {x y : Int} (h : x ∉ l.take k) (hy : l[k]? = some y) (hne : ¬ y = x) : x ∉ l.take (k + 1) := by
  rw [take_snoc? hy, List.mem_append, List.mem_singleton]
  exact fun e => e.elim h fun e => hne e.symm

set_option maxHeartbeats 1600000 in
theorem rHas13_q (A : Option Addr) (n c : Nat) (l : List Int) (x : Int) (w : World) (h : IntF w A n l) :
    Calls Try.prog 100 #[.slice A n c, .int .i64 x] w fun e w' => e = .returned (.bool (decide (x ∈ l))) ∧ ∃ q, w' = w.drewN q := by
  have H := hidden h
  have hfit := h.fit
  clear h
  go_enter Try.func100, Try.ntmps100
  go_wp2_with fail
  go_loopw [5] (fun i wr => ∃ k m : Nat, k ≤ n ∧ i = .int .i64 k ∧ Hid (x ∉ l.take k) ∧ wr = w.drewN m) (fun i _ => n - (intOf i).toNat)
  case atStart => exact ⟨0, 0, Nat.zero_le _, rfl, hidden (by simp), rfl⟩
  case round =>
    obtain ⟨k, m, hk, rfl, hno, rfl⟩ := hrel
    by_cases hlt : k < n
    · obtain ⟨g, o, y, rfl, _, hy, hc⟩ := int_cell H.out hlt
      have hc' : (w.drewN m).cell? ⟨g, o + k, none⟩ = some (.int .i64 y) := hc
      have k0 : (0 : Int) ≤ (k : Int) := by omega
      have k1 : (k : Int) < (n : Int) := by omega
      have HY := hidden hy
      clear hc hy
      by_cases hxy : y = x
      · subst hxy
        have hin := hidden (show decide (y ∈ l) = true from by simpa using List.mem_of_getElem? HY.out)
        have hbb : (y == y) = true := beq_self_eq_true _
        go_wp2_with fail
        go_ret
        exact ⟨ret_bool hin.out.symm, m, rfl⟩
      · have hbb : (y == x) = false := by simpa using hxy
        have hno2 := hidden (mem_take_not hno.out HY.out hxy)
        go_wp2_with fail
        go_roundw
        case rel => exact ⟨k + 1, m, by omega, by go_num, hno2, rfl⟩
        case measure => simp [intOf]; omega
    · obtain rfl : n = k := by omega
      have hin := hidden (show decide (x ∈ l) = false from by
        have := hno.out
        rw [List.take_of_length_le (by rw [H.out.len]; exact Nat.le_refl _)] at this
        simpa using this)
      go_wp2_with fail
      go_ret
      exact ⟨ret_bool hin.out.symm, m, rfl⟩

theorem rHas13_any (A : Option Addr) (n c : Nat) (l : List Int) (x : Int) (w : World) (h : IntF w A n l) :
    Calls Try.prog 100 #[.slice A n c, .int .i64 x] w fun e w' => e = .returned (.bool (decide (x ∈ l))) ∧ Below w.heap.size w w' :=
  (rHas13_q A n c l x w h).mono fun _ _ ⟨he, q, hq⟩ => ⟨he, by rw [hq]; exact below_drewN (Below.refl _ _) q⟩

set_option maxHeartbeats 1600000 in
theorem rWithout13_any (A : Option Addr) (n c : Nat) (l : List Int) (B : Option Addr) (m d : Nat) (r : List Int) (w : World) (h : IntF w A n l) (h2 : IntF w B m r) :
    Calls Try.prog 80 #[.slice A n c, .slice B m d] w fun e w' => ∃ v, e = .returned v ∧ w'.ownsRow w.heap.size 3 1 v (l.filter fun x => decide (x ∉ r)).length ((l.filter fun x => decide (x ∉ r)).map (Value.int .i64)) ∧ Below w.heap.size w w' := by
  obtain ⟨i0, hi, hz0, hz1, hz2⟩ := info_parts info_int
  have H := hidden h
  have H2 := hidden h2
  have hfit := h.fit
  clear h h2
  go_enter Try.func80, Try.ntmps80
  go_wp2_with fail
  go_loopw [5, 6] (fun v i wr => ∃ (k : Nat) (O : List Int), k ≤ n ∧ i = .int .i64 k ∧ Hid (O = (l.take k).filter fun x => decide (x ∉ r)) ∧ O.length ≤ k ∧ wr.ownsRow w.heap.size 3 1 v O.length (O.map (Value.int .i64)) ∧ Below w.heap.size w wr) (fun _ i _ => n - (intOf i).toNat)
  case atStart => exact ⟨0, [], Nat.zero_le _, rfl, hidden (by simp), Nat.le_refl _, World.ownsRow_nil _ _ _ _, Below.refl _ _⟩
  case round =>
    obtain ⟨k, O, hk, rfl, hO, hle, hown, hb⟩ := hrel
    by_cases hlt : k < n
    · obtain ⟨g, o, y, rfl, _, hy, hc⟩ := int_cell (H.out.on hb) hlt
      have k0 : (0 : Int) ≤ (k : Int) := by omega
      have k1 : (k : Int) < (n : Int) := by omega
      have hT := hidden (take_snoc? hy)
      have S1 := hidden (rHas13_any B m d r y wr (H2.out.on hb))
      have hbs := hb.size
      clear hy
      by_cases hp : y ∈ r
      · have hd : decide (y ∈ r) = true := by simpa using hp
        have hO2 : Hid (O = (l.take (k + 1)).filter fun x => decide (x ∉ r)) := by rw [Hid, hT.out, List.filter_append, ← hO.out]; simp [hp]
        rw [hd] at S1
        clear hp hd
        go_wp2_with fail
        refine S1.out.mono ?_
        rintro e w2 ⟨rfl, hb2⟩
        have hown2 := own_below hown hb2 (Nat.le_refl _)
        have hb3 := hb.trans (hb2.mono hbs)
        clear S1 hb2 hown hb hc
        go_wp2_with fail
        go_roundw
        case rel => exact ⟨k + 1, O, by omega, by go_num, hO2, by omega, hown2, hb3⟩
        case measure => simp [intOf]; omega
      · have hd : decide (y ∈ r) = false := by simpa using hp
        have hO2 : Hid (O ++ [y] = (l.take (k + 1)).filter fun x => decide (x ∉ r)) := by rw [Hid, hT.out, List.filter_append, ← hO.out]; simp [hp]
        rw [hd] at S1
        clear hp hd
        have hgw := World.block_lt_of_cell? wr _ hc
        simp only at hgw
        go_wp2_with fail
        refine S1.out.mono ?_
        rintro e w2 ⟨rfl, hb2⟩
        have hown2 := own_below hown hb2 (Nat.le_refl _)
        have hb3 := hb.trans (hb2.mono hbs)
        have hc2 := (hb2.cell (p := ⟨g, o + k, none⟩) hgw).trans hc
        clear S1 hb2 hown hb hc hgw
        have hfr := Row.fresh w2 3 1 1 [.int .i64 y] rfl
        have hbs2 := hb3.size
        go_wp2_with (at_builtin; refine wpList_app _ rfl _ _ 69 rfl w.heap.size 3 i0 _ 1 8 Try.underlying69 hi hz0 hz1 hz2 rfl (by decide) _ _ _ rfl (hown2.alloc _) _ _ _ _ _ rfl hfr (by simp [Value.oneCell']) (by unfold maxLen; omega) (by omega) (by simp; omega) ?_; intro v1 w3 hown3 hg3 hat3)
        have hcs : O.map (Value.int .i64) ++ [.int .i64 y] = (O ++ [y]).map (Value.int .i64) := by simp
        rw [hcs] at hown3
        have hb4 : Below w.heap.size w w3 := (hb3.alloc hbs2 _).grown hg3 (by simp; omega) (fun j hj => (hown2.lt j hj).1)
        clear hown2 hb3 hbs2 hg3 hat3 hcs hfr hc2
        go_wp2_with fail
        go_roundw
        case rel => exact ⟨k + 1, O ++ [y], by omega, by go_num, hO2, by rw [List.length_append, List.length_singleton]; omega, by rw [List.length_append]; exact hown3, hb4⟩
        case measure => simp [intOf]; omega
    · obtain rfl : n = k := by omega
      have hO2 := hO.out
      rw [List.take_of_length_le (by rw [H.out.len]; exact Nat.le_refl _)] at hO2
      subst hO2
      go_wp2_with fail
      go_ret
      exact ⟨_, rfl, hown, hb⟩
end Go.Proofs.Ytjklonfheenfbaa
