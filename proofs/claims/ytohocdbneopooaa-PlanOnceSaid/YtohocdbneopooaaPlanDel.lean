/- slices.DeleteFunc at blocks' infos, with the plan's closure: what it leaves. No condition but the reach. -/
import Derived.Test.YtohocdbneopooaaPlanMem
namespace Go.Proofs.Ytohocdbneopooaa
set_option maxRecDepth 100000
open Go.Shelf Go.RowKit Go.Lib Go.Sort

set_option maxHeartbeats 400000 in
theorem planDel_any (x0 x1 x2 x3 x4 res : Int) (rb : Nat) (w : World) (hc : w.cell? ⟨rb, 0, none⟩ = some (.int .i64 res)) :
    Calls Try.prog 84 #[.agg #[.int .i64 x0, .int .i64 x1, .int .i64 x2, .int .i64 x3, .int .i64 x4], .pointer (some ⟨rb, 0, none⟩)] w fun e w' => e = .returned (.bool (x1 != res)) ∧ Below w.heap.size w w' := by
  have hlt : rb < w.heap.size := World.block_lt_of_cell? w _ hc
  have hb : Below w.heap.size w (w.alloc (.cells #[.int .i64 x0, .int .i64 x1, .int .i64 x2, .int .i64 x3, .int .i64 x4] 71)) := (Below.refl _ _).alloc (Nat.le_refl _) _
  have hc2 := (hb.cell (p := ⟨rb, 0, none⟩) hlt).trans hc
  go_enter Try.func84, Try.ntmps84
  go_wp2
  go_ret
  exact ⟨rfl, hb⟩

set_option maxHeartbeats 1600000 in
theorem indexI_any (A : Option Addr) (n c : Nat) (l : List Inf) (res : Int) (rb : Nat) (w : World) (hc : w.cell? ⟨rb, 0, none⟩ = some (.int .i64 res)) (hr : Row w w.heap.size 5 A n (infCells l)) (hl : l.length = n) (hn : n * 40 ≤ 140737488351232) :
    Calls Try.prog 123 #[.slice A n c, .func (.func 84) #[] #[.pointer (some ⟨rb, 0, none⟩)]] w
      fun e w' => ∃ r : Int, e = .returned (.int .i64 r) ∧ ((r = -1 ∧ ∀ x ∈ l, x.res = res) ∨ ∃ (i : Nat) (x : Inf), r = i ∧ l[i]? = some x ∧ x.res ≠ res ∧ ∀ y ∈ l.take i, y.res = res) ∧ Below w.heap.size w w' := by
  have hL := hidden hl
  have HR := hidden hr
  have hlt0 : rb < w.heap.size := World.block_lt_of_cell? w _ hc
  have HC := hidden hc
  clear hl hr hc
  go_enter Try.func123, Try.ntmps123
  go_wp2
  go_loopw [8] (fun i wr => ∃ k : Nat, k ≤ n ∧ i = .int .i64 k ∧ Hid (∀ y ∈ l.take k, y.res = res) ∧ Below w.heap.size w wr) (fun i _ => n - (intOf i).toNat)
  case atStart => exact ⟨0, Nat.zero_le _, rfl, hidden (by simp), Below.refl _ _⟩
  case round =>
    obtain ⟨k, hk, rfl, hall, hb⟩ := hrel
    by_cases hlt : k < n
    · obtain ⟨gs, o, rfl, _, x, hx, d0, d1, d2, d3, d4⟩ := inf_cells_at HR.out hL.out hb k hlt
      have hcr := (hb.cell (p := ⟨rb, 0, none⟩) hlt0).trans HC.out
      have hT := hidden (take_snoc? hx)
      have HX := hidden hx
      obtain ⟨x0, x1, x2, x3, x4⟩ := x
      simp only at d0 d1 d2 d3 d4
      clear hx
      go_wp2_with fail
      refine (planDel_any x0 x1 x2 x3 x4 res rb _ hcr).mono ?_
      rintro e w1 ⟨rfl, hb1⟩
      have hB1 := hb.trans (hb1.mono hb.size)
      clear d0 d1 d2 d3 d4 hcr hb1
      by_cases hv : x1 = res
      · have t1 : ((x1 != res) : Bool) = false := by simp [hv]
        have HV := hidden hv
        clear hv
        go_wp2_with fail
        go_roundw
        case rel => exact ⟨k + 1, by omega, by go_num, hidden (by
          intro y hy
          rw [hT.out] at hy
          rcases List.mem_append.1 hy with h | h
          · exact hall.out y h
          · simp only [List.mem_singleton] at h
            rw [h]; exact HV.out), hB1⟩
        case measure => simp [intOf]; omega
      · have t1 : ((x1 != res) : Bool) = true := by simp [hv]
        have HV := hidden hv
        clear hv
        go_wp2_with fail
        go_ret
        exact ⟨_, rfl, .inr ⟨k, _, rfl, HX.out, HV.out, hall.out⟩, hB1⟩
    · obtain rfl : n = k := by omega
      have hall2 := hall.out
      rw [List.take_of_length_le (by rw [hL.out]; exact Nat.le_refl _)] at hall2
      have HA := hidden hall2
      clear hall2
      go_wp2
      go_ret
      exact ⟨-1, rfl, .inl ⟨rfl, HA.out⟩, hb⟩

/-! a block known whole, written -/
theorem whole_setCells {t : TypeId} (g : Nat) : ∀ (vs : List Value) (o : Nat) (w : World) (cs : Array Value), Whole1 w g t cs → ∃ cs', Whole1 (w.setCells g o vs) g t cs' ∧ cs'.size = cs.size ∧ (∀ j, j < o → cs'[j]? = cs[j]?) ∧ w.grownBy (w.setCells g o vs) (some g)
  | [], o, w, cs, h => ⟨cs, h, rfl, fun _ _ => rfl, gb_refl _ _⟩
  | v :: vs, o, w, cs, h => by
    obtain ⟨cs', h1, h2, h3, h4⟩ := whole_setCells g vs (o + 1) (w.setCell ⟨g, o, none⟩ v) (cs.setIfInBounds o v) (h.put o v)
    refine ⟨cs', h1, by rw [h2]; simp, fun j hj => ?_, gb_trans (gb_put (gb_refl w _) o v) h4⟩
    rw [h3 j (by omega), Array.getElem?_setIfInBounds_ne (by omega)]

theorem set5 (x : Inf) : ∀ (i : Nat) (l : List Inf) (rest : List Value), i < l.length →
    (((((infCells l ++ rest).set (i * 5) (.int .i64 x.id)).set (i * 5 + 1) (.int .i64 x.res)).set (i * 5 + 2) (.int .i64 x.frm)).set (i * 5 + 3) (.int .i64 x.til)).set (i * 5 + 4) (.int .i64 x.byt) = infCells (l.set i x) ++ rest
  | _, [], _, h => by simp at h
  | 0, a :: l, rest, _ => by simp [infCells_cons]
  | i + 1, a :: l, rest, h => by
    have := set5 x i l rest (by simpa using h)
    rw [infCells_cons, List.set_cons_succ, infCells_cons, show (i + 1) * 5 = i * 5 + 1 + 1 + 1 + 1 + 1 from by omega]
    simpa using this

/-- what is kept moves down -/
theorem sift_set (F junk : List Inf) (x : Inf) (r : List Inf) (hj : junk ≠ []) : ∃ junk', (F ++ junk ++ x :: r).set F.length x = (F ++ [x]) ++ junk' ++ r ∧ junk'.length = junk.length ∧ junk' ≠ [] := by
  match junk, hj with
  | a :: q, _ =>
    refine ⟨q ++ [x], ?_, by simp, by simp⟩
    rw [List.append_assoc, List.set_append_right _ _ (Nat.le_refl _), Nat.sub_self]
    simp

def clearCells (n : Nat) : List Value := (Builtin.zeroCells #[.int .i64 0, .int .i64 0, .int .i64 0, .int .i64 0, .int .i64 0] n).toList
theorem run_clear_inf (w : World) (ty : TypeId) (b o n c : Nat) (hn : 0 < n) (hc : ∀ j, j < n * 5 → (w.cell? ⟨b, o + j, none⟩).isSome = true) (hf : ∀ j, j < n * 5 → w.frozen? ⟨b, o + j, none⟩ = false) :
    (Builtin.clear_ #[67] ty #[.slice (some ⟨b, o, none⟩) n c]).run Try.prog w = .ok (.tuple #[]) (w.setCells b o (clearCells n)) := by
  unfold clearCells
  have hl : (Builtin.zeroCells #[.int .i64 0, .int .i64 0, .int .i64 0, .int .i64 0, .int .i64 0] n).toList.length = n * 5 := by
    simp [Builtin.zeroCells]
  have hst := run_storeCells_cells (P := Try.prog) b o (Builtin.zeroCells #[.int .i64 0, .int .i64 0, .int .i64 0, .int .i64 0, .int .i64 0] n).toList 0 w (by rw [hl]; simpa using hc) (by rw [hl]; simpa using hf) (by
    intro v hv
    simp only [Builtin.zeroCells, Array.toList_map, List.mem_map] at hv
    obtain ⟨q, _, rfl⟩ := hv
    have : q % 5 < 5 := Nat.mod_lt _ (by decide)
    match q % 5, this with
    | 0, _ => rfl
    | 1, _ => rfl
    | 2, _ => rfl
    | 3, _ => rfl
    | 4, _ => rfl)
  simp only [Nat.add_zero] at hst
  obtain ⟨m, rfl⟩ : ∃ m, n = m + 1 := ⟨n - 1, by omega⟩
  simp [Builtin.clear_, run_underlying Try.underlying67, Value.cells, hst]

theorem whole_inf {w : World} {g : Nat} {t : TypeId} {LL : List Inf} {rest : List Value} {j : Nat} {x : Inf} (h : Whole1 w g t (infCells LL ++ rest).toArray) (hx : LL[j]? = some x) :
    w.cell? ⟨g, j * 5, none⟩ = some (.int .i64 x.id) ∧ w.cell? ⟨g, j * 5 + 1, none⟩ = some (.int .i64 x.res) ∧ w.cell? ⟨g, j * 5 + 2, none⟩ = some (.int .i64 x.frm) ∧ w.cell? ⟨g, j * 5 + 3, none⟩ = some (.int .i64 x.til) ∧ w.cell? ⟨g, j * 5 + 4, none⟩ = some (.int .i64 x.byt) := by
  obtain ⟨hj, he⟩ := List.getElem?_eq_some_iff.1 hx
  have hat := infCells_at LL j hj
  rw [he] at hat
  have hc : ∀ q u, q < 5 → (infCells LL)[j * 5 + q]? = some u → w.cell? ⟨g, j * 5 + q, none⟩ = some u := fun q u hq hu => by
    rw [h.cell, List.getElem?_toArray, List.getElem?_append_left (by rw [infCells_length]; omega)]
    exact hu
  exact ⟨hc 0 _ (by omega) hat.1, hc 1 _ (by omega) hat.2.1, hc 2 _ (by omega) hat.2.2.1, hc 3 _ (by omega) hat.2.2.2.1, hc 4 _ (by omega) hat.2.2.2.2⟩

theorem whole_put5 {w : World} {g : Nat} {t : TypeId} {LL : List Inf} {rest : List Value} {i : Nat} (h : Whole1 w g t (infCells LL ++ rest).toArray) (hi : i < LL.length) (x : Inf) :
    Whole1 (((((w.setCell ⟨g, i * 5, none⟩ (.int .i64 x.id)).setCell ⟨g, i * 5 + 1, none⟩ (.int .i64 x.res)).setCell ⟨g, i * 5 + 2, none⟩ (.int .i64 x.frm)).setCell ⟨g, i * 5 + 3, none⟩ (.int .i64 x.til)).setCell ⟨g, i * 5 + 4, none⟩ (.int .i64 x.byt)) g t (infCells (LL.set i x) ++ rest).toArray := by
  have := ((((h.put (i * 5) (.int .i64 x.id)).put (i * 5 + 1) (.int .i64 x.res)).put (i * 5 + 2) (.int .i64 x.frm)).put (i * 5 + 3) (.int .i64 x.til)).put (i * 5 + 4) (.int .i64 x.byt)
  simp only [List.setIfInBounds_toArray] at this
  rwa [set5 x i LL rest hi] at this

/-- the blocks of one resolution -/
def sift (res : Int) (l : List Inf) : List Inf := l.filter fun x => x.res == res
theorem sift_snoc (res : Int) (l : List Inf) (x : Inf) : sift res (l ++ [x]) = if x.res = res then sift res l ++ [x] else sift res l := by
  unfold sift
  rw [List.filter_append]
  by_cases h : x.res = res
  · rw [if_pos h]; simp [h]
  · rw [if_neg h]; simp [h]
theorem sift_all {res : Int} {l : List Inf} (h : ∀ x ∈ l, x.res = res) : sift res l = l := List.filter_eq_self.2 fun x hx => by simp [h x hx]

/-- what DeleteFunc leaves: the head of the same block -/
def DelRes (g c : Nat) (F : List Inf) (w w' : World) (v : Value) : Prop :=
  ∃ rest, v = .slice (some ⟨g, 0, none⟩) F.length c ∧ F.length ≤ c ∧ Whole1 w' g 71 (infCells F ++ rest).toArray ∧ w.grownBy w' (some g)

set_option maxHeartbeats 6400000 in
theorem deleteI_any (g n c : Nat) (l : List Inf) (rest : List Value) (res : Int) (rb : Nat) (w : World) (hc : w.cell? ⟨rb, 0, none⟩ = some (.int .i64 res)) (hrb : rb ≠ g) (hw : Whole1 w g 71 (infCells l ++ rest).toArray) (hl : l.length = n) (hnc : n ≤ c) (hn : n * 40 ≤ 140737488351232) :
    Calls Try.prog 82 #[.slice (some ⟨g, 0, none⟩) n c, .func (.func 84) #[] #[.pointer (some ⟨rb, 0, none⟩)]] w
      fun e w' => ∃ v, e = .returned v ∧ DelRes g c (sift res l) w w' v := by
  have hglt := hw.lt
  have hrow : Row w w.heap.size 5 (some ⟨g, 0, none⟩) n (infCells l) := ⟨by rw [infCells_length, hl], fun _ => ⟨g, 0, rfl, hglt, fun j hj => by
    rw [Nat.zero_add, hw.cell]
    simp only [List.getElem?_toArray]
    rw [List.getElem?_append_left (by rw [infCells_length, hl]; exact hj)]⟩⟩
  have HIX := hidden (indexI_any (some ⟨g, 0, none⟩) n c l res rb w hc hrow hl hn)
  have HW := hidden hw
  have HL := hidden hl
  have HC := hidden hc
  clear hrow hw hc hl
  go_enter Try.func82, Try.ntmps82
  go_wp2_with fail
  refine HIX.out.mono ?_
  rintro e w1 ⟨r, rfl, hr, hb1⟩
  have hw1 := HW.out.below hb1 hglt
  have hc1 := (hb1.cell (p := ⟨rb, 0, none⟩) (World.block_lt_of_cell? w _ HC.out)).trans HC.out
  have hg1 : w.grownBy w1 (some g) := gb_below hb1 _
  clear HIX
  rcases hr with ⟨rfl, hall⟩ | ⟨i0, x, rfl, hx, hxr, hpre⟩
  · have hs := hidden (sift_all hall)
    have HW1 := hidden hw1
    clear hall hw1
    go_wp2
    go_ret
    exact ⟨_, rfl, rest, by rw [hs.out, HL.out]; rfl, by rw [hs.out, HL.out]; exact hnc, by rw [hs.out]; exact HW1.out, hg1⟩
  · have hi0 : i0 < n := by rw [← HL.out]; exact (List.getElem?_eq_some_iff.1 hx).1
    have ht1 : ((i0 : Int) == -1) = false := by simp
    have hp1 : sift res (l.take i0) = l.take i0 := sift_all hpre
    have hp2 : sift res (l.take (i0 + 1)) = l.take i0 := by rw [take_snoc? hx, sift_snoc, if_neg hxr, hp1]
    have hsplit : infCells l ++ rest = infCells (sift res (l.take (i0 + 1)) ++ [x] ++ l.drop (i0 + 1)) ++ rest := by
      rw [hp2, List.append_assoc, List.singleton_append, ← (List.getElem?_eq_some_iff.1 hx).2, ← List.drop_eq_getElem_cons, List.take_append_drop]
    have hlen : (sift res (l.take (i0 + 1))).length = i0 := by rw [hp2, List.length_take, HL.out]; omega
    have HW1 := hw1
    rw [hsplit] at HW1
    have HS1 := hidden HW1
    have HLEN := hidden hlen
    clear hw1 HW1 hsplit hp1 hp2 hpre hxr hx hlen
    go_wp2_with fail
    go_loopw [5, 6] (fun vi vj wx => ∃ (j : Nat) (junk : List Inf), vi = .int .i64 (((sift res (l.take j)).length : Nat) : Int) ∧ vj = .int .i64 j ∧ j ≤ n ∧ (sift res (l.take j)).length + junk.length = j ∧ junk ≠ [] ∧ Hid (Whole1 wx g 71 (infCells (sift res (l.take j) ++ junk ++ l.drop j) ++ rest).toArray) ∧ Hid (w.grownBy wx (some g))) (fun _ vj _ => n - (intOf vj).toNat)
    case atStart => exact ⟨i0 + 1, [x], by rw [HLEN.out], by go_num, by omega, by rw [HLEN.out]; rfl, by simp, HS1, hidden hg1⟩
    case round =>
      obtain ⟨j, junk, rfl, rfl, hj, hjk, hne, hWx, hgx⟩ := hrel
      by_cases hlt : j < n
      · obtain ⟨x, hx⟩ : ∃ x, l[j]? = some x := ⟨l[j]'(by rw [HL.out]; exact hlt), List.getElem?_eq_getElem _⟩
        have hdrop : l.drop j = x :: l.drop (j + 1) := by
          obtain ⟨h1, h2⟩ := List.getElem?_eq_some_iff.1 hx
          rw [List.drop_eq_getElem_cons h1, h2]
        have hW := hWx.out
        rw [hdrop] at hW
        have hsn := sift_snoc res (l.take j) x
        rw [← take_snoc? hx] at hsn
        have hFl : (sift res (l.take j)).length ≤ j := by omega
        obtain ⟨F, hF⟩ : ∃ F, sift res (l.take j) = F := ⟨_, rfl⟩
        obtain ⟨r, hr⟩ : ∃ r, l.drop (j + 1) = r := ⟨_, rfl⟩
        rw [hF] at hsn hW hjk hFl ⊢
        rw [hr] at hW
        have hjl : (F ++ junk).length = j := by rw [List.length_append]; exact hjk
        have hxx : (F ++ junk ++ x :: r)[j]? = some x := by
          rw [List.getElem?_append_right (by omega), hjl, Nat.sub_self]; rfl
        have hpos : 0 < junk.length := List.length_pos_iff.2 hne
        obtain ⟨d0, d1, d2, d3, d4⟩ := whole_inf hW hxx
        obtain ⟨i, hi⟩ : ∃ i, F.length = i := ⟨_, rfl⟩
        rw [hi] at hjk hFl ⊢
        have hin : i < n := by omega
        have hil : i < (F ++ junk ++ x :: r).length := by rw [List.length_append, List.length_append]; omega
        obtain ⟨sj, hs1, hs2, hs3⟩ := sift_set F junk x r hne
        rw [hi] at hs1
        have hgl := hW.lt
        have hcr := hgx.out.cell (a := ⟨rb, 0, none⟩) HC.out (by intro h; injection h with h; exact hrb h)
        have HI := hidden hi
        have HF := hidden hF
        have HR := hidden hr
        have HSN := hidden hsn
        have HS1x := hidden hs1
        obtain ⟨y, hy⟩ : ∃ y, (F ++ junk ++ x :: r)[i]? = some y := ⟨_, List.getElem?_eq_getElem hil⟩
        obtain ⟨x0, x1, x2, x3, x4⟩ := x
        simp only at d0 d1 d2 d3 d4
        have hltz : (j : Int) < (n : Int) := by omega
        have hiz : (i : Int) < (n : Int) := by omega
        have HY := hidden hy
        have HDR := hidden hdrop
        clear hdrop hsn hi hF hr hs1 hxx hjl hx hy
        go_wp2_with fail
        refine (planDel_any x0 x1 x2 x3 x4 res rb _ (by rw [World.cell?_alloc_lt _ _ _ (World.block_lt_of_cell? _ _ hcr)]; exact hcr)).mono ?_
        rintro e w2 ⟨rfl, hb2⟩
        have h6 : Whole1 w2 wr.heap.size 71 #[.int .i64 x0, .int .i64 x1, .int .i64 x2, .int .i64 x3, .int .i64 x4] := (Whole1.new wr _ _).below hb2 (by simp)
        have hW2 := (hW.alloc (Obj.cells #[.int .i64 x0, .int .i64 x1, .int .i64 x2, .int .i64 x3, .int .i64 x4] 71)).below hb2 (by simp; omega)
        have hg2 : w.grownBy w2 (some g) := gb_trans (gb_alloc hgx.out _) (gb_below hb2 _)
        have HG2 := hidden hg2
        have HW2 := hidden hW2
        have q0 := h6.cell 0
        have q1 := h6.cell 1
        have q2 := h6.cell 2
        have q3 := h6.cell 3
        have q4 := h6.cell 4
        clear h6 hb2 d0 d1 d2 d3 d4 hcr hg2 hW hWx hgx
        by_cases hv : x1 = res
        · have t1 : ((x1 != res) : Bool) = false := by simp [hv]
          obtain ⟨y0, y1, y2, y3, y4⟩ := whole_inf hW2 HY.out
          have z0 := hW2.free (i * 5)
          have z1 := hW2.free (i * 5 + 1)
          have z2 := hW2.free (i * 5 + 2)
          have z3 := hW2.free (i * 5 + 3)
          have z4 := hW2.free (i * 5 + 4)
          have hsn := HSN.out
          rw [if_pos hv] at hsn
          have HSN2 := hidden hsn
          clear hW2 hsn hv
          go_wp2_with fail

          go_roundw
          case rel =>
            have hwp := whole_put5 HW2.out hil ⟨x0, x1, x2, x3, x4⟩
            rw [HS1x.out] at hwp
            refine ⟨j + 1, sj, ?_, by go_num, by omega, ?_, hs3, ?_, ?_⟩
            · rw [HSN2.out, List.length_append, List.length_singleton, HI.out]; go_num
            · rw [HSN2.out, List.length_append, List.length_singleton, HI.out, hs2]; omega
            · rw [HSN2.out, HR.out]; exact hidden hwp
            · exact hidden (gb_put (gb_put (gb_put (gb_put (gb_put HG2.out _ _) _ _) _ _) _ _) _ _)
          case measure => simp [intOf]; omega
        · have t1 : ((x1 != res) : Bool) = true := by simp [hv]
          have hsn := HSN.out
          rw [if_neg hv] at hsn
          have HSN2 := hidden hsn
          clear hW2 hsn hv
          go_wp2_with fail
          go_roundw
          case rel =>
            refine ⟨j + 1, junk ++ [⟨x0, x1, x2, x3, x4⟩], ?_, by go_num, by omega, ?_, by simp, ?_, HG2⟩
            · rw [HSN2.out, HI.out]
            · rw [HSN2.out, List.length_append, List.length_singleton, HI.out]; omega
            · rw [HSN2.out, HR.out]
              have := HW2.out
              rw [show F ++ junk ++ (⟨x0, x1, x2, x3, x4⟩ : Inf) :: r = F ++ (junk ++ [⟨x0, x1, x2, x3, x4⟩]) ++ r from by simp] at this
              exact hidden this
          case measure => simp [intOf]; omega
      · obtain rfl : n = j := by omega
        have hd : l.drop n = [] := List.drop_eq_nil_of_le (by rw [HL.out]; exact Nat.le_refl _)
        have htk : l.take n = l := List.take_of_length_le (by rw [HL.out]; exact Nat.le_refl _)
        have hW := hWx.out
        rw [hd, List.append_nil] at hW
        rw [htk] at hW hjk ⊢
        have hpos : 0 < junk.length := List.length_pos_iff.2 hne
        obtain ⟨F, hF⟩ : ∃ F, sift res l = F := ⟨_, rfl⟩
        rw [hF] at hW hjk ⊢
        obtain ⟨i, hi⟩ : ∃ i, F.length = i := ⟨_, rfl⟩
        rw [hi] at hjk ⊢
        have hin : i < n := by omega
        have hsz : (infCells (F ++ junk) ++ rest).length = n * 5 + rest.length := by rw [List.length_append, infCells_length, List.length_append, hi, hjk]
        have hcl : ∀ ty, (Builtin.clear_ #[67] ty #[.slice (some ⟨g, i * 5, none⟩) (n - i) (c - i)]).run Try.prog wr = .ok (.tuple #[]) (wr.setCells g (i * 5) (clearCells (n - i))) := fun ty =>
          run_clear_inf wr ty g (i * 5) (n - i) (c - i) (by omega) (fun q hq => by
            rw [hW.cell, List.getElem?_toArray, List.getElem?_eq_getElem (by rw [hsz]; omega)]; rfl) (fun q hq => hW.free _)
        obtain ⟨cs', hw', hs', hp', hg'⟩ := whole_setCells g (clearCells (n - i)) (i * 5) wr _ hW
        have hres : DelRes g c (sift res l) w (wr.setCells g (i * 5) (clearCells (n - i))) (.slice (some ⟨g, 0, none⟩) i c) := by
          refine ⟨cs'.toList.drop (i * 5), by rw [hF, hi], by rw [hF, hi]; omega, ?_, gb_trans hgx.out hg'⟩
          have htake : cs'.toList.take (i * 5) = infCells F := by
            apply List.ext_getElem?
            intro q
            rw [List.getElem?_take]
            by_cases hq : q < i * 5
            · rw [if_pos hq, Array.getElem?_toList, hp' q hq, List.getElem?_toArray, List.getElem?_append_left (by rw [infCells_length, List.length_append, hi]; omega), show infCells (F ++ junk) = infCells F ++ infCells junk from List.flatMap_append .., List.getElem?_append_left (by rw [infCells_length, hi]; exact hq)]
            · rw [if_neg hq, List.getElem?_eq_none (by rw [infCells_length, hi]; omega)]
          rw [hF, ← htake, List.take_append_drop]
          exact hw'
        have HRES := hidden hres
        have hiz : (i : Int) < (n : Int) := by omega
        have hic : (i : Int) ≤ (c : Int) := by omega
        clear hres hw' hs' hp' hg' hW hWx hgx hF hi hd htk hsz
        go_wp2

        go_ret
        exact ⟨_, rfl, HRES.out⟩
end Go.Proofs.Ytohocdbneopooaa
