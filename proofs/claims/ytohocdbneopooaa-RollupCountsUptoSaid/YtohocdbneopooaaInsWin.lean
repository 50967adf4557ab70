/- almanacref21.window: one of windows put in at its place. Condition: the row is within the reach. -/
import Derived.Test.YtohocdbneopooaaOncWin
import Derived.Deep.CutBlock

namespace Go.Proofs.Ytohocdbneopooaa.InsWin
set_option maxRecDepth 100000
open Go.RowKit Go.Shelf

theorem hkk (x : Win) : x.cells.length = 6 := rfl
theorem once_has {l : List Win} (hs : l.Pairwise fun x y => x.start < y.start) {x y : Win} (hy : y ∈ l) (he : y.start = x.start) : OncWin.Once (l ++ [x]) l := by
  refine ⟨hs, fun t => ?_⟩
  rw [List.find?_append]
  cases hf : l.find? (fun z => z.start == t) with
  | some z => rfl
  | none =>
    have := List.find?_eq_none.1 hf y hy
    rw [List.find?_cons_of_neg (by simpa [he] using this)]
    rfl
theorem once_put {l : List Win} (hs : l.Pairwise fun x y => x.start < y.start) {x : Win} {k : Nat} (hlo : ∀ y ∈ l.take k, y.start < x.start) (hhi : ∀ y ∈ l.drop k, x.start < y.start) : OncWin.Once (l ++ [x]) (l.take k ++ x :: l.drop k) := by
  have hsp : l.take k ++ l.drop k = l := List.take_append_drop k l
  constructor
  · rw [← hsp, List.pairwise_append] at hs
    rw [List.pairwise_append, List.pairwise_cons]
    refine ⟨hs.1, ⟨hhi, hs.2.1⟩, fun a ha b hb => ?_⟩
    rcases List.mem_cons.1 hb with rfl | hb
    · exact hlo a ha
    · exact hs.2.2 a ha b hb
  · intro t
    have e : l ++ [x] = l.take k ++ l.drop k ++ [x] := by rw [hsp]
    rw [e, List.find?_append, List.find?_append, List.find?_append, List.find?_cons, List.find?_cons, List.find?_nil]
    by_cases ht : x.start = t
    · have h1 : (l.take k).find? (fun z => z.start == t) = none := List.find?_eq_none.2 fun z hz => by have := hlo z hz; simp; omega
      have h2 : (l.drop k).find? (fun z => z.start == t) = none := List.find?_eq_none.2 fun z hz => by have := hhi z hz; simp; omega
      rw [h1, h2]; simp [ht]
    · have h3 : (x.start == t) = false := by simpa using ht
      rw [h3]; simp

theorem dropAt {α : Type} {l : List α} {k : Nat} {x : α} (h : l[k]? = some x) : l.drop k = x :: l.drop (k + 1) := by
  obtain ⟨h1, h2⟩ := List.getElem?_eq_some_iff.1 h
  rw [List.drop_eq_getElem_cons h1, h2]
theorem below_at {l : List Win} (hs : l.Pairwise fun x y => x.start < y.start) {k : Nat} {x y : Win} (hy : l[k]? = some y) (h : y.start < x.start) : ∀ z ∈ l.take (k + 1), z.start < x.start := by
  obtain ⟨h1, h2⟩ := List.getElem?_eq_some_iff.1 hy
  intro z hz
  rw [List.take_succ_eq_append_getElem h1, h2] at hz
  rcases List.mem_append.1 hz with hz | hz
  · rw [← List.take_append_drop k l, List.pairwise_append, dropAt hy] at hs
    have := hs.2.2 z hz y (List.mem_cons_self ..)
    omega
  · rw [List.mem_singleton.1 hz]; exact h
theorem above_at {l : List Win} (hs : l.Pairwise fun x y => x.start < y.start) {k : Nat} {x : Win} (hhi : ∀ y ∈ l.drop k, x.start ≤ y.start) (hne : ∀ y, l[k]? = some y → y.start = x.start → False) : ∀ y ∈ l.drop k, x.start < y.start := by
  intro y hy
  rcases Nat.lt_or_ge k l.length with hk | hk
  · have hz : l[k]? = some l[k] := List.getElem?_eq_getElem hk
    rw [dropAt hz] at hy hhi
    have h1 := hhi _ (List.mem_cons_self ..)
    have h2 : ¬ (l[k]).start = x.start := hne _ hz
    rcases List.mem_cons.1 hy with rfl | hy
    · omega
    · rw [← List.take_append_drop k l, List.pairwise_append, dropAt hz, List.pairwise_cons] at hs
      have := hs.2.1.1 y hy
      omega
  · rw [List.drop_eq_nil_of_le hk] at hy
    cases hy
theorem flat_snoc (l : List Win) (x : Win) : (l ++ [x]).flatMap Win.cells = l.flatMap Win.cells ++ [.int .i64 x.start, .int .i64 x.count, .int .u64 ((x.sum : Nat) : Int), .int .u64 ((x.min : Nat) : Int), .int .u64 ((x.max : Nat) : Int), .int .u64 ((x.last : Nat) : Int)] := by simp [Win.cells]
theorem shift_set (l : List Win) {j : Nat} {z : Win} (hz : l[j]? = some z) (y : Win) : (l.take (j + 1) ++ y :: l.drop (j + 1)).set (j + 1) z = l.take j ++ z :: l.drop j := by
  obtain ⟨h1, h2⟩ := List.getElem?_eq_some_iff.1 hz
  rw [List.set_append_right _ _ (by rw [List.length_take]; omega), List.length_take, Nat.min_eq_left (by omega), Nat.sub_self, List.set_cons_zero, dropAt hz, List.take_succ_eq_append_getElem h1, h2, List.append_assoc]
  rfl
theorem shift_end (l : List Win) {j : Nat} (hj : j ≤ l.length) (y x : Win) : (l.take j ++ y :: l.drop j).set j x = l.take j ++ x :: l.drop j := by
  rw [List.set_append_right _ _ (by rw [List.length_take]; omega), List.length_take, Nat.min_eq_left hj, Nat.sub_self, List.set_cons_zero]
theorem own_len {w : World} {base : Nat} {e : TypeId} {size n m : Nat} {A : Option Addr} {c : Nat} {xs : List Value} (h : w.ownsRow base e size (.slice A n c) n xs) (hm : m = n) : w.ownsRow base e size (.slice A n c) m xs := by rw [hm]; exact h
/-- a block that was turned at first, or is new, turns again -/
theorem gb_join {a w w' : World} {X : Option Nat} {g : Nat} (h : a.grownBy w X) (k : w.grownBy w' (some g)) (hg : X = some g ∨ a.heap.size ≤ g) : a.grownBy w' X := by
  rcases hg with e | e
  · subst e; exact gb_trans h k
  · exact gb_far h k fun j hj => by injection hj with hj; omega
/-- what it answers -/
def InsRes (base : Nat) (v : Value) (l : List Win) (x : Win) (w : World) (e : Ending) (w' : World) : Prop :=
  ∃ v' R, e = .returned v' ∧ OncWin.Once (l ++ [x]) R ∧ w'.ownsRow base 89 6 v' R.length (R.flatMap Win.cells) ∧ w.grownBy w' v.ownBlock ∧ ∀ q, v'.ownBlock = some q → v.ownBlock = some q ∨ w.heap.size ≤ q
theorem insRes_mk {base : Nat} {v v' : Value} {l R : List Win} {x : Win} {w w' : World} (h1 : OncWin.Once (l ++ [x]) R) (h2 : w'.ownsRow base 89 6 v' R.length (R.flatMap Win.cells)) (h3 : w.grownBy w' v.ownBlock) (h4 : ∀ q, v'.ownBlock = some q → v.ownBlock = some q ∨ w.heap.size ≤ q) : InsRes base v l x w (.returned v') w' := ⟨v', R, rfl, h1, h2, h3, h4⟩

set_option maxHeartbeats 12800000 in
theorem ins_any (base n : Nat) (v : Value) (l : List Win) (x : Win) (w : World) (hown : w.ownsRow base 89 6 v n (l.flatMap Win.cells)) (hl : l.length = n) (hs : l.Pairwise fun x y => x.start < y.start) (hn : n ≤ 1099511627776) (hbase : base ≤ w.heap.size) :
    Calls Try.prog 73 #[v, .agg #[.int .i64 x.start, .int .i64 x.count, .int .u64 ((x.sum : Nat) : Int), .int .u64 ((x.min : Nat) : Int), .int .u64 ((x.max : Nat) : Int), .int .u64 ((x.last : Nat) : Int)]] w (InsRes base v l x w) := by
  obtain ⟨i0, hi, hz0, hz1, hz2⟩ := info_parts info_rwin
  obtain ⟨A, c, rfl, hnc, hr⟩ := own_shape hown
  have HO := hidden hown
  have HR := hidden hr
  have HL := hidden hl
  have HS := hidden hs
  clear hown hl hs hr
  go_enter Try.func73, Try.ntmps73
  go_upto_block 0 with (fail)
  have hX := Whole1.new w 89 #[.int .i64 x.start, .int .i64 x.count, .int .u64 ((x.sum : Nat) : Int), .int .u64 ((x.min : Nat) : Int), .int .u64 ((x.max : Nat) : Int), .int .u64 ((x.last : Nat) : Int)]
  have hbX : Below w.heap.size w (w.alloc (.cells #[.int .i64 x.start, .int .i64 x.count, .int .u64 ((x.sum : Nat) : Int), .int .u64 ((x.min : Nat) : Int), .int .u64 ((x.max : Nat) : Int), .int .u64 ((x.last : Nat) : Int)] 89)) := (Below.refl _ _).alloc (Nat.le_refl _) _
  generalize w.alloc (.cells #[.int .i64 x.start, .int .i64 x.count, .int .u64 ((x.sum : Nat) : Int), .int .u64 ((x.min : Nat) : Int), .int .u64 ((x.max : Nat) : Int), .int .u64 ((x.last : Nat) : Int)] 89) = wX at hX hbX ⊢
  obtain ⟨X, hXe⟩ : ∃ X, w.heap.size = X := ⟨_, rfl⟩
  rw [hXe] at hX ⊢
  have hXl := hX.lt
  have HOX := hidden (own_below HO.out hbX (Nat.le_refl _))
  have HBX := hidden hbX
  have HXX := hidden hX
  have HXE := hidden hXe
  clear hX hbX hXe
  go_cut [5] (fun vi wx => ∃ k : Nat, vi = .int .i64 k ∧ k ≤ n ∧ Hid (∀ y ∈ l.drop k, x.start ≤ y.start) ∧ Hid (∀ y ∈ l.take k, y.start < x.start) ∧ ∃ q, wx = wX.drewN q)
  case first =>
    go_wp2_with fail
    go_loopw [5] (fun vi wr => ∃ k : Nat, vi = .int .i64 k ∧ k ≤ n ∧ Hid (∀ y ∈ l.drop k, x.start ≤ y.start) ∧ ∃ q, wr = wX.drewN q) (fun vi _ => (intOf vi).toNat)
    case atStart => exact ⟨n, rfl, Nat.le_refl _, hidden (by rw [List.drop_of_length_le (by rw [HL.out]; exact Nat.le_refl _)]; simp), 0, rfl⟩
    case round =>
      obtain ⟨k, rfl, hk1, hhi, q, rfl⟩ := hrel
      have d0 : wX.cell? ⟨X, 0, none⟩ = some (.int .i64 x.start) := HXX.out.cell 0
      have d1 : wX.cell? ⟨X, 1, none⟩ = some (.int .i64 x.count) := HXX.out.cell 1
      have d2 : wX.cell? ⟨X, 2, none⟩ = some (.int .u64 ((x.sum : Nat) : Int)) := HXX.out.cell 2
      have d3 : wX.cell? ⟨X, 3, none⟩ = some (.int .u64 ((x.min : Nat) : Int)) := HXX.out.cell 3
      have d4 : wX.cell? ⟨X, 4, none⟩ = some (.int .u64 ((x.max : Nat) : Int)) := HXX.out.cell 4
      have d5 : wX.cell? ⟨X, 5, none⟩ = some (.int .u64 ((x.last : Nat) : Int)) := HXX.out.cell 5
      by_cases hk0 : 0 < k
      · obtain ⟨k', rfl⟩ : ∃ k', k = k' + 1 := ⟨k - 1, by omega⟩
        obtain ⟨y, hy⟩ : ∃ y, l[k']? = some y := ⟨_, List.getElem?_eq_getElem (by have := HL.out; omega)⟩
        obtain ⟨g, o, y', hA, hg, hy', hc⟩ := row_at (enc := Win.cells) hkk (Row.of_own HOX.out) HL.out k' (by omega)
        obtain rfl : y' = y := Option.some.inj (hy'.symm.trans hy)
        subst hA
        have e0 : wX.cell? ⟨g, o + k' * 6, none⟩ = some (.int .i64 y'.start) := hc 0 (by omega)
        have b1 : IntKind.i64.wrap (((k' + 1 : Nat) : Int) - 1) = (k' : Int) := by rw [IntKind.wrap_i64]; omega
        have b2 : (k' : Int) < (n : Int) := by omega
        have b3 : (0 : Int) ≤ (k' : Int) := by omega
        have b4 : (0 : Int) < ((k' + 1 : Nat) : Int) := by omega
        have b5 : k' < n := by omega
        have HY := hidden hy
        clear hy hy' hc
        by_cases hge : x.start ≤ y'.start
        · go_wp2_with fail
          go_quiet (fail)
          go_wp2_with fail
          go_roundw
          case rel =>
            refine ⟨k', by go_num, by omega, hidden ?_, by first | exact ⟨_, rfl⟩ | (simp only [World.drewN_drewN]; exact ⟨_, rfl⟩)⟩
            intro z hz
            rw [dropAt HY.out] at hz
            rcases List.mem_cons.1 hz with rfl | hz
            · exact hge
            · exact hhi.out z hz
          case measure => simp [intOf]
        · have hlo := hidden (below_at HS.out HY.out (by omega) : ∀ y ∈ l.take (k' + 1), y.start < x.start)
          go_wp2_with fail
          go_quiet (fail)
          go_wp2_with fail
          go_meet
          exact ⟨k' + 1, rfl, by omega, hhi, hlo, by first | exact ⟨_, rfl⟩ | (simp only [World.drewN_drewN]; exact ⟨_, rfl⟩)⟩
      · have hk0' : k = 0 := by omega
        have hlo : Hid (∀ y ∈ l.take k, y.start < x.start) := hidden (by rw [hk0']; simp)
        have b1 : ¬ (0 : Int) < (k : Int) := by omega
        clear hk0'
        go_wp2_with fail
        go_quiet (fail)
        go_wp2_with fail
        go_meet
        exact ⟨k, rfl, by omega, hhi, hlo, by first | exact ⟨_, rfl⟩ | (simp only [World.drewN_drewN]; exact ⟨_, rfl⟩)⟩
  case rest =>
    obtain ⟨k, rfl, hkn, hhi, hlo, q, rfl⟩ := hcut
    obtain ⟨hit, hh⟩ : ∃ hit : Bool, (hit = true ↔ ∃ y, l[k]? = some y ∧ y.start = x.start) := by
      by_cases h : ∃ y, l[k]? = some y ∧ y.start = x.start
      · exact ⟨true, fun _ => h, fun _ => rfl⟩
      · exact ⟨false, fun e => (by cases e), fun h' => absurd h' h⟩
    have HH := hidden hh
    clear hh
    go_upto_region 4 with (fail)
    go_cut [37] (fun b wx => b = .bool hit ∧ ∃ q, wx = wX.drewN q)
    case first =>
      have d0 : wX.cell? ⟨X, 0, none⟩ = some (.int .i64 x.start) := HXX.out.cell 0
      have d1 : wX.cell? ⟨X, 1, none⟩ = some (.int .i64 x.count) := HXX.out.cell 1
      have d2 : wX.cell? ⟨X, 2, none⟩ = some (.int .u64 ((x.sum : Nat) : Int)) := HXX.out.cell 2
      have d3 : wX.cell? ⟨X, 3, none⟩ = some (.int .u64 ((x.min : Nat) : Int)) := HXX.out.cell 3
      have d4 : wX.cell? ⟨X, 4, none⟩ = some (.int .u64 ((x.max : Nat) : Int)) := HXX.out.cell 4
      have d5 : wX.cell? ⟨X, 5, none⟩ = some (.int .u64 ((x.last : Nat) : Int)) := HXX.out.cell 5
      by_cases hlt : k < n
      · obtain ⟨g, o, y, hA, hg, hy, hc⟩ := row_at (enc := Win.cells) hkk (Row.of_own HOX.out) HL.out k hlt
        subst hA
        have e0 : wX.cell? ⟨g, o + k * 6, none⟩ = some (.int .i64 y.start) := hc 0 (by omega)
        have b2 : (k : Int) < (n : Int) := by omega
        have b3 : (0 : Int) ≤ (k : Int) := by omega
        have HY := hidden hy
        clear hy hc
        by_cases he : y.start = x.start
        · obtain rfl : hit = true := HH.out.2 ⟨y, HY.out, he⟩
          rw [he] at e0
          clear he
          go_quiet (fail)
          go_wp2_with fail
          go_meet
          exact ⟨rfl, by first | exact ⟨_, rfl⟩ | (simp only [World.drewN_drewN]; exact ⟨_, rfl⟩)⟩
        · obtain rfl : hit = false := by
            cases hit with
            | false => rfl
            | true =>
              obtain ⟨z, hz, hze⟩ := HH.out.1 rfl
              have := Option.some.inj (HY.out.symm.trans hz)
              rw [← this] at hze
              exact absurd hze he
          have hb : (y.start == x.start) = false := by simpa using he
          go_quiet (fail)
          go_wp2_with fail
          go_meet
          exact ⟨rfl, by first | exact ⟨_, rfl⟩ | (simp only [World.drewN_drewN]; exact ⟨_, rfl⟩)⟩
      · obtain rfl : hit = false := by
          cases hit with
          | false => rfl
          | true =>
            obtain ⟨z, hz, _⟩ := HH.out.1 rfl
            have := (List.getElem?_eq_some_iff.1 hz).1
            have := HL.out
            omega
        have b2 : ¬ (k : Int) < (n : Int) := by omega
        go_quiet (fail)
        go_wp2_with fail
        go_meet
        exact ⟨rfl, by first | exact ⟨_, rfl⟩ | (simp only [World.drewN_drewN]; exact ⟨_, rfl⟩)⟩
    case rest =>
      obtain ⟨rfl, q2, rfl⟩ := hcut
      cases hit with
      | true =>
        obtain ⟨y, hy, he⟩ := HH.out.1 rfl
        have HON := hidden (once_has HS.out (List.mem_of_getElem? hy) he)
        have HGB := hidden (gb_drewN (gb_below HBX.out (Value.slice A n c).ownBlock) q2)
        have HOW : Hid ((wX.drewN q2).ownsRow base 89 6 (.slice A n c) l.length (l.flatMap Win.cells)) := hidden (by rw [HL.out]; exact own_drewN HOX.out q2)
        clear hy he
        go_wp2_with fail
        go_ret
        exact insRes_mk HON.out HOW.out HGB.out (fun q hq => .inl hq)
      | false =>
        have hXc := (HXX.out.drewN q2)
        have d0 : (wX.drewN q2).cell? ⟨X, 0, none⟩ = some (.int .i64 x.start) := hXc.cell 0
        have d1 : (wX.drewN q2).cell? ⟨X, 1, none⟩ = some (.int .i64 x.count) := hXc.cell 1
        have d2 : (wX.drewN q2).cell? ⟨X, 2, none⟩ = some (.int .u64 ((x.sum : Nat) : Int)) := hXc.cell 2
        have d3 : (wX.drewN q2).cell? ⟨X, 3, none⟩ = some (.int .u64 ((x.min : Nat) : Int)) := hXc.cell 3
        have d4 : (wX.drewN q2).cell? ⟨X, 4, none⟩ = some (.int .u64 ((x.max : Nat) : Int)) := hXc.cell 4
        have d5 : (wX.drewN q2).cell? ⟨X, 5, none⟩ = some (.int .u64 ((x.last : Nat) : Int)) := hXc.cell 5
        have hon := hidden (once_put HS.out hlo.out (above_at HS.out hhi.out fun y hy he => by have := HH.out.2 ⟨y, hy, he⟩; cases this) : OncWin.Once (l ++ [x]) (l.take k ++ x :: l.drop k))
        have hfr := Row.fresh (wX.drewN q2) 89 6 1 [.int .i64 x.start, .int .i64 x.count, .int .u64 ((x.sum : Nat) : Int), .int .u64 ((x.min : Nat) : Int), .int .u64 ((x.max : Nat) : Int), .int .u64 ((x.last : Nat) : Int)] rfl
        have how := own_drewN HOX.out q2
        have hsX := HBX.out.size
        clear HH hhi hlo
        go_wp2_with (at_builtin; refine wpList_app _ rfl _ _ 83 rfl base 89 i0 _ 6 48 Try.underlying83 hi hz0 hz1 hz2 rfl (by decide) _ _ _ rfl (how.alloc _) _ _ _ _ _ rfl hfr (winCells_one [x]) (by unfold maxLen; omega) (by omega) (by simp; omega) ?_; intro v9 w9 hown9 hg9 hat9; obtain ⟨A9, c9, rfl, hc9, hr9⟩ := own_shape hown9)
        -- the row as a block
        rw [← flat_snoc] at hown9
        obtain ⟨g9, cap9, rest9, hv9, hgb9, hW9, hnc9, hcap9, hm9, hm92⟩ := own_whole_g hkk hown9 (by omega)
        injection hv9 with hv91 hv92 hv93
        subst hv91
        subst hv93
        clear hv92
        have hX9 : Whole1 w9 X 89 #[.int .i64 x.start, .int .i64 x.count, .int .u64 ((x.sum : Nat) : Int), .int .u64 ((x.min : Nat) : Int), .int .u64 ((x.max : Nat) : Int), .int .u64 ((x.last : Nat) : Int)] := (hXc.alloc _).grown hg9 (by
          intro e
          have := (HO.out.lt X e.symm).2
          have := HXE.out
          omega)
        have hXg : X ≠ g9 := by
          intro e
          rcases hat9 with h | h
          · have := (HO.out.lt g9 (h.symm.trans rfl)).2
            have := HXE.out
            omega
          · injection (show some g9 = _ from h) with h
            have e9 : (wX.drewN q2).heap.size = wX.heap.size := rfl
            simp only [World.size_alloc] at h
            omega
        have HG9 : Hid (w.grownBy w9 (Value.slice A n c).ownBlock) := hidden (gb_trans (gb_alloc (gb_drewN (gb_below HBX.out _) q2) _) hg9)
        have HQ9 : Hid (∀ q, (Value.slice (some (⟨g9, 0, none⟩ : Addr)) (n + 1) c9).ownBlock = some q → (Value.slice A n c).ownBlock = some q ∨ w.heap.size ≤ q) := hidden (fun q hq => by
          rcases hat9 with h | h
          · exact .inl (h.symm.trans hq)
          · have h := h.symm.trans hq
            injection h with h
            refine .inr ?_
            have := HXE.out
            have e9 : (wX.drewN q2).heap.size = wX.heap.size := rfl
            simp only [World.size_alloc] at h
            omega)
        have HW9 := hidden hW9
        have HX9 := hidden hX9
        have HM9 := hidden hm92
        clear hown9 hg9 hat9 hW9 hX9 hfr how hXc hr9 hm9 hm92 d0 d1 d2 d3 d4 d5
        go_wp2_with fail
        go_loopw [6] (fun vi wr => ∃ (j : Nat) (y : Win), vi = .int .i64 j ∧ k ≤ j ∧ j ≤ n ∧ Hid (Whole1 wr g9 89 ((l.take j ++ y :: l.drop j).flatMap Win.cells ++ rest9).toArray) ∧ Hid (w9.grownBy wr (some g9))) (fun vi _ => (intOf vi).toNat)
        case atStart => exact ⟨n, x, rfl, hkn, Nat.le_refl _, hidden (by rw [List.take_of_length_le (by rw [HL.out]; exact Nat.le_refl _), List.drop_of_length_le (by rw [HL.out]; exact Nat.le_refl _)]; exact HW9.out), hidden (gb_refl _ _)⟩
        case round =>
          obtain ⟨j, y, rfl, hkj, hjn, hWj, hgj⟩ := hrel
          have hlj : (l.take j ++ y :: l.drop j).length = n + 1 := by rw [List.length_append, List.length_cons, List.length_take, List.length_drop, HL.out]; omega
          have hyj : (l.take j ++ y :: l.drop j)[j]? = some y := by rw [List.getElem?_append_right (by rw [List.length_take]; omega), List.length_take, HL.out, Nat.min_eq_left hjn, Nat.sub_self]; rfl
          by_cases hlt : k < j
          · obtain ⟨j', rfl⟩ : ∃ j', j = j' + 1 := ⟨j - 1, by omega⟩
            obtain ⟨z, hz⟩ : ∃ z, l[j']? = some z := ⟨_, List.getElem?_eq_getElem (by have := HL.out; omega)⟩
            have hzj : (l.take (j' + 1) ++ y :: l.drop (j' + 1))[j']? = some z := by
              rw [List.getElem?_append_left (by rw [List.length_take, HL.out]; omega), List.getElem?_take, if_pos (by omega)]; exact hz
            have HSET := hidden (shift_set l hz y)
            have d0 : wr.cell? ⟨g9, j' * 6, none⟩ = some (.int .i64 z.start) := whole_at hkk hWj.out hzj 0 (by omega)
            have d1 : wr.cell? ⟨g9, j' * 6 + 1, none⟩ = some (.int .i64 z.count) := whole_at hkk hWj.out hzj 1 (by omega)
            have d2 : wr.cell? ⟨g9, j' * 6 + 2, none⟩ = some (.int .u64 ((z.sum : Nat) : Int)) := whole_at hkk hWj.out hzj 2 (by omega)
            have d3 : wr.cell? ⟨g9, j' * 6 + 3, none⟩ = some (.int .u64 ((z.min : Nat) : Int)) := whole_at hkk hWj.out hzj 3 (by omega)
            have d4 : wr.cell? ⟨g9, j' * 6 + 4, none⟩ = some (.int .u64 ((z.max : Nat) : Int)) := whole_at hkk hWj.out hzj 4 (by omega)
            have d5 : wr.cell? ⟨g9, j' * 6 + 5, none⟩ = some (.int .u64 ((z.last : Nat) : Int)) := whole_at hkk hWj.out hzj 5 (by omega)
            have yy0 : wr.cell? ⟨g9, (j' + 1) * 6, none⟩ = some (.int .i64 y.start) := whole_at hkk hWj.out hyj 0 (by omega)
            have yy1 : wr.cell? ⟨g9, (j' + 1) * 6 + 1, none⟩ = some (.int .i64 y.count) := whole_at hkk hWj.out hyj 1 (by omega)
            have yy2 : wr.cell? ⟨g9, (j' + 1) * 6 + 2, none⟩ = some (.int .u64 ((y.sum : Nat) : Int)) := whole_at hkk hWj.out hyj 2 (by omega)
            have yy3 : wr.cell? ⟨g9, (j' + 1) * 6 + 3, none⟩ = some (.int .u64 ((y.min : Nat) : Int)) := whole_at hkk hWj.out hyj 3 (by omega)
            have yy4 : wr.cell? ⟨g9, (j' + 1) * 6 + 4, none⟩ = some (.int .u64 ((y.max : Nat) : Int)) := whole_at hkk hWj.out hyj 4 (by omega)
            have yy5 : wr.cell? ⟨g9, (j' + 1) * 6 + 5, none⟩ = some (.int .u64 ((y.last : Nat) : Int)) := whole_at hkk hWj.out hyj 5 (by omega)
            have zz0 := hWj.out.free ((j' + 1) * 6)
            have zz1 := hWj.out.free ((j' + 1) * 6 + 1)
            have zz2 := hWj.out.free ((j' + 1) * 6 + 2)
            have zz3 := hWj.out.free ((j' + 1) * 6 + 3)
            have zz4 := hWj.out.free ((j' + 1) * 6 + 4)
            have zz5 := hWj.out.free ((j' + 1) * 6 + 5)
            have b1 : IntKind.i64.wrap (((j' + 1 : Nat) : Int) - 1) = (j' : Int) := by rw [IntKind.wrap_i64]; omega
            have b2 : (j' : Int) < ((n + 1 : Nat) : Int) := by omega
            have b3 : (0 : Int) ≤ (j' : Int) := by omega
            have b4 : ((j' + 1 : Nat) : Int) < ((n + 1 : Nat) : Int) := by omega
            have b5 : j' < n + 1 := by omega
            have b6 : j' + 1 < n + 1 := by omega
            have b7 : (k : Int) < ((j' + 1 : Nat) : Int) := by omega
            have HLJ := hidden hlj
            clear hz hzj hyj hlj
            go_wp2_with fail
            go_roundw
            case rel =>
              have hwp := puts_elem hkk hWj.out (i := j' + 1) (by have := HLJ.out; omega) z
              rw [HSET.out] at hwp
              exact ⟨j', z, by go_num, by omega, by omega, hidden hwp, hidden (gb_trans hgj.out (puts_gb z.cells ((j' + 1) * 6) wr))⟩
            case measure => simp [intOf]
          · obtain rfl : k = j := by omega
            have hXj := HX9.out.grown hgj.out (fun e => hXg (by injection e))
            have hXc2 := hXj
            have d0 : wr.cell? ⟨X, 0, none⟩ = some (.int .i64 x.start) := hXc2.cell 0
            have d1 : wr.cell? ⟨X, 1, none⟩ = some (.int .i64 x.count) := hXc2.cell 1
            have d2 : wr.cell? ⟨X, 2, none⟩ = some (.int .u64 ((x.sum : Nat) : Int)) := hXc2.cell 2
            have d3 : wr.cell? ⟨X, 3, none⟩ = some (.int .u64 ((x.min : Nat) : Int)) := hXc2.cell 3
            have d4 : wr.cell? ⟨X, 4, none⟩ = some (.int .u64 ((x.max : Nat) : Int)) := hXc2.cell 4
            have d5 : wr.cell? ⟨X, 5, none⟩ = some (.int .u64 ((x.last : Nat) : Int)) := hXc2.cell 5
            have yy0 : wr.cell? ⟨g9, k * 6, none⟩ = some (.int .i64 y.start) := whole_at hkk hWj.out hyj 0 (by omega)
            have yy1 : wr.cell? ⟨g9, k * 6 + 1, none⟩ = some (.int .i64 y.count) := whole_at hkk hWj.out hyj 1 (by omega)
            have yy2 : wr.cell? ⟨g9, k * 6 + 2, none⟩ = some (.int .u64 ((y.sum : Nat) : Int)) := whole_at hkk hWj.out hyj 2 (by omega)
            have yy3 : wr.cell? ⟨g9, k * 6 + 3, none⟩ = some (.int .u64 ((y.min : Nat) : Int)) := whole_at hkk hWj.out hyj 3 (by omega)
            have yy4 : wr.cell? ⟨g9, k * 6 + 4, none⟩ = some (.int .u64 ((y.max : Nat) : Int)) := whole_at hkk hWj.out hyj 4 (by omega)
            have yy5 : wr.cell? ⟨g9, k * 6 + 5, none⟩ = some (.int .u64 ((y.last : Nat) : Int)) := whole_at hkk hWj.out hyj 5 (by omega)
            have zz0 := hWj.out.free (k * 6)
            have zz1 := hWj.out.free (k * 6 + 1)
            have zz2 := hWj.out.free (k * 6 + 2)
            have zz3 := hWj.out.free (k * 6 + 3)
            have zz4 := hWj.out.free (k * 6 + 4)
            have zz5 := hWj.out.free (k * 6 + 5)
            have b3 : (0 : Int) ≤ (k : Int) := by omega
            have b4 : (k : Int) < ((n + 1 : Nat) : Int) := by omega
            have b5 : k < n + 1 := by omega
            have HLJ := hidden hlj
            clear hyj hlj hXj hXc2
            go_wp2_with fail
            go_ret
            have hwp := puts_elem hkk hWj.out (i := k) (by have := HLJ.out; omega) x
            rw [shift_end l (by have := HL.out; omega) y x] at hwp
            have hlen : (l.take k ++ x :: l.drop k).length = n + 1 := by rw [List.length_append, List.length_cons, List.length_take, List.length_drop, HL.out]; omega
            refine insRes_mk hon.out (own_len (own_of_whole_g hkk hgb9 hwp hnc9 hcap9 hlen ?_) hlen) ?_ HQ9.out
            · have := HM9.out
              rw [List.length_append, fm_len hkk, List.length_append, List.length_singleton, HL.out] at this
              rw [List.length_append, fm_len hkk, hlen]
              exact this
            · refine gb_join HG9.out (gb_trans hgj.out (puts_gb x.cells (k * 6) wr)) (HQ9.out g9 rfl)
end Go.Proofs.Ytohocdbneopooaa.InsWin
