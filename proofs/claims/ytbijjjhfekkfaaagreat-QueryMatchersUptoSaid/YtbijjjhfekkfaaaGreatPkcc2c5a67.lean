/- merge.once at windows: what it leaves. Condition: the row is within the reach. -/
import Derived.Test.YtbijjjhfekkfaaaGreatPkd416137f
import Derived.Test.YtbijjjhfekkfaaaGreatPke3e469ae
import Derived.Test.YtbijjjhfekkfaaaGreatBase
import Derived.Test.YtbijjjhfekkfaaaGreatPkeab15ca0
namespace Go.Proofs.YtbijjjhfekkfaaaGreat.OncWin
set_option maxRecDepth 100000
open Go.RowKit Go.Shelf

theorem time_any (x : Win) (w : World) : Calls Tryz.prog 73 #[.agg #[.int .i64 x.start, .int .i64 x.count, .int .u64 ((x.sum : Nat) : Int), .int .u64 ((x.min : Nat) : Int), .int .u64 ((x.max : Nat) : Int), .int .u64 ((x.last : Nat) : Int)]] w fun e w' => e = .returned (.int .i64 x.start) ∧ Gr w w' := by
  go_enter Tryz.func73, Tryz.ntmps73
  go_wp2
  go_ret
  exact ⟨rfl, (Gr.refl _).alloc _⟩

set_option maxHeartbeats 1600000 in
theorem ord_any (x y : Win) (B : Nat) (w : World) (hB : w.cell? ⟨B, 0, none⟩ = some (.func (.func 73) #[] #[])) :
    Calls Tryz.prog 148 #[.agg #[.int .i64 x.start, .int .i64 x.count, .int .u64 ((x.sum : Nat) : Int), .int .u64 ((x.min : Nat) : Int), .int .u64 ((x.max : Nat) : Int), .int .u64 ((x.last : Nat) : Int)], .agg #[.int .i64 y.start, .int .i64 y.count, .int .u64 ((y.sum : Nat) : Int), .int .u64 ((y.min : Nat) : Int), .int .u64 ((y.max : Nat) : Int), .int .u64 ((y.last : Nat) : Int)], .pointer (some ⟨B, 0, none⟩)] w fun e w' => e = .returned (.int .i64 (cmpZ x.start y.start)) ∧ Gr w w' := by
  have hlt : B < w.heap.size := World.block_lt_of_cell? w _ hB
  go_enter Tryz.func148, Tryz.ntmps148
  go_wp2_with fail
  have hX := (Whole1.new w 159 #[.int .i64 x.start, .int .i64 x.count, .int .u64 ((x.sum : Nat) : Int), .int .u64 ((x.min : Nat) : Int), .int .u64 ((x.max : Nat) : Int), .int .u64 ((x.last : Nat) : Int)]).alloc (.cells #[.int .i64 y.start, .int .i64 y.count, .int .u64 ((y.sum : Nat) : Int), .int .u64 ((y.min : Nat) : Int), .int .u64 ((y.max : Nat) : Int), .int .u64 ((y.last : Nat) : Int)] 159)
  have hY := Whole1.new (w.alloc (.cells #[.int .i64 x.start, .int .i64 x.count, .int .u64 ((x.sum : Nat) : Int), .int .u64 ((x.min : Nat) : Int), .int .u64 ((x.max : Nat) : Int), .int .u64 ((x.last : Nat) : Int)] 159)) 159 #[.int .i64 y.start, .int .i64 y.count, .int .u64 ((y.sum : Nat) : Int), .int .u64 ((y.min : Nat) : Int), .int .u64 ((y.max : Nat) : Int), .int .u64 ((y.last : Nat) : Int)]
  rw [World.size_alloc] at hY
  have hG : Gr w ((w.alloc (.cells #[.int .i64 x.start, .int .i64 x.count, .int .u64 ((x.sum : Nat) : Int), .int .u64 ((x.min : Nat) : Int), .int .u64 ((x.max : Nat) : Int), .int .u64 ((x.last : Nat) : Int)] 159)).alloc (.cells #[.int .i64 y.start, .int .i64 y.count, .int .u64 ((y.sum : Nat) : Int), .int .u64 ((y.min : Nat) : Int), .int .u64 ((y.max : Nat) : Int), .int .u64 ((y.last : Nat) : Int)] 159)) := ((Gr.refl _).alloc _).alloc _
  have hB2 := (hG.below.cell (p := ⟨B, 0, none⟩) hlt).trans hB
  have hs2 := hG.below.size
  generalize (w.alloc (.cells #[.int .i64 x.start, .int .i64 x.count, .int .u64 ((x.sum : Nat) : Int), .int .u64 ((x.min : Nat) : Int), .int .u64 ((x.max : Nat) : Int), .int .u64 ((x.last : Nat) : Int)] 159)).alloc (.cells #[.int .i64 y.start, .int .i64 y.count, .int .u64 ((y.sum : Nat) : Int), .int .u64 ((y.min : Nat) : Int), .int .u64 ((y.max : Nat) : Int), .int .u64 ((y.last : Nat) : Int)] 159) = w2 at hX hY hG hB2 hs2 ⊢
  obtain ⟨X, hXe⟩ : ∃ X, w.heap.size = X := ⟨_, rfl⟩
  rw [hXe] at hX hY hlt hs2 ⊢
  have d0 : w2.cell? ⟨X, 0, none⟩ = some (.int .i64 x.start) := hX.cell 0
  have d1 : w2.cell? ⟨X, 1, none⟩ = some (.int .i64 x.count) := hX.cell 1
  have d2 : w2.cell? ⟨X, 2, none⟩ = some (.int .u64 ((x.sum : Nat) : Int)) := hX.cell 2
  have d3 : w2.cell? ⟨X, 3, none⟩ = some (.int .u64 ((x.min : Nat) : Int)) := hX.cell 3
  have d4 : w2.cell? ⟨X, 4, none⟩ = some (.int .u64 ((x.max : Nat) : Int)) := hX.cell 4
  have d5 : w2.cell? ⟨X, 5, none⟩ = some (.int .u64 ((x.last : Nat) : Int)) := hX.cell 5
  have e0 : w2.cell? ⟨X + 1, 0, none⟩ = some (.int .i64 y.start) := hY.cell 0
  have e1 : w2.cell? ⟨X + 1, 1, none⟩ = some (.int .i64 y.count) := hY.cell 1
  have e2 : w2.cell? ⟨X + 1, 2, none⟩ = some (.int .u64 ((y.sum : Nat) : Int)) := hY.cell 2
  have e3 : w2.cell? ⟨X + 1, 3, none⟩ = some (.int .u64 ((y.min : Nat) : Int)) := hY.cell 3
  have e4 : w2.cell? ⟨X + 1, 4, none⟩ = some (.int .u64 ((y.max : Nat) : Int)) := hY.cell 4
  have e5 : w2.cell? ⟨X + 1, 5, none⟩ = some (.int .u64 ((y.last : Nat) : Int)) := hY.cell 5
  have hXl := hX.lt
  have hYl := hY.lt
  have r0 := cell_grown hXl d0
  have r1 := cell_grown hXl d1
  have r2 := cell_grown hXl d2
  have r3 := cell_grown hXl d3
  have r4 := cell_grown hXl d4
  have r5 := cell_grown hXl d5
  have s0 := cell_grown hYl e0
  have s1 := cell_grown hYl e1
  have s2 := cell_grown hYl e2
  have s3 := cell_grown hYl e3
  have s4 := cell_grown hYl e4
  have s5 := cell_grown hYl e5
  have k0 := cell_grown (a := ⟨B, 0, none⟩) (show B < w2.heap.size by omega) hB2
  have hm : Tryz.prog.follows .mixedOrders = true := by kernel_rfl
  have HG := hidden hG
  have S1 : Hid (∀ n os, Calls Tryz.prog 73 #[.agg #[.int .i64 x.start, .int .i64 x.count, .int .u64 ((x.sum : Nat) : Int), .int .u64 ((x.min : Nat) : Int), .int .u64 ((x.max : Nat) : Int), .int .u64 ((x.last : Nat) : Int)]] (Sort.grow (w2.drewN n) os) fun e w'' => e = .returned (.int .i64 x.start) ∧ ∃ p : GrownBy, w'' = Sort.grow (w2.drewN p.n) p.os) := hidden fun n os => Calls.grown_of (time_any x _)
  have S2 : Hid (∀ n os, Calls Tryz.prog 73 #[.agg #[.int .i64 y.start, .int .i64 y.count, .int .u64 ((y.sum : Nat) : Int), .int .u64 ((y.min : Nat) : Int), .int .u64 ((y.max : Nat) : Int), .int .u64 ((y.last : Nat) : Int)]] (Sort.grow (w2.drewN n) os) fun e w'' => e = .returned (.int .i64 y.start) ∧ ∃ p : GrownBy, w'' = Sort.grow (w2.drewN p.n) p.os) := hidden fun n os => Calls.grown_of (time_any y _)
  have S3 : Hid (∀ n os, Calls Tryz.prog 144 #[.int .i64 x.start, .int .i64 y.start] (Sort.grow (w2.drewN n) os) fun e w'' => e = .returned (.int .i64 (cmpZ x.start y.start)) ∧ ∃ p : GrownBy, w'' = Sort.grow (w2.drewN p.n) p.os) := hidden fun n os => Calls.grown_of ((cmp64_z _ _ _).mono fun e w' ⟨he, hw⟩ => ⟨he, by rw [hw]; exact Gr.refl _⟩)
  clear hX hY hB2 hXe hG hB d0 d1 d2 d3 d4 d5 e0 e1 e2 e3 e4 e5
  refine wp_region_quiet_grown (by assumption) (by kernel_rfl) ?_
  repeat (first | go_big_quiet_step (first | exact S1.out _ _ | exact S2.out _ _ | exact S3.out _ _) | quiet_step (first | exact S1.out _ _ | exact S2.out _ _ | exact S3.out _ _))
  refine wpQuiet_nil ?_
  intro _ hw'
  obtain ⟨pq, hw''⟩ := hw'
  subst hw''
  have hG3 := HG.out.trans (Gr.of_grown w2 pq)
  clear S1 S2 S3
  go_wp2_with fail
  go_ret
  exact ⟨rfl, hG3⟩

set_option maxHeartbeats 1600000 in
theorem eq_any (x y : Win) (B : Nat) (w : World) (hB : w.cell? ⟨B, 0, none⟩ = some (.func (.func 73) #[] #[])) :
    Calls Tryz.prog 150 #[.agg #[.int .i64 x.start, .int .i64 x.count, .int .u64 ((x.sum : Nat) : Int), .int .u64 ((x.min : Nat) : Int), .int .u64 ((x.max : Nat) : Int), .int .u64 ((x.last : Nat) : Int)], .agg #[.int .i64 y.start, .int .i64 y.count, .int .u64 ((y.sum : Nat) : Int), .int .u64 ((y.min : Nat) : Int), .int .u64 ((y.max : Nat) : Int), .int .u64 ((y.last : Nat) : Int)], .pointer (some ⟨B, 0, none⟩)] w fun e w' => e = .returned (.bool (x.start == y.start)) ∧ Gr w w' := by
  have hlt : B < w.heap.size := World.block_lt_of_cell? w _ hB
  go_enter Tryz.func150, Tryz.ntmps150
  go_wp2_with fail
  have hX := (Whole1.new w 159 #[.int .i64 x.start, .int .i64 x.count, .int .u64 ((x.sum : Nat) : Int), .int .u64 ((x.min : Nat) : Int), .int .u64 ((x.max : Nat) : Int), .int .u64 ((x.last : Nat) : Int)]).alloc (.cells #[.int .i64 y.start, .int .i64 y.count, .int .u64 ((y.sum : Nat) : Int), .int .u64 ((y.min : Nat) : Int), .int .u64 ((y.max : Nat) : Int), .int .u64 ((y.last : Nat) : Int)] 159)
  have hY := Whole1.new (w.alloc (.cells #[.int .i64 x.start, .int .i64 x.count, .int .u64 ((x.sum : Nat) : Int), .int .u64 ((x.min : Nat) : Int), .int .u64 ((x.max : Nat) : Int), .int .u64 ((x.last : Nat) : Int)] 159)) 159 #[.int .i64 y.start, .int .i64 y.count, .int .u64 ((y.sum : Nat) : Int), .int .u64 ((y.min : Nat) : Int), .int .u64 ((y.max : Nat) : Int), .int .u64 ((y.last : Nat) : Int)]
  rw [World.size_alloc] at hY
  have hG : Gr w ((w.alloc (.cells #[.int .i64 x.start, .int .i64 x.count, .int .u64 ((x.sum : Nat) : Int), .int .u64 ((x.min : Nat) : Int), .int .u64 ((x.max : Nat) : Int), .int .u64 ((x.last : Nat) : Int)] 159)).alloc (.cells #[.int .i64 y.start, .int .i64 y.count, .int .u64 ((y.sum : Nat) : Int), .int .u64 ((y.min : Nat) : Int), .int .u64 ((y.max : Nat) : Int), .int .u64 ((y.last : Nat) : Int)] 159)) := ((Gr.refl _).alloc _).alloc _
  have hB2 := (hG.below.cell (p := ⟨B, 0, none⟩) hlt).trans hB
  have hs2 := hG.below.size
  generalize (w.alloc (.cells #[.int .i64 x.start, .int .i64 x.count, .int .u64 ((x.sum : Nat) : Int), .int .u64 ((x.min : Nat) : Int), .int .u64 ((x.max : Nat) : Int), .int .u64 ((x.last : Nat) : Int)] 159)).alloc (.cells #[.int .i64 y.start, .int .i64 y.count, .int .u64 ((y.sum : Nat) : Int), .int .u64 ((y.min : Nat) : Int), .int .u64 ((y.max : Nat) : Int), .int .u64 ((y.last : Nat) : Int)] 159) = w2 at hX hY hG hB2 hs2 ⊢
  obtain ⟨X, hXe⟩ : ∃ X, w.heap.size = X := ⟨_, rfl⟩
  rw [hXe] at hX hY hlt hs2 ⊢
  have d0 : w2.cell? ⟨X, 0, none⟩ = some (.int .i64 x.start) := hX.cell 0
  have d1 : w2.cell? ⟨X, 1, none⟩ = some (.int .i64 x.count) := hX.cell 1
  have d2 : w2.cell? ⟨X, 2, none⟩ = some (.int .u64 ((x.sum : Nat) : Int)) := hX.cell 2
  have d3 : w2.cell? ⟨X, 3, none⟩ = some (.int .u64 ((x.min : Nat) : Int)) := hX.cell 3
  have d4 : w2.cell? ⟨X, 4, none⟩ = some (.int .u64 ((x.max : Nat) : Int)) := hX.cell 4
  have d5 : w2.cell? ⟨X, 5, none⟩ = some (.int .u64 ((x.last : Nat) : Int)) := hX.cell 5
  have e0 : w2.cell? ⟨X + 1, 0, none⟩ = some (.int .i64 y.start) := hY.cell 0
  have e1 : w2.cell? ⟨X + 1, 1, none⟩ = some (.int .i64 y.count) := hY.cell 1
  have e2 : w2.cell? ⟨X + 1, 2, none⟩ = some (.int .u64 ((y.sum : Nat) : Int)) := hY.cell 2
  have e3 : w2.cell? ⟨X + 1, 3, none⟩ = some (.int .u64 ((y.min : Nat) : Int)) := hY.cell 3
  have e4 : w2.cell? ⟨X + 1, 4, none⟩ = some (.int .u64 ((y.max : Nat) : Int)) := hY.cell 4
  have e5 : w2.cell? ⟨X + 1, 5, none⟩ = some (.int .u64 ((y.last : Nat) : Int)) := hY.cell 5
  have hXl := hX.lt
  have hYl := hY.lt
  have r0 := cell_grown hXl d0
  have r1 := cell_grown hXl d1
  have r2 := cell_grown hXl d2
  have r3 := cell_grown hXl d3
  have r4 := cell_grown hXl d4
  have r5 := cell_grown hXl d5
  have s0 := cell_grown hYl e0
  have s1 := cell_grown hYl e1
  have s2 := cell_grown hYl e2
  have s3 := cell_grown hYl e3
  have s4 := cell_grown hYl e4
  have s5 := cell_grown hYl e5
  have k0 := cell_grown (a := ⟨B, 0, none⟩) (show B < w2.heap.size by omega) hB2
  have hm : Tryz.prog.follows .mixedOrders = true := by kernel_rfl
  have HG := hidden hG
  have S1 : Hid (∀ n os, Calls Tryz.prog 73 #[.agg #[.int .i64 x.start, .int .i64 x.count, .int .u64 ((x.sum : Nat) : Int), .int .u64 ((x.min : Nat) : Int), .int .u64 ((x.max : Nat) : Int), .int .u64 ((x.last : Nat) : Int)]] (Sort.grow (w2.drewN n) os) fun e w'' => e = .returned (.int .i64 x.start) ∧ ∃ p : GrownBy, w'' = Sort.grow (w2.drewN p.n) p.os) := hidden fun n os => Calls.grown_of (time_any x _)
  have S2 : Hid (∀ n os, Calls Tryz.prog 73 #[.agg #[.int .i64 y.start, .int .i64 y.count, .int .u64 ((y.sum : Nat) : Int), .int .u64 ((y.min : Nat) : Int), .int .u64 ((y.max : Nat) : Int), .int .u64 ((y.last : Nat) : Int)]] (Sort.grow (w2.drewN n) os) fun e w'' => e = .returned (.int .i64 y.start) ∧ ∃ p : GrownBy, w'' = Sort.grow (w2.drewN p.n) p.os) := hidden fun n os => Calls.grown_of (time_any y _)
  clear hX hY hB2 hXe hG hB d0 d1 d2 d3 d4 d5 e0 e1 e2 e3 e4 e5
  refine wp_region_quiet_grown (by assumption) (by kernel_rfl) ?_
  repeat (first | go_big_quiet_step (first | exact S1.out _ _ | exact S2.out _ _) | quiet_step (first | exact S1.out _ _ | exact S2.out _ _))
  refine wpQuiet_nil ?_
  intro _ hw'
  obtain ⟨pq, hw''⟩ := hw'
  subst hw''
  have hG3 := HG.out.trans (Gr.of_grown w2 pq)
  clear S1 S2
  go_wp2_with fail
  go_ret
  exact ⟨rfl, hG3⟩

/-- once, plainly -/
def eqT (x y : Win) : Bool := x.start == y.start
/-- rising times, and of each the first one -/
def Once (l R : List Win) : Prop := (R.Pairwise fun x y => x.start < y.start) ∧ ∀ t : Int, R.find? (fun x => x.start == t) = l.find? (fun x => x.start == t)
theorem cmp_find (t : Int) : ∀ (S : List Win) (o : Option Win), S.Pairwise (fun x y => x.start ≤ y.start) → (∀ z, o = some z → ∀ x ∈ S, z.start ≤ x.start) → (∀ z, o = some z → z.start ≠ t) → (CmpWin.cmpFrom eqT o S).find? (fun x => x.start == t) = S.find? (fun x => x.start == t)
  | [], o, _, _, _ => by cases o <;> rfl
  | x :: r, o, hs, ho, ht => by
    rw [List.pairwise_cons] at hs
    have hrest : x.start ≠ t → (CmpWin.cmpFrom eqT (some x) r).find? (fun x => x.start == t) = r.find? (fun x => x.start == t) := fun hx =>
      cmp_find t r (some x) hs.2 (fun z hz y hy => by injection hz with hz; subst hz; exact hs.1 y hy) (fun z hz => by injection hz with hz; subst hz; exact hx)
    by_cases hx : x.start = t
    · have hnot : ∀ z, o = some z → eqT x z = false := fun z hz => by
        unfold eqT
        have := ht z hz
        rw [hx]
        exact beq_eq_false_iff_ne.2 (fun e => this e.symm)
      cases o with
      | none =>
        show ([x] ++ CmpWin.cmpFrom eqT (some x) r).find? _ = _
        simp [hx]
      | some z =>
        show ((if eqT x z = true then [] else [x]) ++ CmpWin.cmpFrom eqT (some x) r).find? _ = _
        rw [hnot z rfl]
        simp [hx]
    · have hxb : (x.start == t) = false := beq_eq_false_iff_ne.2 hx
      cases o with
      | none =>
        show ([x] ++ CmpWin.cmpFrom eqT (some x) r).find? _ = _
        rw [List.find?_append, hrest hx]
        simp [hxb]
      | some z =>
        show ((if eqT x z = true then [] else [x]) ++ CmpWin.cmpFrom eqT (some x) r).find? _ = _
        rw [List.find?_append, hrest hx]
        split <;> simp [hxb]
theorem cmp_sorted : ∀ (S : List Win) (o : Option Win), S.Pairwise (fun x y => x.start ≤ y.start) → (∀ z, o = some z → ∀ x ∈ S, z.start ≤ x.start) → (CmpWin.cmpFrom eqT o S).Pairwise (fun x y => x.start < y.start) ∧ ∀ y ∈ CmpWin.cmpFrom eqT o S, y ∈ S ∧ ∀ z, o = some z → z.start < y.start
  | [], o, _, _ => by cases o <;> exact ⟨List.Pairwise.nil, fun y h => by cases h⟩
  | x :: r, o, hs, ho => by
    rw [List.pairwise_cons] at hs
    obtain ⟨i1, i2⟩ := cmp_sorted r (some x) hs.2 (fun z hz y hy => by injection hz with hz; subst hz; exact hs.1 y hy)
    cases o with
    | none =>
      show ([x] ++ CmpWin.cmpFrom eqT (some x) r).Pairwise _ ∧ ∀ y ∈ [x] ++ CmpWin.cmpFrom eqT (some x) r, _
      refine ⟨List.pairwise_append.2 ⟨List.pairwise_singleton _ _, i1, fun a ha b hb => ?_⟩, fun y hy => ?_⟩
      · rw [List.mem_singleton.1 ha]; exact (i2 b hb).2 x rfl
      · rcases List.mem_append.1 hy with h | h
        · exact ⟨by rw [List.mem_singleton.1 h]; exact List.mem_cons_self .., fun z hz => by cases hz⟩
        · exact ⟨List.mem_cons_of_mem _ (i2 y h).1, fun z hz => by cases hz⟩
    | some z =>
      have hzx := ho z rfl x (List.mem_cons_self ..)
      show ((if eqT x z = true then [] else [x]) ++ CmpWin.cmpFrom eqT (some x) r).Pairwise _ ∧ ∀ y ∈ (if eqT x z = true then [] else [x]) ++ CmpWin.cmpFrom eqT (some x) r, _
      have hin : ∀ y ∈ CmpWin.cmpFrom eqT (some x) r, y ∈ x :: r ∧ ∀ z', some z = some z' → z'.start < y.start := fun y hy => ⟨List.mem_cons_of_mem _ (i2 y hy).1, fun z' hz' => by injection hz' with hz'; subst hz'; have := (i2 y hy).2 x rfl; omega⟩
      split
      · exact ⟨by simpa using i1, by simpa using hin⟩
      · rename_i hne
        have hne' : ¬ x.start = z.start := fun e => hne (by unfold eqT; rw [e]; simp)
        refine ⟨List.pairwise_append.2 ⟨List.pairwise_singleton _ _, i1, fun a ha b hb => ?_⟩, fun y hy => ?_⟩
        · rw [List.mem_singleton.1 ha]; exact (i2 b hb).2 x rfl
        · rcases List.mem_append.1 hy with h | h
          · rw [List.mem_singleton.1 h]
            exact ⟨List.mem_cons_self .., fun z' hz' => by injection hz' with hz'; subst hz'; omega⟩
          · exact hin y h
theorem once_of_sort {l S : List Win} (h : SrtWin.SrtRes (fun x y => decide (cmpZ x.start y.start < 0)) l S) : Once l (CmpWin.cmpct eqT S) := by
  obtain ⟨h1, h2, h3⟩ := h
  have hs : S.Pairwise fun x y => x.start ≤ y.start := h2.imp fun {x y} h => by
    have h' : decide (cmpZ y.start x.start < 0) = false := h
    rw [cmpZ_lt] at h'
    have := of_decide_eq_false h'
    omega
  refine ⟨(cmp_sorted S none hs (fun z hz => by cases hz)).1, fun t => ?_⟩
  have h4 := cmp_find t S none hs (fun z hz => by cases hz) (fun z hz => by cases hz)
  have h5 := h3 (fun x => x.start == t) (fun x y hx hy => by
    show decide (cmpZ x.start y.start < 0) = false
    rw [cmpZ_lt]
    have e1 : x.start = t := by simpa using hx
    have e2 : y.start = t := by simpa using hy
    rw [e1, e2]; simp)
  show (CmpWin.cmpFrom eqT none S).find? _ = _
  rw [h4, ← List.head?_filter, ← List.head?_filter, h5]
theorem once_one {l : List Win} (h : l.length < 2) : Once l l := by
  refine ⟨?_, fun _ => rfl⟩
  match l, h with
  | [], _ => exact List.Pairwise.nil
  | [x], _ => exact List.pairwise_singleton _ _
/-- one list by its times and what is found -/
theorem once_unique {l R S : List Win} (h : Once l R) (k : Once l S) : R = S := by
  have hf : ∀ t, R.find? (fun x => x.start == t) = S.find? (fun x => x.start == t) := fun t => (h.2 t).trans (k.2 t).symm
  have hr := h.1
  have hs := k.1
  clear h k
  induction R generalizing S with
  | nil =>
    cases S with
    | nil => rfl
    | cons y s =>
      have := hf y.start
      simp at this
  | cons x r ih =>
    rw [List.pairwise_cons] at hr
    cases S with
    | nil =>
      have := hf x.start
      simp at this
    | cons y s =>
      rw [List.pairwise_cons] at hs
      have hxy : x.start = y.start := by
        rcases Int.lt_trichotomy x.start y.start with h | h | h
        · exfalso
          have := hf x.start
          rw [List.find?_cons_of_pos (by simp)] at this
          have h2 := List.mem_of_find?_eq_some this.symm
          rcases List.mem_cons.1 h2 with h3 | h3
          · rw [h3] at h; omega
          · have := hs.1 x h3; omega
        · exact h
        · exfalso
          have := hf y.start
          rw [List.find?_cons_of_pos (p := fun x => x.start == y.start) (a := y) (by simp)] at this
          have h2 := List.mem_of_find?_eq_some this
          rcases List.mem_cons.1 h2 with h3 | h3
          · rw [h3] at h; omega
          · have := hr.1 y h3; omega
      have hx : x = y := by
        have := hf x.start
        rw [List.find?_cons_of_pos (by simp), List.find?_cons_of_pos (by simp [hxy])] at this
        injection this
      subst hx
      rw [ih (S := s) (fun t => ?_) hr.2 hs.2]
      by_cases ht : x.start = t
      · have n1 : r.find? (fun x => x.start == t) = none := List.find?_eq_none.2 fun z hz => by have := hr.1 z hz; simp; omega
        have n2 : s.find? (fun x => x.start == t) = none := List.find?_eq_none.2 fun z hz => by have := hs.1 z hz; simp; omega
        rw [n1, n2]
      · have := hf t
        rwa [List.find?_cons_of_neg (by simpa using ht), List.find?_cons_of_neg (by simpa using ht)] at this

set_option maxHeartbeats 1600000 in
theorem once_any (base n : Nat) (v : Value) (l : List Win) (w : World) (hown : w.ownsRow base 159 6 v n (l.flatMap Win.cells)) (hl : l.length = n) (hn : n ≤ 1099511627776) :
    Calls Tryz.prog 72 #[v, .func (.func 73) #[] #[]] w fun e w' => ∃ v' R, e = .returned v' ∧ Once l R ∧ w'.ownsRow base 159 6 v' R.length (R.flatMap Win.cells) ∧ w.grownBy w' v.ownBlock ∧ v'.ownBlock = v.ownBlock := by
  rcases Nat.eq_zero_or_pos n with h0 | h0
  · subst h0
    obtain rfl : l = [] := List.eq_nil_of_length_eq_zero hl
    obtain ⟨A, c, rfl, hc, _⟩ := own_shape hown
    have hgb : w.grownBy (w.alloc (.cells #[.func (.func 73) #[] #[]] 167)) (Value.slice A 0 c).ownBlock := gb_alloc (gb_refl _ _) _
    have HO := hidden (hown.alloc (.cells #[.func (.func 73) #[] #[]] 167))
    clear hown
    go_enter Tryz.func72, Tryz.ntmps72
    go_wp2_with fail
    refine (SrtWin.sort0_any A c _ _).mono ?_
    rintro e w' ⟨rfl, rfl⟩
    go_wp2_with fail
    refine (CmpWin.compact0_any A 0 c _ _ (by omega)).mono ?_
    rintro e w' ⟨rfl, rfl⟩
    go_wp2
    go_ret
    exact ⟨_, [], rfl, once_one (by decide), HO.out, hgb, rfl⟩
  · obtain ⟨g, c, rest, rfl, hg, hw, hnc, hc, _, hm⟩ := own_whole_g SrtWin.hk hown h0
    have hglt := hw.lt
    have hB := Whole1.new w 167 #[.func (.func 73) #[] #[]]
    have hw0 := hw.alloc (.cells #[.func (.func 73) #[] #[]] 167)
    have hgb0 : w.grownBy (w.alloc (.cells #[.func (.func 73) #[] #[]] 167)) (some g) := gb_alloc (gb_refl _ _) _
    have e1 : ∀ args w, (callFunc 148 args).run Tryz.prog w = .ok (.enter 148 args) w := enters_of Tryz.func148 (by kernel_rfl) rfl
    have e2 : ∀ args w, (callFunc 150 args).run Tryz.prog w = .ok (.enter 150 args) w := enters_of Tryz.func150 (by kernel_rfl) rfl
    have HE1 := hidden e1
    have HE2 := hidden e2
    have HC := hidden hc
    have hc63 : c ≤ 9223372036854775807 := by unfold maxLen at hc; omega
    have HM := hidden hm
    have HL := hidden hl
    clear e1 e2 hown hw hc hm hl
    go_enter Tryz.func72, Tryz.ntmps72
    go_wp2_with fail
    generalize w.alloc (.cells #[.func (.func 73) #[] #[]] 167) = w0 at hB hw0 hgb0 ⊢
    obtain ⟨B, hBe⟩ : ∃ B, w.heap.size = B := ⟨_, rfl⟩
    rw [hBe] at hB hglt ⊢
    have hBl := hB.lt
    refine (SrtWin.sort_any g c n (c * 6) l rest _ _ (fun x y => cmpZ x.start y.start) w0 HE1.out (swo_at (fun x : Win => x.start)) (fun x _ y _ W hW => ?ord) hw0 HM.out HL.out (by omega) h0).mono ?_
    case ord =>
      refine (ord_any x y B W ((hB.grown hW (fun e => by injection e with e; omega)).cell 0)).mono ?_
      rintro e w2 ⟨he, hG⟩
      exact ⟨he, hG⟩
    rintro e w1 ⟨rfl, S, rest1, hS, hw1, hm1, hg1⟩
    have hlS : S.length = n := by rw [hS.1.length_eq]; exact HL.out
    have hBne : some B ≠ some g := fun e => by injection e with e; omega
    have hB1 := hB.grown hg1 hBne
    have hG1 := gb_trans hgb0 hg1
    have HS := hidden hS
    have HM1 := hidden hm1
    by_cases h2 : n < 2
    · have hSl : S = l := by
        have h1 := hS.1
        match l, S, HL.out, hlS with
        | [x], [y], _, _ => exact List.perm_singleton.1 h1
        | [x], [], e1, e2 => simp at e1 e2; omega
        | [], _, e1, _ => simp at e1; omega
        | _ :: _ :: _, _, e1, _ => simp at e1; omega
        | [x], _ :: _ :: _, e1, e2 => simp at e1 e2; omega
      have HSL := hidden hSl
      have HW1 := hidden hw1
      clear hw0 hw1 hSl hS hgb0 hg1
      go_wp2_with fail
      refine (CmpWin.compact0_any _ n c _ _ h2).mono ?_
      rintro e w' ⟨rfl, rfl⟩
      go_wp2
      go_ret
      refine ⟨_, l, rfl, once_one (by rw [HL.out]; exact h2), ?_, hG1, rfl⟩
      have h5 := own_of_whole_g SrtWin.hk hg HW1.out hnc HC.out hlS HM1.out
      rw [HSL.out, ← HL.out] at h5
      rw [← HL.out]
      exact h5
    · have hw1l := hw1.lt
      have HW1 := hidden hw1
      clear hw0 hw1 hS hgb0 hg1
      go_wp2_with fail
      refine (CmpWin.compact_any g n c S rest1 (c * 6) _ _ eqT w1 HE2.out (fun x _ y _ W hW => ?eqc) HW1.out hlS HM1.out hnc hc63 (by omega) (by omega)).mono ?_
      case eqc =>
        refine (eq_any x y B W ((hB1.grown hW hBne).cell 0)).mono ?_
        rintro e w2 ⟨he, hG⟩
        exact ⟨he, hG.below⟩
      rintro e w2 ⟨v2, rfl, rest2, rfl, hRc, hw2, hm2, hg2⟩
      have HR := hidden (own_of_whole_g SrtWin.hk hg hw2 hRc HC.out rfl hm2)
      have HG2 := hidden (gb_trans hG1 hg2)
      have HO := hidden (once_of_sort HS.out)
      clear hw2 hm2 hg2 hG1
      go_wp2
      go_ret
      exact ⟨_, _, rfl, HO.out, HR.out, HG2.out, rfl⟩
end Go.Proofs.YtbijjjhfekkfaaaGreat.OncWin
