/- slices.CompactFunc at windows, whatever equality: what it leaves. Condition: the equality has a contract, the row is within the reach. -/
import Derived.Test.YtbijjjhfekkfaaaGreatBase
import Derived.Test.YtbijjjhfekkfaaaGreatPkc787b734
import Derived.Lib.QuietBelow
import Derived.Shelf.SlSortCmp.KitK
namespace Go.Proofs.YtbijjjhfekkfaaaGreat.CmpWin
set_option maxRecDepth 100000
open Go.RowKit

theorem hk (x : Win) : x.cells.length = 6 := rfl

/-- what is asked of an equality -/
def EqOk (f : FuncId) (cb : Array Value) (p : Win → Win → Bool) (l : List Win) (ok : World → Prop) : Prop :=
  ∀ x ∈ l, ∀ y ∈ l, ∀ W, ok W → Calls Tryz.prog f (#[.agg #[.int .i64 x.start, .int .i64 x.count, .int .u64 ((x.sum : Nat) : Int), .int .u64 ((x.min : Nat) : Int), .int .u64 ((x.max : Nat) : Int), .int .u64 ((x.last : Nat) : Int)], .agg #[.int .i64 y.start, .int .i64 y.count, .int .u64 ((y.sum : Nat) : Int), .int .u64 ((y.min : Nat) : Int), .int .u64 ((y.max : Nat) : Int), .int .u64 ((y.last : Nat) : Int)]] ++ cb) W fun e w2 => e = .returned (.bool (p x y)) ∧ Below W.heap.size W w2

/-- of several in a row that are equal the first one -/
def cmpFrom (p : Win → Win → Bool) : Option Win → List Win → List Win
  | _, [] => []
  | none, x :: r => [x] ++ cmpFrom p (some x) r
  | some y, x :: r => (if p x y = true then [] else [x]) ++ cmpFrom p (some x) r
def cmpct (p : Win → Win → Bool) (l : List Win) : List Win := cmpFrom p none l
theorem cmpFrom_snoc (p : Win → Win → Bool) (x y : Win) : ∀ (l : List Win) (o : Option Win), l.getLast? = some y → cmpFrom p o (l ++ [x]) = cmpFrom p o l ++ (if p x y = true then [] else [x])
  | [], _, h => by simp at h
  | [a], o, h => by
    simp only [List.getLast?_singleton, Option.some.injEq] at h
    subst h
    cases o <;> simp [cmpFrom]
  | a :: b :: r, o, h => by
    have h2 : (b :: r).getLast? = some y := by rw [List.getLast?_cons_cons] at h; exact h
    have ih := cmpFrom_snoc p x y (b :: r) (some a) h2
    cases o with
    | none =>
      show [a] ++ cmpFrom p (some a) (b :: r ++ [x]) = _
      rw [ih, ← List.append_assoc]; rfl
    | some z =>
      show (if p a z = true then [] else [a]) ++ cmpFrom p (some a) (b :: r ++ [x]) = _
      rw [ih, ← List.append_assoc]; rfl
theorem getLast_take {l : List Win} {j : Nat} {y : Win} (h : l[j]? = some y) : (l.take (j + 1)).getLast? = some y := by
  rw [take_snoc? h, List.getLast?_concat]
theorem cmpct_step (p : Win → Win → Bool) {l : List Win} {j : Nat} {x y : Win} (hx : l[j + 1]? = some x) (hy : l[j]? = some y) : cmpct p (l.take (j + 2)) = if p x y = true then cmpct p (l.take (j + 1)) else cmpct p (l.take (j + 1)) ++ [x] := by
  unfold cmpct
  rw [take_snoc? hx, cmpFrom_snoc p x y _ none (getLast_take hy)]
  split <;> simp
theorem cmpct_len (p : Win → Win → Bool) : ∀ (l : List Win) (o : Option Win), (cmpFrom p o l).length ≤ l.length
  | [], _ => Nat.le_refl _
  | x :: r, o => by
    have := cmpct_len p r (some x)
    cases o with
    | none =>
      show ([x] ++ cmpFrom p (some x) r).length ≤ _
      simp only [List.length_append, List.length_cons, List.length_nil]; omega
    | some y =>
      show ((if p x y = true then [] else [x]) ++ cmpFrom p (some x) r).length ≤ _
      rw [List.length_append, List.length_cons]
      split
      · simp only [List.length_nil]; omega
      · simp only [List.length_singleton]; omega
theorem cmp_set (F q : List Win) (y x : Win) (r : List Win) : ∃ q', (F ++ (q ++ [y]) ++ x :: r).set F.length x = (F ++ [x]) ++ (q' ++ [x]) ++ r ∧ q'.length = q.length := by
  cases q with
  | nil =>
    refine ⟨[], ?_, rfl⟩
    rw [List.append_assoc, List.set_append_right _ _ (Nat.le_refl _), Nat.sub_self]
    simp
  | cons a q =>
    refine ⟨q ++ [y], ?_, by simp⟩
    rw [List.append_assoc, List.set_append_right _ _ (Nat.le_refl _), Nat.sub_self]
    simp

def clearCells (n : Nat) : List Value := (Builtin.zeroCells #[.int .i64 0, .int .i64 0, .int .u64 0, .int .u64 0, .int .u64 0, .int .u64 0] n).toList
theorem clear_len (n : Nat) : (clearCells n).length = n * 6 := by simp [clearCells, Builtin.zeroCells]
theorem run_clear (w : World) (ty : TypeId) (b o n c : Nat) (hn : 0 < n) (hc : ∀ j, j < n * 6 → (w.cell? ⟨b, o + j, none⟩).isSome = true) (hf : ∀ j, j < n * 6 → w.frozen? ⟨b, o + j, none⟩ = false) :
    (Builtin.clear_ #[55] ty #[.slice (some ⟨b, o, none⟩) n c]).run Tryz.prog w = .ok (.tuple #[]) (w.setCells b o (clearCells n)) := by
  have hl := clear_len n
  unfold clearCells at hl ⊢
  have hst := run_storeCells_cells (P := Tryz.prog) b o (Builtin.zeroCells #[.int .i64 0, .int .i64 0, .int .u64 0, .int .u64 0, .int .u64 0, .int .u64 0] n).toList 0 w (by rw [hl]; simpa using hc) (by rw [hl]; simpa using hf) (by
    intro v hv
    simp only [Builtin.zeroCells, Array.toList_map, List.mem_map] at hv
    obtain ⟨q, _, rfl⟩ := hv
    have : q % 6 < 6 := Nat.mod_lt _ (by decide)
    match q % 6, this with
    | 0, _ => rfl
    | 1, _ => rfl
    | 2, _ => rfl
    | 3, _ => rfl
    | 4, _ => rfl
    | 5, _ => rfl)
  simp only [Nat.add_zero] at hst
  obtain ⟨m, rfl⟩ : ∃ m, n = m + 1 := ⟨n - 1, by omega⟩
  simp [Builtin.clear_, run_underlying Tryz.underlying55, Value.cells, hst]

/-- what CompactFunc leaves: the head of the same block -/
def CmpRes (g c m : Nat) (F : List Win) (w w' : World) (v : Value) : Prop :=
  ∃ rest, v = .slice (some ⟨g, 0, none⟩) F.length c ∧ F.length ≤ c ∧ Whole1 w' g 159 (F.flatMap Win.cells ++ rest).toArray ∧ (F.flatMap Win.cells ++ rest).length = m ∧ w.grownBy w' (some g)

/-- fewer than two: as they were -/
theorem compact0_any (A : Option Addr) (n c : Nat) (fv : Value) (w : World) (hn : n < 2) :
    Calls Tryz.prog 149 #[.slice A n c, fv] w fun e w' => e = .returned (.slice A n c) ∧ w = w' := by
  have hz : (n : Int) < 2 := by omega
  go_enter Tryz.func149, Tryz.ntmps149
  go_wp2
  go_ret
  exact ⟨rfl, rfl⟩

set_option maxHeartbeats 12800000 in
theorem compact_any (g n c : Nat) (l : List Win) (rest : List Value) (m : Nat) (f : FuncId) (cb : Array Value) (p : Win → Win → Bool) (w : World) (eg : ∀ args w, (callFunc f args).run Tryz.prog w = .ok (.enter f args) w) (hp : EqOk f cb p l (fun W => w.grownBy W (some g))) (hw : Whole1 w g 159 (l.flatMap Win.cells ++ rest).toArray) (hl : l.length = n) (hm : (l.flatMap Win.cells ++ rest).length = m) (hnc : n ≤ c) (hc : c ≤ 9223372036854775807) (hn : n ≤ 4611686018427387904) (hn2 : 2 ≤ n) :
    Calls Tryz.prog 149 #[.slice (some ⟨g, 0, none⟩) n c, .func (.func f) #[] cb] w
      fun e w' => ∃ v, e = .returned v ∧ CmpRes g c m (cmpct p l) w w' v := by
  have hglt := hw.lt
  have HW := hidden hw
  have HL := hidden hl
  have HP := hidden hp
  have HM := hidden hm
  clear hm
  have hlz : ¬ (n : Int) < 2 := by omega
  clear hw hl hp
  go_enter Tryz.func149, Tryz.ntmps149
  go_wp2
  go_loopw [5] (fun vi wr => ∃ k : Nat, vi = .int .i64 ((k + 1 : Nat) : Int) ∧ k + 1 ≤ n ∧ Hid (cmpct p (l.take (k + 1)) = l.take (k + 1)) ∧ Below w.heap.size w wr) (fun vi _ => n - (intOf vi).toNat)
  case atStart =>
    refine ⟨0, rfl, by omega, ?_, Below.refl _ _⟩
    cases l with
    | nil => exact hidden rfl
    | cons a r => exact hidden rfl
  case round =>
    obtain ⟨k, rfl, hkn, hsame, hb⟩ := hrel
    by_cases hlt : k + 1 < n
    · obtain ⟨wo, rfl⟩ : ∃ wo : World, wo = wr := ⟨_, rfl⟩
      obtain ⟨x, hx⟩ : ∃ x, l[k + 1]? = some x := ⟨l[k + 1]'(by rw [HL.out]; exact hlt), List.getElem?_eq_getElem _⟩
      obtain ⟨y, hy⟩ : ∃ y, l[k]? = some y := ⟨l[k]'(by rw [HL.out]; omega), List.getElem?_eq_getElem _⟩
      have hW := HW.out.below hb hglt
      obtain ⟨k1, hk1⟩ : ∃ k1, k + 1 = k1 := ⟨_, rfl⟩
      have hstep := cmpct_step p hx hy
      rw [hsame.out] at hstep
      rw [hk1] at hlt hx ⊢
      have d0 : wo.cell? ⟨g, k1 * 6, none⟩ = some (.int .i64 x.start) := whole_at hk hW hx 0 (by omega)
      have d1 : wo.cell? ⟨g, k1 * 6 + 1, none⟩ = some (.int .i64 x.count) := whole_at hk hW hx 1 (by omega)
      have d2 : wo.cell? ⟨g, k1 * 6 + 2, none⟩ = some (.int .u64 ((x.sum : Nat) : Int)) := whole_at hk hW hx 2 (by omega)
      have d3 : wo.cell? ⟨g, k1 * 6 + 3, none⟩ = some (.int .u64 ((x.min : Nat) : Int)) := whole_at hk hW hx 3 (by omega)
      have d4 : wo.cell? ⟨g, k1 * 6 + 4, none⟩ = some (.int .u64 ((x.max : Nat) : Int)) := whole_at hk hW hx 4 (by omega)
      have d5 : wo.cell? ⟨g, k1 * 6 + 5, none⟩ = some (.int .u64 ((x.last : Nat) : Int)) := whole_at hk hW hx 5 (by omega)
      have e0 : wo.cell? ⟨g, k * 6, none⟩ = some (.int .i64 y.start) := whole_at hk hW hy 0 (by omega)
      have e1 : wo.cell? ⟨g, k * 6 + 1, none⟩ = some (.int .i64 y.count) := whole_at hk hW hy 1 (by omega)
      have e2 : wo.cell? ⟨g, k * 6 + 2, none⟩ = some (.int .u64 ((y.sum : Nat) : Int)) := whole_at hk hW hy 2 (by omega)
      have e3 : wo.cell? ⟨g, k * 6 + 3, none⟩ = some (.int .u64 ((y.min : Nat) : Int)) := whole_at hk hW hy 3 (by omega)
      have e4 : wo.cell? ⟨g, k * 6 + 4, none⟩ = some (.int .u64 ((y.max : Nat) : Int)) := whole_at hk hW hy 4 (by omega)
      have e5 : wo.cell? ⟨g, k * 6 + 5, none⟩ = some (.int .u64 ((y.last : Nat) : Int)) := whole_at hk hW hy 5 (by omega)
      have hcon : Hid (∀ D os, Calls Tryz.prog f (#[.agg #[.int .i64 x.start, .int .i64 x.count, .int .u64 ((x.sum : Nat) : Int), .int .u64 ((x.min : Nat) : Int), .int .u64 ((x.max : Nat) : Int), .int .u64 ((x.last : Nat) : Int)], .agg #[.int .i64 y.start, .int .i64 y.count, .int .u64 ((y.sum : Nat) : Int), .int .u64 ((y.min : Nat) : Int), .int .u64 ((y.max : Nat) : Int), .int .u64 ((y.last : Nat) : Int)]] ++ cb) (Sort.grow (redrawn wo D) os) fun e w'' => e = .returned (.bool (p x y)) ∧ ∃ q : Regrown, w'' = Sort.grow (redrawn wo q.d) q.os) :=
        hidden fun D os => Calls.regrown_of (HP.out x (List.mem_of_getElem? hx) y (List.mem_of_getElem? hy) _ (gb_below (hb.trans ((below_regrown wo D os).mono hb.size)) _))
      have t1 : IntKind.i64.wrap ((k1 : Int) - 1) = (k : Int) := by rw [IntKind.wrap_i64]; omega
      have t2 : (k1 : Int) < (n : Int) := by omega
      have t3 : (0 : Int) ≤ (k1 : Int) := by omega
      have t4 : (k : Int) < (n : Int) := by omega
      have t5 : (0 : Int) ≤ (k : Int) := by omega
      have hkk1 : k + 1 ≤ k1 := by omega
      have hkk2 : k1 ≤ k + 1 := by omega
      have HX := hidden hx
      have HY := hidden hy
      have HK1 := hidden hk1
      have HST := hidden hstep
      have r0 := cell_regrown d0
      have r1 := cell_regrown d1
      have r2 := cell_regrown d2
      have r3 := cell_regrown d3
      have r4 := cell_regrown d4
      have r5 := cell_regrown d5
      have s0 := cell_regrown e0
      have s1 := cell_regrown e1
      have s2 := cell_regrown e2
      have s3 := cell_regrown e3
      have s4 := cell_regrown e4
      have s5 := cell_regrown e5
      clear hstep hx hy hk1 hW d0 d1 d2 d3 d4 d5 e0 e1 e2 e3 e4 e5
      go_wp2_with fail
      refine wp_region_quiet_below (by kernel_rfl) (by kernel_rfl) ?_
      repeat (first | go_big_quiet_step (first | (go_at_fn f; exact hcon.out _ _)) | quiet_step (first | (go_at_fn f; exact hcon.out _ _)))
      refine wpQuiet_nil ?_
      intro _ hw'
      obtain ⟨⟨dq, osq⟩, hw''⟩ := hw'
      subst hw''
      have hb5 : Below wo.heap.size wo (Sort.grow (redrawn wo (Regrown.mk dq osq).d) (Regrown.mk dq osq).os) := below_regrown _ _ _
      generalize Sort.grow (redrawn wo (Regrown.mk dq osq).d) (Regrown.mk dq osq).os = w5 at hb5 ⊢
      have hB5 := hb.trans (hb5.mono hb.size)
      obtain ⟨b, hv⟩ : ∃ b, p x y = b := ⟨_, rfl⟩
      have hstep := HST.out
      rw [hv] at hstep ⊢
      clear hv hb5 hb r0 r1 r2 r3 r4 r5 s0 s1 s2 s3 s4 s5 hcon
      cases b with
      | false =>
        rw [if_neg (by decide)] at hstep
        have HS2 : Hid (cmpct p (l.take (k + 1 + 1)) = l.take (k + 1 + 1)) := by
          have h1 : l.take (k + 1 + 1) = l.take (k + 1) ++ [x] := take_snoc? (by rw [HK1.out]; exact HX.out)
          exact hstep.trans h1.symm
        clear hstep
        go_wp2_with fail
        go_roundw
        case rel => exact ⟨k + 1, by go_num, by omega, HS2, hB5⟩
        case measure => simp [intOf]; omega
      | true =>
        rw [if_pos rfl] at hstep
        have HCP : Hid (cmpct p (l.take (k1 + 1)) = l.take k1) := by
          rw [← HK1.out]; exact hstep
        have hW5 := HW.out.below hB5 hglt
        have hsp : l = l.take k1 ++ [x] ++ l.drop (k1 + 1) := by
          have hx := HX.out
          rw [List.append_assoc, List.singleton_append, ← (List.getElem?_eq_some_iff.1 hx).2, ← List.drop_eq_getElem_cons, List.take_append_drop]
        have HWS : Hid (Whole1 w5 g 159 ((cmpct p (l.take (k1 + 1)) ++ ([] ++ [x]) ++ l.drop (k1 + 1)).flatMap Win.cells ++ rest).toArray) := by
          rw [Hid, HCP.out, List.nil_append, ← hsp]; exact hW5
        have hkc : (k1 : Int) ≤ (c : Int) := by omega
        have hkc2 : (k1 : Int) < (c : Int) := by omega
        have hkc3 : k1 < c := by omega
        have HG5 := hidden (gb_below hB5 (some g))
        have HCL : Hid ((cmpct p (l.take (k1 + 1))).length = k1) := by rw [Hid, HCP.out, List.length_take, HL.out]; omega
        clear hstep hW5 hsp hB5
        go_wp2_with fail
        go_loopw [5, 7] (fun vi vj wx => ∃ (j2 i : Nat) (q : List Win) (y : Win), vi = .int .i64 i ∧ vj = .int .i64 j2 ∧ 1 ≤ j2 ∧ k1 + j2 ≤ n ∧ Hid ((cmpct p (l.take (k1 + j2))).length = i) ∧ i + q.length + 1 ≤ k1 + j2 ∧ k1 + j2 ≤ i + q.length + 1 ∧ Hid (l[k1 + j2 - 1]? = some y) ∧ Hid (Whole1 wx g 159 ((cmpct p (l.take (k1 + j2)) ++ (q ++ [y]) ++ l.drop (k1 + j2)).flatMap Win.cells ++ rest).toArray) ∧ Hid (w.grownBy wx (some g))) (fun _ vj _ => n - (intOf vj).toNat)
        case atStart => exact ⟨1, k1, [], x, rfl, rfl, Nat.le_refl _, by omega, HCL, by simp, by simp, HX, HWS, HG5⟩
        case round =>
          obtain ⟨j2, i, q, y2, rfl, rfl, hj1, hjn, hil, hq1, hq2, hy2, hWx, hgx⟩ := hrel
          by_cases hlt2 : k1 + j2 < n
          · obtain ⟨wy, rfl⟩ : ∃ wy : World, wy = wr := ⟨_, rfl⟩
            obtain ⟨x2, hx2⟩ : ∃ x2, l[k1 + j2]? = some x2 := ⟨l[k1 + j2]'(by rw [HL.out]; exact hlt2), List.getElem?_eq_getElem _⟩
            have hdrop : l.drop (k1 + j2) = x2 :: l.drop (k1 + j2 + 1) := by
              obtain ⟨h1, h2⟩ := List.getElem?_eq_some_iff.1 hx2
              rw [List.drop_eq_getElem_cons h1, h2]
            have hW := hWx.out
            rw [hdrop] at hW
            have hstep := cmpct_step p (l := l) (j := k1 + j2 - 1) (x := x2) (y := y2) (by rw [show k1 + j2 - 1 + 1 = k1 + j2 from by omega]; exact hx2) hy2.out
            rw [show k1 + j2 - 1 + 2 = k1 + j2 + 1 from by omega, show k1 + j2 - 1 + 1 = k1 + j2 from by omega] at hstep
            obtain ⟨F, hF⟩ : ∃ F, cmpct p (l.take (k1 + j2)) = F := ⟨_, rfl⟩
            obtain ⟨r, hr⟩ : ∃ r, l.drop (k1 + j2 + 1) = r := ⟨_, rfl⟩
            have hFl := hil.out
            rw [hF] at hstep hW hFl
            rw [hr] at hW
            have hjl : (F ++ (q ++ [y2])).length = k1 + j2 := by simp only [List.length_append, List.length_singleton]; omega
            have hxx : (F ++ (q ++ [y2]) ++ x2 :: r)[k1 + j2]? = some x2 := by
              rw [List.getElem?_append_right (by omega), hjl, Nat.sub_self]; rfl
            obtain ⟨j3, hj3⟩ : ∃ j3, j2 = j3 + 1 := ⟨j2 - 1, by omega⟩
            have hyy : (F ++ (q ++ [y2]) ++ x2 :: r)[k1 + j3]? = some y2 := by
              rw [List.getElem?_append_left (by omega), List.getElem?_append_right (by omega), List.getElem?_append_right (by omega), show k1 + j3 - F.length - q.length = 0 from by omega]; rfl
            have d0 : wy.cell? ⟨g, k1 * 6 + j2 * 6, none⟩ = some (.int .i64 x2.start) := by rw [← Nat.add_mul]; exact whole_at hk hW hxx 0 (by omega)
            have d1 : wy.cell? ⟨g, k1 * 6 + j2 * 6 + 1, none⟩ = some (.int .i64 x2.count) := by rw [← Nat.add_mul]; exact whole_at hk hW hxx 1 (by omega)
            have d2 : wy.cell? ⟨g, k1 * 6 + j2 * 6 + 2, none⟩ = some (.int .u64 ((x2.sum : Nat) : Int)) := by rw [← Nat.add_mul]; exact whole_at hk hW hxx 2 (by omega)
            have d3 : wy.cell? ⟨g, k1 * 6 + j2 * 6 + 3, none⟩ = some (.int .u64 ((x2.min : Nat) : Int)) := by rw [← Nat.add_mul]; exact whole_at hk hW hxx 3 (by omega)
            have d4 : wy.cell? ⟨g, k1 * 6 + j2 * 6 + 4, none⟩ = some (.int .u64 ((x2.max : Nat) : Int)) := by rw [← Nat.add_mul]; exact whole_at hk hW hxx 4 (by omega)
            have d5 : wy.cell? ⟨g, k1 * 6 + j2 * 6 + 5, none⟩ = some (.int .u64 ((x2.last : Nat) : Int)) := by rw [← Nat.add_mul]; exact whole_at hk hW hxx 5 (by omega)
            have e0 : wy.cell? ⟨g, k1 * 6 + j3 * 6, none⟩ = some (.int .i64 y2.start) := by rw [← Nat.add_mul]; exact whole_at hk hW hyy 0 (by omega)
            have e1 : wy.cell? ⟨g, k1 * 6 + j3 * 6 + 1, none⟩ = some (.int .i64 y2.count) := by rw [← Nat.add_mul]; exact whole_at hk hW hyy 1 (by omega)
            have e2 : wy.cell? ⟨g, k1 * 6 + j3 * 6 + 2, none⟩ = some (.int .u64 ((y2.sum : Nat) : Int)) := by rw [← Nat.add_mul]; exact whole_at hk hW hyy 2 (by omega)
            have e3 : wy.cell? ⟨g, k1 * 6 + j3 * 6 + 3, none⟩ = some (.int .u64 ((y2.min : Nat) : Int)) := by rw [← Nat.add_mul]; exact whole_at hk hW hyy 3 (by omega)
            have e4 : wy.cell? ⟨g, k1 * 6 + j3 * 6 + 4, none⟩ = some (.int .u64 ((y2.max : Nat) : Int)) := by rw [← Nat.add_mul]; exact whole_at hk hW hyy 4 (by omega)
            have e5 : wy.cell? ⟨g, k1 * 6 + j3 * 6 + 5, none⟩ = some (.int .u64 ((y2.last : Nat) : Int)) := by rw [← Nat.add_mul]; exact whole_at hk hW hyy 5 (by omega)
            have hil2 : i < (F ++ (q ++ [y2]) ++ x2 :: r).length := by simp only [List.length_append, List.length_cons]; omega
            obtain ⟨q', hs1, hs2⟩ := cmp_set F q y2 x2 r
            rw [hFl] at hs1
            have hcon2 : Hid (∀ D os, Calls Tryz.prog f (#[.agg #[.int .i64 x2.start, .int .i64 x2.count, .int .u64 ((x2.sum : Nat) : Int), .int .u64 ((x2.min : Nat) : Int), .int .u64 ((x2.max : Nat) : Int), .int .u64 ((x2.last : Nat) : Int)], .agg #[.int .i64 y2.start, .int .i64 y2.count, .int .u64 ((y2.sum : Nat) : Int), .int .u64 ((y2.min : Nat) : Int), .int .u64 ((y2.max : Nat) : Int), .int .u64 ((y2.last : Nat) : Int)]] ++ cb) (Sort.grow (redrawn wy D) os) fun e w'' => e = .returned (.bool (p x2 y2)) ∧ ∃ q : Regrown, w'' = Sort.grow (redrawn wy q.d) q.os) :=
              hidden fun D os => Calls.regrown_of (HP.out x2 (List.mem_of_getElem? hx2) y2 (List.mem_of_getElem? hy2.out) _ (gb_trans hgx.out (gb_below (below_regrown wy D os) _)))
            have t1 : IntKind.i64.wrap ((j2 : Int) - 1) = (j3 : Int) := by rw [IntKind.wrap_i64]; omega
            have t2 : (j2 : Int) < ((n - k1 : Nat) : Int) := by omega
            have t3 : (0 : Int) ≤ (j2 : Int) := by omega
            have t4 : (j3 : Int) < ((n - k1 : Nat) : Int) := by omega
            have t5 : (0 : Int) ≤ (j3 : Int) := by omega
            have t6 : j2 < n - k1 := by omega
            have t7 : j3 < n - k1 := by omega
            obtain ⟨y3, hy3⟩ : ∃ y3, (F ++ (q ++ [y2]) ++ x2 :: r)[i]? = some y3 := ⟨_, List.getElem?_eq_getElem hil2⟩
            have HY3 := hidden hy3
            have HF := hidden hF
            have HR := hidden hr
            have HST2 := hidden hstep
            have HS1 := hidden hs1
            have HS2 := hidden hs2
            have HX2 := hidden hx2
            have HJ3 := hidden hj3
            have HFL := hidden hFl
            have HWW := hidden hW
            have hglw := hW.lt
            have hin : i < n := by omega
            have hiz : (i : Int) < (n : Int) := by omega
            have r0 := cell_regrown d0
            have r1 := cell_regrown d1
            have r2 := cell_regrown d2
            have r3 := cell_regrown d3
            have r4 := cell_regrown d4
            have r5 := cell_regrown d5
            have s0 := cell_regrown e0
            have s1 := cell_regrown e1
            have s2 := cell_regrown e2
            have s3 := cell_regrown e3
            have s4 := cell_regrown e4
            have s5 := cell_regrown e5
            clear hstep hx2 hdrop hF hr hjl hxx hyy hs1 hs2 hy3 hj3 hFl hW hWx d0 d1 d2 d3 d4 d5 e0 e1 e2 e3 e4 e5
            go_wp2_with fail
            refine wp_region_quiet_below (by kernel_rfl) (by kernel_rfl) ?_
            repeat (first | go_big_quiet_step (first | (go_at_fn f; exact hcon2.out _ _)) | quiet_step (first | (go_at_fn f; exact hcon2.out _ _)))
            refine wpQuiet_nil ?_
            intro _ hw'
            obtain ⟨⟨dq, osq⟩, hw''⟩ := hw'
            subst hw''
            have hb6 : Below wy.heap.size wy (Sort.grow (redrawn wy (Regrown.mk dq osq).d) (Regrown.mk dq osq).os) := below_regrown _ _ _
            generalize Sort.grow (redrawn wy (Regrown.mk dq osq).d) (Regrown.mk dq osq).os = w6 at hb6 ⊢
            have hW6 := HWW.out.below hb6 hglw
            have hG6 := gb_trans hgx.out (gb_below hb6 (some g))
            obtain ⟨b, hv⟩ : ∃ b, p x2 y2 = b := ⟨_, rfl⟩
            have hstep := HST2.out
            rw [hv] at hstep ⊢
            clear hv hb6 hgx HWW r0 r1 r2 r3 r4 r5 s0 s1 s2 s3 s4 s5 hcon2
            cases b with
            | false =>
              rw [if_neg (by decide)] at hstep
              have d0 : w6.cell? ⟨g, k1 * 6 + j2 * 6, none⟩ = some (.int .i64 x2.start) := by rw [← Nat.add_mul]; exact whole_at hk hW6 (i := k1 + j2) (x := x2) (by rw [List.getElem?_append_right (by have := HFL.out; simp only [List.length_append, List.length_singleton]; omega), show k1 + j2 - (F ++ (q ++ [y2])).length = 0 from by have := HFL.out; simp only [List.length_append, List.length_singleton]; omega]; rfl) 0 (by omega)
              have d1 : w6.cell? ⟨g, k1 * 6 + j2 * 6 + 1, none⟩ = some (.int .i64 x2.count) := by rw [← Nat.add_mul]; exact whole_at hk hW6 (i := k1 + j2) (x := x2) (by rw [List.getElem?_append_right (by have := HFL.out; simp only [List.length_append, List.length_singleton]; omega), show k1 + j2 - (F ++ (q ++ [y2])).length = 0 from by have := HFL.out; simp only [List.length_append, List.length_singleton]; omega]; rfl) 1 (by omega)
              have d2 : w6.cell? ⟨g, k1 * 6 + j2 * 6 + 2, none⟩ = some (.int .u64 ((x2.sum : Nat) : Int)) := by rw [← Nat.add_mul]; exact whole_at hk hW6 (i := k1 + j2) (x := x2) (by rw [List.getElem?_append_right (by have := HFL.out; simp only [List.length_append, List.length_singleton]; omega), show k1 + j2 - (F ++ (q ++ [y2])).length = 0 from by have := HFL.out; simp only [List.length_append, List.length_singleton]; omega]; rfl) 2 (by omega)
              have d3 : w6.cell? ⟨g, k1 * 6 + j2 * 6 + 3, none⟩ = some (.int .u64 ((x2.min : Nat) : Int)) := by rw [← Nat.add_mul]; exact whole_at hk hW6 (i := k1 + j2) (x := x2) (by rw [List.getElem?_append_right (by have := HFL.out; simp only [List.length_append, List.length_singleton]; omega), show k1 + j2 - (F ++ (q ++ [y2])).length = 0 from by have := HFL.out; simp only [List.length_append, List.length_singleton]; omega]; rfl) 3 (by omega)
              have d4 : w6.cell? ⟨g, k1 * 6 + j2 * 6 + 4, none⟩ = some (.int .u64 ((x2.max : Nat) : Int)) := by rw [← Nat.add_mul]; exact whole_at hk hW6 (i := k1 + j2) (x := x2) (by rw [List.getElem?_append_right (by have := HFL.out; simp only [List.length_append, List.length_singleton]; omega), show k1 + j2 - (F ++ (q ++ [y2])).length = 0 from by have := HFL.out; simp only [List.length_append, List.length_singleton]; omega]; rfl) 4 (by omega)
              have d5 : w6.cell? ⟨g, k1 * 6 + j2 * 6 + 5, none⟩ = some (.int .u64 ((x2.last : Nat) : Int)) := by rw [← Nat.add_mul]; exact whole_at hk hW6 (i := k1 + j2) (x := x2) (by rw [List.getElem?_append_right (by have := HFL.out; simp only [List.length_append, List.length_singleton]; omega), show k1 + j2 - (F ++ (q ++ [y2])).length = 0 from by have := HFL.out; simp only [List.length_append, List.length_singleton]; omega]; rfl) 5 (by omega)
              have yy0 : w6.cell? ⟨g, i * 6, none⟩ = some (.int .i64 y3.start) := whole_at hk hW6 HY3.out 0 (by omega)
              have yy1 : w6.cell? ⟨g, i * 6 + 1, none⟩ = some (.int .i64 y3.count) := whole_at hk hW6 HY3.out 1 (by omega)
              have yy2 : w6.cell? ⟨g, i * 6 + 2, none⟩ = some (.int .u64 ((y3.sum : Nat) : Int)) := whole_at hk hW6 HY3.out 2 (by omega)
              have yy3 : w6.cell? ⟨g, i * 6 + 3, none⟩ = some (.int .u64 ((y3.min : Nat) : Int)) := whole_at hk hW6 HY3.out 3 (by omega)
              have yy4 : w6.cell? ⟨g, i * 6 + 4, none⟩ = some (.int .u64 ((y3.max : Nat) : Int)) := whole_at hk hW6 HY3.out 4 (by omega)
              have yy5 : w6.cell? ⟨g, i * 6 + 5, none⟩ = some (.int .u64 ((y3.last : Nat) : Int)) := whole_at hk hW6 HY3.out 5 (by omega)
              have z0 := hW6.free (i * 6)
              have z1 := hW6.free (i * 6 + 1)
              have z2 := hW6.free (i * 6 + 2)
              have z3 := hW6.free (i * 6 + 3)
              have z4 := hW6.free (i * 6 + 4)
              have z5 := hW6.free (i * 6 + 5)
              have HST3 := hidden hstep
              have HW6 := hidden hW6
              clear hstep hW6
              go_wp2_with fail
              go_roundw
              case rel =>
                have hwp := puts_elem hk HW6.out hil2 x2
                rw [HS1.out] at hwp
                refine ⟨j2 + 1, i + 1, q', x2, by go_num, by go_num, by omega, by omega, ?_, by rw [HS2.out]; omega, by rw [HS2.out]; omega, ?_, ?_, ?_⟩
                · rw [Hid, show k1 + (j2 + 1) = k1 + j2 + 1 from by omega, HST3.out, List.length_append, HFL.out]; rfl
                · rw [Hid, show k1 + (j2 + 1) - 1 = k1 + j2 from by omega]; exact HX2.out
                · rw [show k1 + (j2 + 1) = k1 + j2 + 1 from by omega, HST3.out, HR.out]; exact hidden hwp
                · exact hidden (gb_trans hG6 (puts_gb x2.cells (i * 6) w6))
              case measure => simp [intOf]; omega
            | true =>
              rw [if_pos rfl] at hstep
              have HST3 := hidden hstep
              have HW6 := hidden hW6
              clear hstep hW6
              go_wp2_with fail
              go_roundw
              case rel =>
                refine ⟨j2 + 1, i, q ++ [y2], x2, rfl, by go_num, by omega, by omega, ?_, by simp; omega, by simp; omega, ?_, ?_, hidden hG6⟩
                · rw [Hid, show k1 + (j2 + 1) = k1 + j2 + 1 from by omega, HST3.out, HFL.out]
                · rw [Hid, show k1 + (j2 + 1) - 1 = k1 + j2 from by omega]; exact HX2.out
                · rw [show k1 + (j2 + 1) = k1 + j2 + 1 from by omega, HST3.out, HR.out]
                  have := HW6.out
                  rw [show F ++ (q ++ [y2]) ++ x2 :: r = F ++ (q ++ [y2] ++ [x2]) ++ r from by simp] at this
                  exact hidden this
              case measure => simp [intOf]; omega
          · have hjn2 : k1 + j2 = n := by omega
            have hd : l.drop (k1 + j2) = [] := List.drop_eq_nil_of_le (by rw [HL.out]; omega)
            have htk : l.take (k1 + j2) = l := List.take_of_length_le (by rw [HL.out]; omega)
            have hW := hWx.out
            have hFl := hil.out
            rw [hd, List.append_nil, htk] at hW
            rw [htk] at hFl
            obtain ⟨F, hF⟩ : ∃ F, cmpct p l = F := ⟨_, rfl⟩
            rw [hF] at hW hFl
            have hin : i < n := by omega
            have hsz : ((F ++ (q ++ [y2])).flatMap Win.cells ++ rest).length = n * 6 + rest.length := by rw [List.length_append, fm_len hk, show (F ++ (q ++ [y2])).length = n from by simp only [List.length_append, List.length_singleton]; omega]
            have hcl : ∀ ty, (Builtin.clear_ #[55] ty #[.slice (some ⟨g, i * 6, none⟩) (n - i) (c - i)]).run Tryz.prog wr = .ok (.tuple #[]) (wr.setCells g (i * 6) (clearCells (n - i))) := fun ty =>
              run_clear wr ty g (i * 6) (n - i) (c - i) (by omega) (fun q hq => by
                rw [hW.cell, List.getElem?_toArray, List.getElem?_eq_getElem (by rw [hsz]; omega)]; rfl) (fun q hq => hW.free _)
            have hw' := puts_whole (clearCells (n - i)) (i * 6) wr _ hW (by rw [clear_len, hsz]; omega)
            have hg' := puts_gb (g := g) (clearCells (n - i)) (i * 6) wr
            have htake : ((F ++ (q ++ [y2])).flatMap Win.cells ++ rest).take (i * 6) = F.flatMap Win.cells := by
              rw [List.flatMap_append, List.append_assoc, List.take_append_of_le_length (by rw [fm_len hk, hFl]; exact Nat.le_refl _), List.take_of_length_le (by rw [fm_len hk, hFl]; exact Nat.le_refl _)]
            rw [htake, List.append_assoc] at hw'
            have hres : CmpRes g c m (cmpct p l) w (wr.setCells g (i * 6) (clearCells (n - i))) (.slice (some ⟨g, 0, none⟩) i c) := by
              rw [hF]
              refine ⟨_, by rw [hFl], by rw [hFl]; omega, hw', ?_, gb_trans hgx.out hg'⟩
              rw [← HM.out, List.length_append, List.length_append, List.length_append, fm_len hk, fm_len hk, clear_len, List.length_drop, hsz, hFl, HL.out]
              omega
            have HRES := hidden hres
            have hiz : (i : Int) < (n : Int) := by omega
            have hic : (i : Int) ≤ (c : Int) := by omega
            have t6 : ¬ (j2 : Int) < ((n - k1 : Nat) : Int) := by omega
            have t7 : ¬ j2 < n - k1 := by omega
            clear hres hw' hg' hW hWx hgx hF hFl hd htk hsz htake
            go_wp2
            go_ret
            exact ⟨_, rfl, HRES.out⟩
    · obtain rfl : n = k + 1 := by omega
      have hs := hsame.out
      rw [List.take_of_length_le (by rw [HL.out]; exact Nat.le_refl _)] at hs
      have HS := hidden hs
      have hW := hidden (HW.out.below hb hglt)
      have hkz : ¬ ((k + 1 : Nat) : Int) < ((k + 1 : Nat) : Int) := by omega
      clear hs
      go_wp2
      go_ret
      refine ⟨_, rfl, ?_⟩
      rw [HS.out]
      exact ⟨rest, by rw [HL.out]; rfl, by rw [HL.out]; exact hnc, hW.out, HM.out, gb_below hb _⟩
end Go.Proofs.YtbijjjhfekkfaaaGreat.CmpWin
