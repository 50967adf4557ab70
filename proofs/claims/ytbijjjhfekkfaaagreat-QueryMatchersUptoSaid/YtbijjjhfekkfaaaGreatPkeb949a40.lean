/- slices.IndexFunc and slices.DeleteFunc at series, whatever predicate: what they leave. Condition: the predicate has a contract, the row is within the reach. -/
import Derived.Test.YtbijjjhfekkfaaaGreatBase
import Derived.Test.YtbijjjhfekkfaaaGreatPkc787b734
namespace Go.Proofs.YtbijjjhfekkfaaaGreat.DelSer
set_option maxRecDepth 100000
open Go.RowKit

theorem hk (x : Ser) : x.cells.length = 3 := rfl

/-- what is asked of a predicate -/
def PredOk (f : FuncId) (cb : Array Value) (p : Ser → Bool) (l : List Ser) (ok : World → Prop) : Prop :=
  ∀ x ∈ l, ∀ W, ok W → Calls Tryz.prog f (#[.agg #[.slice x.lab.A x.lab.n x.lab.c, .slice x.smp.A x.smp.n x.smp.c, .slice x.win.A x.win.n x.win.c]] ++ cb) W fun e w2 => e = .returned (.bool (p x)) ∧ Below W.heap.size W w2
/-- where the first one is -/
def IdxRes (p : Ser → Bool) (l : List Ser) (r : Int) : Prop := (r = -1 ∧ ∀ x ∈ l, p x = false) ∨ ∃ (i : Nat) (x : Ser), r = i ∧ l[i]? = some x ∧ p x = true ∧ ∀ y ∈ l.take i, p y = false

set_option maxHeartbeats 1600000 in
theorem index_any (A : Option Addr) (n c : Nat) (l : List Ser) (f : FuncId) (cb : Array Value) (p : Ser → Bool) (w : World) (eg : ∀ args w, (callFunc f args).run Tryz.prog w = .ok (.enter f args) w) (hp : PredOk f cb p l (fun W => Below w.heap.size w W)) (hr : Row w w.heap.size 3 A n (l.flatMap Ser.cells)) (hl : l.length = n) (hn : n ≤ 4611686018427387904) :
    Calls Tryz.prog 151 #[.slice A n c, .func (.func f) #[] cb] w
      fun e w' => ∃ r : Int, e = .returned (.int .i64 r) ∧ IdxRes p l r ∧ Below w.heap.size w w' := by
  have hL := hidden hl
  have HR := hidden hr
  have HP := hidden hp
  clear hl hr hp
  go_enter Tryz.func151, Tryz.ntmps151
  go_wp2
  go_loopw [8] (fun i wr => ∃ k : Nat, k ≤ n ∧ i = .int .i64 k ∧ Hid (∀ y ∈ l.take k, p y = false) ∧ Below w.heap.size w wr) (fun i _ => n - (intOf i).toNat)
  case atStart => exact ⟨0, Nat.zero_le _, rfl, hidden (by simp), Below.refl _ _⟩
  case round =>
    obtain ⟨k, hk1, rfl, hall, hb⟩ := hrel
    by_cases hlt : k < n
    · obtain ⟨gs, o, x, rfl, hgs, hx, hcl⟩ := row_at hk (HR.out.below hb) hL.out k hlt
      have d0 : wr.cell? ⟨gs, o + k * 3, none⟩ = some (.slice x.lab.A x.lab.n x.lab.c) := hcl 0 (by omega)
      have d1 : wr.cell? ⟨gs, o + k * 3 + 1, none⟩ = some (.slice x.smp.A x.smp.n x.smp.c) := hcl 1 (by omega)
      have d2 : wr.cell? ⟨gs, o + k * 3 + 2, none⟩ = some (.slice x.win.A x.win.n x.win.c) := hcl 2 (by omega)
      have hcon := HP.out x (List.mem_of_getElem? hx) wr hb
      have hT := hidden (take_snoc? hx)
      have HX := hidden hx
      have HCON := hidden hcon
      have hltz : (k : Int) < (n : Int) := by omega
      have hk0 : (0 : Int) ≤ (k : Int) := by omega
      clear hx hcl hcon
      go_wp2_with fail
      refine HCON.out.mono ?_
      rintro e w1 ⟨rfl, hb1⟩
      have hB1 := hb.trans (hb1.mono hb.size)
      clear HCON hb1 d0 d1 d2
      obtain ⟨b, hv⟩ : ∃ b, p x = b := ⟨_, rfl⟩
      rw [hv]
      have HV := hidden hv
      clear hv
      cases b with
      | false =>
        go_wp2_with fail
        go_roundw
        case rel => exact ⟨k + 1, by omega, by go_num, hidden (by
          intro y hy
          rw [hT.out] at hy
          rcases List.mem_append.1 hy with h | h
          · exact hall.out y h
          · rw [List.mem_singleton.1 h]; exact HV.out), hB1⟩
        case measure => simp [intOf]; omega
      | true =>
        go_wp2_with fail
        go_ret
        exact ⟨_, rfl, .inr ⟨k, x, rfl, HX.out, HV.out, hall.out⟩, hB1⟩
    · obtain rfl : n = k := by omega
      have hall2 := hall.out
      rw [List.take_of_length_le (by rw [hL.out]; exact Nat.le_refl _)] at hall2
      have HA := hidden hall2
      clear hall2
      go_wp2
      go_ret
      exact ⟨-1, rfl, .inl ⟨rfl, HA.out⟩, hb⟩

/-- what is kept -/
def left (p : Ser → Bool) (l : List Ser) : List Ser := l.filter fun x => !p x
theorem left_snoc (p : Ser → Bool) (l : List Ser) (x : Ser) : left p (l ++ [x]) = if p x = true then left p l else left p l ++ [x] := by
  unfold left
  rw [List.filter_append]
  cases h : p x <;> simp [h]
theorem left_all {p : Ser → Bool} {l : List Ser} (h : ∀ x ∈ l, p x = false) : left p l = l := List.filter_eq_self.2 fun x hx => by simp [h x hx]
theorem left_set (F junk : List Ser) (x : Ser) (r : List Ser) (hj : junk ≠ []) : ∃ junk', (F ++ junk ++ x :: r).set F.length x = (F ++ [x]) ++ junk' ++ r ∧ junk'.length = junk.length ∧ junk' ≠ [] := by
  match junk, hj with
  | a :: q, _ =>
    refine ⟨q ++ [x], ?_, by simp, by simp⟩
    rw [List.append_assoc, List.set_append_right _ _ (Nat.le_refl _), Nat.sub_self]
    simp

def clearCells (n : Nat) : List Value := (Builtin.zeroCells #[.slice none 0 0, .slice none 0 0, .slice none 0 0] n).toList
theorem clear_len (n : Nat) : (clearCells n).length = n * 3 := by simp [clearCells, Builtin.zeroCells]
theorem run_clear (w : World) (ty : TypeId) (b o n c : Nat) (hn : 0 < n) (hc : ∀ j, j < n * 3 → (w.cell? ⟨b, o + j, none⟩).isSome = true) (hf : ∀ j, j < n * 3 → w.frozen? ⟨b, o + j, none⟩ = false) :
    (Builtin.clear_ #[43] ty #[.slice (some ⟨b, o, none⟩) n c]).run Tryz.prog w = .ok (.tuple #[]) (w.setCells b o (clearCells n)) := by
  have hl := clear_len n
  unfold clearCells at hl ⊢
  have hst := run_storeCells_cells (P := Tryz.prog) b o (Builtin.zeroCells #[.slice none 0 0, .slice none 0 0, .slice none 0 0] n).toList 0 w (by rw [hl]; simpa using hc) (by rw [hl]; simpa using hf) (by
    intro v hv
    simp only [Builtin.zeroCells, Array.toList_map, List.mem_map] at hv
    obtain ⟨q, _, rfl⟩ := hv
    have : q % 3 < 3 := Nat.mod_lt _ (by decide)
    match q % 3, this with
    | 0, _ => rfl
    | 1, _ => rfl
    | 2, _ => rfl)
  simp only [Nat.add_zero] at hst
  obtain ⟨m, rfl⟩ : ∃ m, n = m + 1 := ⟨n - 1, by omega⟩
  simp [Builtin.clear_, run_underlying Tryz.underlying43, Value.cells, hst]

/-- what DeleteFunc leaves: the head of the same block -/
def DelRes (g c m : Nat) (F : List Ser) (w w' : World) (v : Value) : Prop :=
  ∃ rest, v = .slice (some ⟨g, 0, none⟩) F.length c ∧ F.length ≤ c ∧ Whole1 w' g 57 (F.flatMap Ser.cells ++ rest).toArray ∧ (F.flatMap Ser.cells ++ rest).length = m ∧ w.grownBy w' (some g)

set_option maxHeartbeats 6400000 in
theorem delete_any (g n c : Nat) (l : List Ser) (rest : List Value) (m : Nat) (f : FuncId) (cb : Array Value) (p : Ser → Bool) (w : World) (eg : ∀ args w, (callFunc f args).run Tryz.prog w = .ok (.enter f args) w) (hp : PredOk f cb p l (fun W => w.grownBy W (some g))) (hw : Whole1 w g 57 (l.flatMap Ser.cells ++ rest).toArray) (hl : l.length = n) (hm : (l.flatMap Ser.cells ++ rest).length = m) (hnc : n ≤ c) (hn : n ≤ 4611686018427387904) :
    Calls Tryz.prog 74 #[.slice (some ⟨g, 0, none⟩) n c, .func (.func f) #[] cb] w
      fun e w' => ∃ v, e = .returned v ∧ DelRes g c m (left p l) w w' v := by
  have hglt := hw.lt
  have hrow := row_of_whole hk hw hl
  have HIX := hidden (index_any (some ⟨g, 0, none⟩) n c l f cb p w eg (fun x hx W hW => hp x hx W (gb_below hW _)) hrow hl hn)
  have HW := hidden hw
  have HL := hidden hl
  have HP := hidden hp
  have HM := hidden hm
  clear hm
  clear hrow hw hl hp
  go_enter Tryz.func74, Tryz.ntmps74
  go_wp2_with fail
  refine HIX.out.mono ?_
  rintro e w1 ⟨r, rfl, hr, hb1⟩
  have hw1 := HW.out.below hb1 hglt
  have hg1 : w.grownBy w1 (some g) := gb_below hb1 _
  clear HIX
  rcases hr with ⟨rfl, hall⟩ | ⟨i0, x, rfl, hx, hxr, hpre⟩
  · have hs := hidden (left_all hall)
    have HW1 := hidden hw1
    clear hall hw1
    go_wp2
    go_ret
    exact ⟨_, rfl, rest, by rw [hs.out, HL.out]; rfl, by rw [hs.out, HL.out]; exact hnc, by rw [hs.out]; exact HW1.out, by rw [hs.out]; exact HM.out, hg1⟩
  · have hi0 : i0 < n := by rw [← HL.out]; exact (List.getElem?_eq_some_iff.1 hx).1
    have ht1 : ((i0 : Int) == -1) = false := by simp
    have hp1 : left p (l.take i0) = l.take i0 := left_all hpre
    have hp2 : left p (l.take (i0 + 1)) = l.take i0 := by rw [take_snoc? hx, left_snoc, if_pos hxr, hp1]
    have hsplit : l = left p (l.take (i0 + 1)) ++ [x] ++ l.drop (i0 + 1) := by
      rw [hp2, List.append_assoc, List.singleton_append, ← (List.getElem?_eq_some_iff.1 hx).2, ← List.drop_eq_getElem_cons, List.take_append_drop]
    have hlen : (left p (l.take (i0 + 1))).length = i0 := by rw [hp2, List.length_take, HL.out]; omega
    have HW1 : Whole1 w1 g 57 ((left p (l.take (i0 + 1)) ++ [x] ++ l.drop (i0 + 1)).flatMap Ser.cells ++ rest).toArray := by rw [← hsplit]; exact hw1
    have HS1 := hidden HW1
    have HLEN := hidden hlen
    clear hw1 HW1 hsplit hp1 hp2 hpre hxr hx hlen
    go_wp2_with fail
    go_loopw [5, 6] (fun vi vj wx => ∃ (j : Nat) (junk : List Ser), vi = .int .i64 (((left p (l.take j)).length : Nat) : Int) ∧ vj = .int .i64 j ∧ j ≤ n ∧ (left p (l.take j)).length + junk.length = j ∧ junk ≠ [] ∧ Hid (Whole1 wx g 57 ((left p (l.take j) ++ junk ++ l.drop j).flatMap Ser.cells ++ rest).toArray) ∧ Hid (w.grownBy wx (some g))) (fun _ vj _ => n - (intOf vj).toNat)
    case atStart => exact ⟨i0 + 1, [x], by rw [HLEN.out], by go_num, by omega, by rw [HLEN.out]; rfl, by simp, HS1, hidden hg1⟩
    case round =>
      obtain ⟨j, junk, rfl, rfl, hj, hjk, hne, hWx, hgx⟩ := hrel
      by_cases hlt : j < n
      · obtain ⟨x, hx⟩ : ∃ x, l[j]? = some x := ⟨l[j]'(by rw [HL.out]; exact hlt), List.getElem?_eq_getElem _⟩
        have hdrop : l.drop j = x :: l.drop (j + 1) := by
          obtain ⟨h1, h2⟩ := List.getElem?_eq_some_iff.1 hx
          rw [List.drop_eq_getElem_cons h1, h2]
        have hW := hWx.out
        rw [hdrop] at hW
        have hsn := left_snoc p (l.take j) x
        rw [← take_snoc? hx] at hsn
        have hFl : (left p (l.take j)).length ≤ j := by omega
        obtain ⟨F, hF⟩ : ∃ F, left p (l.take j) = F := ⟨_, rfl⟩
        obtain ⟨r, hr⟩ : ∃ r, l.drop (j + 1) = r := ⟨_, rfl⟩
        rw [hF] at hsn hW hjk hFl ⊢
        rw [hr] at hW
        have hjl : (F ++ junk).length = j := by rw [List.length_append]; exact hjk
        have hxx : (F ++ junk ++ x :: r)[j]? = some x := by
          rw [List.getElem?_append_right (by omega), hjl, Nat.sub_self]; rfl
        have hpos : 0 < junk.length := List.length_pos_iff.2 hne
        have d0 : wr.cell? ⟨g, j * 3, none⟩ = some (.slice x.lab.A x.lab.n x.lab.c) := whole_at hk hW hxx 0 (by omega)
        have d1 : wr.cell? ⟨g, j * 3 + 1, none⟩ = some (.slice x.smp.A x.smp.n x.smp.c) := whole_at hk hW hxx 1 (by omega)
        have d2 : wr.cell? ⟨g, j * 3 + 2, none⟩ = some (.slice x.win.A x.win.n x.win.c) := whole_at hk hW hxx 2 (by omega)
        obtain ⟨i, hi⟩ : ∃ i, F.length = i := ⟨_, rfl⟩
        rw [hi] at hjk hFl ⊢
        have hin : i < n := by omega
        have hil : i < (F ++ junk ++ x :: r).length := by rw [List.length_append, List.length_append]; omega
        obtain ⟨sj, hs1, hs2, hs3⟩ := left_set F junk x r hne
        rw [hi] at hs1
        have hgl := hW.lt
        have HI := hidden hi
        have HF := hidden hF
        have HR := hidden hr
        have HSN := hidden hsn
        have HS1x := hidden hs1
        obtain ⟨y, hy⟩ : ∃ y, (F ++ junk ++ x :: r)[i]? = some y := ⟨_, List.getElem?_eq_getElem hil⟩
        have hltz : (j : Int) < (n : Int) := by omega
        have hiz : (i : Int) < (n : Int) := by omega
        have HY := hidden hy
        have HDR := hidden hdrop
        have HXM := hidden (List.mem_of_getElem? hx)
        have HWW := hidden hW
        clear hdrop hsn hi hF hr hs1 hxx hjl hx hy hW
        go_wp2_with fail
        refine (HP.out x HXM.out _ (gb_alloc hgx.out _)).mono ?_
        rintro e w2 ⟨rfl, hb2⟩
        have h6 : Whole1 w2 wr.heap.size 57 #[.slice x.lab.A x.lab.n x.lab.c, .slice x.smp.A x.smp.n x.smp.c, .slice x.win.A x.win.n x.win.c] := (Whole1.new wr _ _).below hb2 (by simp)
        have hW2 := (HWW.out.alloc (Obj.cells #[.slice x.lab.A x.lab.n x.lab.c, .slice x.smp.A x.smp.n x.smp.c, .slice x.win.A x.win.n x.win.c] 57)).below hb2 (by simp; omega)
        have hg2 : w.grownBy w2 (some g) := gb_trans (gb_alloc hgx.out _) (gb_below hb2 _)
        have HG2 := hidden hg2
        have HW2 := hidden hW2
        have q0 : w2.cell? ⟨wr.heap.size, 0, none⟩ = some (.slice x.lab.A x.lab.n x.lab.c) := h6.cell 0
        have q1 : w2.cell? ⟨wr.heap.size, 1, none⟩ = some (.slice x.smp.A x.smp.n x.smp.c) := h6.cell 1
        have q2 : w2.cell? ⟨wr.heap.size, 2, none⟩ = some (.slice x.win.A x.win.n x.win.c) := h6.cell 2
        clear h6 hb2 d0 d1 d2 hg2 hWx hgx HWW
        obtain ⟨b, hv⟩ : ∃ b, p x = b := ⟨_, rfl⟩
        have hsn := HSN.out
        rw [hv] at hsn ⊢
        clear hv
        cases b with
        | false =>
          rw [if_neg (by decide)] at hsn
          have yy0 : w2.cell? ⟨g, i * 3, none⟩ = some (.slice y.lab.A y.lab.n y.lab.c) := whole_at hk hW2 HY.out 0 (by omega)
          have yy1 : w2.cell? ⟨g, i * 3 + 1, none⟩ = some (.slice y.smp.A y.smp.n y.smp.c) := whole_at hk hW2 HY.out 1 (by omega)
          have yy2 : w2.cell? ⟨g, i * 3 + 2, none⟩ = some (.slice y.win.A y.win.n y.win.c) := whole_at hk hW2 HY.out 2 (by omega)
          have z0 := hW2.free (i * 3)
          have z1 := hW2.free (i * 3 + 1)
          have z2 := hW2.free (i * 3 + 2)
          have HSN2 := hidden hsn
          clear hW2 hsn
          go_wp2_with fail
          go_roundw
          case rel =>
            have hwp := puts_elem hk HW2.out hil x
            rw [HS1x.out] at hwp
            refine ⟨j + 1, sj, ?_, by go_num, by omega, ?_, hs3, ?_, ?_⟩
            · rw [HSN2.out, List.length_append, List.length_singleton, HI.out]; go_num
            · rw [HSN2.out, List.length_append, List.length_singleton, HI.out, hs2]; omega
            · rw [HSN2.out, HR.out]; exact hidden hwp
            · exact hidden (gb_trans HG2.out (puts_gb x.cells (i * 3) w2))
          case measure => simp [intOf]; omega
        | true =>
          rw [if_pos rfl] at hsn
          have HSN2 := hidden hsn
          clear hW2 hsn
          go_wp2_with fail
          go_roundw
          case rel =>
            refine ⟨j + 1, junk ++ [x], ?_, by go_num, by omega, ?_, by simp, ?_, HG2⟩
            · rw [HSN2.out, HI.out]
            · rw [HSN2.out, List.length_append, List.length_singleton, HI.out]; omega
            · rw [HSN2.out, HR.out]
              have := HW2.out
              rw [show F ++ junk ++ x :: r = F ++ (junk ++ [x]) ++ r from by simp] at this
              exact hidden this
          case measure => simp [intOf]; omega
      · obtain rfl : n = j := by omega
        have hd : l.drop n = [] := List.drop_eq_nil_of_le (by rw [HL.out]; exact Nat.le_refl _)
        have htk : l.take n = l := List.take_of_length_le (by rw [HL.out]; exact Nat.le_refl _)
        have hW := hWx.out
        rw [hd, List.append_nil] at hW
        rw [htk] at hW hjk ⊢
        have hpos : 0 < junk.length := List.length_pos_iff.2 hne
        obtain ⟨F, hF⟩ : ∃ F, left p l = F := ⟨_, rfl⟩
        rw [hF] at hW hjk ⊢
        obtain ⟨i, hi⟩ : ∃ i, F.length = i := ⟨_, rfl⟩
        rw [hi] at hjk ⊢
        have hin : i < n := by omega
        have hsz : ((F ++ junk).flatMap Ser.cells ++ rest).length = n * 3 + rest.length := by rw [List.length_append, fm_len hk, List.length_append, hi, hjk]
        have hcl : ∀ ty, (Builtin.clear_ #[43] ty #[.slice (some ⟨g, i * 3, none⟩) (n - i) (c - i)]).run Tryz.prog wr = .ok (.tuple #[]) (wr.setCells g (i * 3) (clearCells (n - i))) := fun ty =>
          run_clear wr ty g (i * 3) (n - i) (c - i) (by omega) (fun q hq => by
            rw [hW.cell, List.getElem?_toArray, List.getElem?_eq_getElem (by rw [hsz]; omega)]; rfl) (fun q hq => hW.free _)
        have hw' := puts_whole (clearCells (n - i)) (i * 3) wr _ hW (by rw [clear_len, hsz]; omega)
        have hg' := puts_gb (g := g) (clearCells (n - i)) (i * 3) wr
        have htake : ((F ++ junk).flatMap Ser.cells ++ rest).take (i * 3) = F.flatMap Ser.cells := by
          rw [List.flatMap_append, List.append_assoc, List.take_append_of_le_length (by rw [fm_len hk, hi]; exact Nat.le_refl _), List.take_of_length_le (by rw [fm_len hk, hi]; exact Nat.le_refl _)]
        rw [htake, List.append_assoc] at hw'
        have hres : DelRes g c m (left p l) w (wr.setCells g (i * 3) (clearCells (n - i))) (.slice (some ⟨g, 0, none⟩) i c) := by
          refine ⟨_, by rw [hF, hi], by rw [hF, hi]; omega, by rw [hF]; exact hw', ?_, gb_trans hgx.out hg'⟩
          rw [← HM.out, hF, List.length_append, List.length_append, List.length_append, fm_len hk, fm_len hk, clear_len, List.length_drop, hsz, hi, HL.out]
          omega
        have HRES := hidden hres
        have hiz : (i : Int) < (n : Int) := by omega
        have hic : (i : Int) ≤ (c : Int) := by omega
        clear hres hw' hg' hW hWx hgx hF hi hd htk hsz htake
        go_wp2
        go_ret
        exact ⟨_, rfl, HRES.out⟩

/-- at no element -/
theorem delete0_any (A : Option Addr) (c : Nat) (fv : Value) (w : World) :
    Calls Tryz.prog 74 #[.slice A 0 c, fv] w fun e w' => e = .returned (.slice A 0 c) ∧ w = w' := by
  have hix : Calls Tryz.prog 151 #[.slice A 0 c, fv] w fun e w' => e = .returned (.int .i64 (-1)) ∧ w = w' := by
    go_enter Tryz.func151, Tryz.ntmps151
    go_wp2
    refine wp_loop_rounds 1 ?_
    rw [rounds_succ]
    go_wp2
    go_ret
    exact ⟨rfl, rfl⟩
  have HIX := hidden hix
  clear hix
  go_enter Tryz.func74, Tryz.ntmps74
  go_wp2_with fail
  refine HIX.out.mono ?_
  rintro e w1 ⟨rfl, rfl⟩
  go_wp2
  go_ret
  exact ⟨rfl, rfl⟩
end Go.Proofs.YtbijjjhfekkfaaaGreat.DelSer
