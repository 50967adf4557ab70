/- slices.IndexFunc and slices.DeleteFunc at spans, whatever predicate: what they leave. Condition: the predicate has a contract, the row is within the reach. slices.SortFunc at spans, whatever order: what it leaves. Condition: the order has a contract, the row is within the reach. spans.Of: the one list of the spans. Condition: the row is within the reach. The law's helpers ref, twin, alike at spans: what they return. Condition: the rows are within the reach. A list with one element put in, plainly; in order. No program. -/
import Derived.Test.YthncochjhbmceaaGreatPkb5fb2d9c
import Derived.Test.YthncochjhbmceaaGreatPk4a1fa525
import Derived.Test.YthncochjhbmceaaGreatPkc251b86b
import Derived.Shelf.SlSortCmp.WholeK
import Derived.StillTailTactics
import Derived.Sort.Statements
namespace Go.Proofs.YthncochjhbmceaaGreat.DelSpn
set_option maxRecDepth 100000
open Go.RowKit

theorem hk (x : Spn) : x.cells.length = 2 := rfl

/-- what is asked of a predicate -/
def PredOk (f : FuncId) (cb : Array Value) (p : Spn → Bool) (l : List Spn) (ok : World → Prop) : Prop :=
  ∀ x ∈ l, ∀ W, ok W → Calls Tryz.prog f (#[.agg #[.int .i64 x.frm, .int .i64 x.til]] ++ cb) W fun e w2 => e = .returned (.bool (p x)) ∧ Below W.heap.size W w2
/-- where the first one is -/
def IdxRes (p : Spn → Bool) (l : List Spn) (r : Int) : Prop := (r = -1 ∧ ∀ x ∈ l, p x = false) ∨ ∃ (i : Nat) (x : Spn), r = i ∧ l[i]? = some x ∧ p x = true ∧ ∀ y ∈ l.take i, p y = false

set_option maxHeartbeats 1600000 in
theorem index_any (A : Option Addr) (n c : Nat) (l : List Spn) (f : FuncId) (cb : Array Value) (p : Spn → Bool) (w : World) (eg : ∀ args w, (callFunc f args).run Tryz.prog w = .ok (.enter f args) w) (hp : PredOk f cb p l (fun W => Below w.heap.size w W)) (hr : Row w w.heap.size 2 A n (l.flatMap Spn.cells)) (hl : l.length = n) (hn : n ≤ 4611686018427387904) :
    Calls Tryz.prog 115 #[.slice A n c, .func (.func f) #[] cb] w
      fun e w' => ∃ r : Int, e = .returned (.int .i64 r) ∧ IdxRes p l r ∧ Below w.heap.size w w' := by
  have hL := hidden hl
  have HR := hidden hr
  have HP := hidden hp
  clear hl hr hp
  go_enter Tryz.func115, Tryz.ntmps115
  go_wp2
  go_loopw [8] (fun i wr => ∃ k : Nat, k ≤ n ∧ i = .int .i64 k ∧ Hid (∀ y ∈ l.take k, p y = false) ∧ Below w.heap.size w wr) (fun i _ => n - (intOf i).toNat)
  case atStart => exact ⟨0, Nat.zero_le _, rfl, hidden (by simp), Below.refl _ _⟩
  case round =>
    obtain ⟨k, hk1, rfl, hall, hb⟩ := hrel
    by_cases hlt : k < n
    · obtain ⟨gs, o, x, rfl, hgs, hx, hcl⟩ := row_at hk (HR.out.below hb) hL.out k hlt
      have d0 : wr.cell? ⟨gs, o + k * 2, none⟩ = some (.int .i64 x.frm) := hcl 0 (by omega)
      have d1 : wr.cell? ⟨gs, o + k * 2 + 1, none⟩ = some (.int .i64 x.til) := hcl 1 (by omega)
      have hcon := HP.out x (List.mem_of_getElem? hx) wr hb
      have hT := hidden (take_snoc? hx)
      have HX := hidden hx
      have HCON := hidden hcon
      have hltz : (k : Int) < (n : Int) := by omega
      have hk0 : (0 : Int) ≤ (k : Int) := by omega
      clear hx hcl hcon
      go_wp2_with fail
      refine HCON.out.mono ?_
      rintro e w1 ⟨rfl, hb1⟩
      have hB1 := hb.trans (hb1.mono hb.size)
      clear HCON hb1 d0 d1
      obtain ⟨b, hv⟩ : ∃ b, p x = b := ⟨_, rfl⟩
      rw [hv]
      have HV := hidden hv
      clear hv
      cases b with
      | false =>
        go_wp2_with fail
        go_roundw
        case rel => exact ⟨k + 1, by omega, by go_num, hidden (by
          intro y hy
          rw [hT.out] at hy
          rcases List.mem_append.1 hy with h | h
          · exact hall.out y h
          · rw [List.mem_singleton.1 h]; exact HV.out), hB1⟩
        case measure => simp [intOf]; omega
      | true =>
        go_wp2_with fail
        go_ret
        exact ⟨_, rfl, .inr ⟨k, x, rfl, HX.out, HV.out, hall.out⟩, hB1⟩
    · obtain rfl : n = k := by omega
      have hall2 := hall.out
      rw [List.take_of_length_le (by rw [hL.out]; exact Nat.le_refl _)] at hall2
      have HA := hidden hall2
      clear hall2
      go_wp2
      go_ret
      exact ⟨-1, rfl, .inl ⟨rfl, HA.out⟩, hb⟩

/-- what is kept -/
def left (p : Spn → Bool) (l : List Spn) : List Spn := l.filter fun x => !p x
theorem left_snoc (p : Spn → Bool) (l : List Spn) (x : Spn) : left p (l ++ [x]) = if p x = true then left p l else left p l ++ [x] := by
  unfold left
  rw [List.filter_append]
  cases h : p x <;> simp [h]
theorem left_all {p : Spn → Bool} {l : List Spn} (h : ∀ x ∈ l, p x = false) : left p l = l := List.filter_eq_self.2 fun x hx => by simp [h x hx]
theorem left_set (F junk : List Spn) (x : Spn) (r : List Spn) (hj : junk ≠ []) : ∃ junk', (F ++ junk ++ x :: r).set F.length x = (F ++ [x]) ++ junk' ++ r ∧ junk'.length = junk.length ∧ junk' ≠ [] := by
  match junk, hj with
  | a :: q, _ =>
    refine ⟨q ++ [x], ?_, by simp, by simp⟩
    rw [List.append_assoc, List.set_append_right _ _ (Nat.le_refl _), Nat.sub_self]
    simp

def clearCells (n : Nat) : List Value := (Builtin.zeroCells #[.int .i64 0, .int .i64 0] n).toList
theorem clear_len (n : Nat) : (clearCells n).length = n * 2 := by simp [clearCells, Builtin.zeroCells]
theorem run_clear (w : World) (ty : TypeId) (b o n c : Nat) (hn : 0 < n) (hc : ∀ j, j < n * 2 → (w.cell? ⟨b, o + j, none⟩).isSome = true) (hf : ∀ j, j < n * 2 → w.frozen? ⟨b, o + j, none⟩ = false) :
    (Builtin.clear_ #[59] ty #[.slice (some ⟨b, o, none⟩) n c]).run Tryz.prog w = .ok (.tuple #[]) (w.setCells b o (clearCells n)) := by
  have hl := clear_len n
  unfold clearCells at hl ⊢
  have hst := run_storeCells_cells (P := Tryz.prog) b o (Builtin.zeroCells #[.int .i64 0, .int .i64 0] n).toList 0 w (by rw [hl]; simpa using hc) (by rw [hl]; simpa using hf) (by
    intro v hv
    simp only [Builtin.zeroCells, Array.toList_map, List.mem_map] at hv
    obtain ⟨q, _, rfl⟩ := hv
    have : q % 2 < 2 := Nat.mod_lt _ (by decide)
    match q % 2, this with
    | 0, _ => rfl
    | 1, _ => rfl)
  simp only [Nat.add_zero] at hst
  obtain ⟨m, rfl⟩ : ∃ m, n = m + 1 := ⟨n - 1, by omega⟩
  simp [Builtin.clear_, run_underlying Tryz.underlying59, Value.cells, hst]

/-- what DeleteFunc leaves: the head of the same block -/
def DelRes (g c m : Nat) (F : List Spn) (w w' : World) (v : Value) : Prop :=
  ∃ rest, v = .slice (some ⟨g, 0, none⟩) F.length c ∧ F.length ≤ c ∧ Whole1 w' g 33 (F.flatMap Spn.cells ++ rest).toArray ∧ (F.flatMap Spn.cells ++ rest).length = m ∧ w.grownBy w' (some g)

set_option maxHeartbeats 6400000 in
theorem delete_any (g n c : Nat) (l : List Spn) (rest : List Value) (m : Nat) (f : FuncId) (cb : Array Value) (p : Spn → Bool) (w : World) (eg : ∀ args w, (callFunc f args).run Tryz.prog w = .ok (.enter f args) w) (hp : PredOk f cb p l (fun W => w.grownBy W (some g))) (hw : Whole1 w g 33 (l.flatMap Spn.cells ++ rest).toArray) (hl : l.length = n) (hm : (l.flatMap Spn.cells ++ rest).length = m) (hnc : n ≤ c) (hn : n ≤ 4611686018427387904) :
    Calls Tryz.prog 69 #[.slice (some ⟨g, 0, none⟩) n c, .func (.func f) #[] cb] w
      fun e w' => ∃ v, e = .returned v ∧ DelRes g c m (left p l) w w' v := by
  have hglt := hw.lt
  have hrow := row_of_whole hk hw hl
  have HIX := hidden (index_any (some ⟨g, 0, none⟩) n c l f cb p w eg (fun x hx W hW => hp x hx W (gb_below hW _)) hrow hl hn)
  have HW := hidden hw
  have HL := hidden hl
  have HP := hidden hp
  have HM := hidden hm
  clear hm
  clear hrow hw hl hp
  go_enter Tryz.func69, Tryz.ntmps69
  go_wp2_with fail
  refine HIX.out.mono ?_
  rintro e w1 ⟨r, rfl, hr, hb1⟩
  have hw1 := HW.out.below hb1 hglt
  have hg1 : w.grownBy w1 (some g) := gb_below hb1 _
  clear HIX
  rcases hr with ⟨rfl, hall⟩ | ⟨i0, x, rfl, hx, hxr, hpre⟩
  · have hs := hidden (left_all hall)
    have HW1 := hidden hw1
    clear hall hw1
    go_wp2
    go_ret
    exact ⟨_, rfl, rest, by rw [hs.out, HL.out]; rfl, by rw [hs.out, HL.out]; exact hnc, by rw [hs.out]; exact HW1.out, by rw [hs.out]; exact HM.out, hg1⟩
  · have hi0 : i0 < n := by rw [← HL.out]; exact (List.getElem?_eq_some_iff.1 hx).1
    have ht1 : ((i0 : Int) == -1) = false := by simp
    have hp1 : left p (l.take i0) = l.take i0 := left_all hpre
    have hp2 : left p (l.take (i0 + 1)) = l.take i0 := by rw [take_snoc? hx, left_snoc, if_pos hxr, hp1]
    have hsplit : l = left p (l.take (i0 + 1)) ++ [x] ++ l.drop (i0 + 1) := by
      rw [hp2, List.append_assoc, List.singleton_append, ← (List.getElem?_eq_some_iff.1 hx).2, ← List.drop_eq_getElem_cons, List.take_append_drop]
    have hlen : (left p (l.take (i0 + 1))).length = i0 := by rw [hp2, List.length_take, HL.out]; omega
    have HW1 : Whole1 w1 g 33 ((left p (l.take (i0 + 1)) ++ [x] ++ l.drop (i0 + 1)).flatMap Spn.cells ++ rest).toArray := by rw [← hsplit]; exact hw1
    have HS1 := hidden HW1
    have HLEN := hidden hlen
    clear hw1 HW1 hsplit hp1 hp2 hpre hxr hx hlen
    go_wp2_with fail
    go_loopw [5, 6] (fun vi vj wx => ∃ (j : Nat) (junk : List Spn), vi = .int .i64 (((left p (l.take j)).length : Nat) : Int) ∧ vj = .int .i64 j ∧ j ≤ n ∧ (left p (l.take j)).length + junk.length = j ∧ junk ≠ [] ∧ Hid (Whole1 wx g 33 ((left p (l.take j) ++ junk ++ l.drop j).flatMap Spn.cells ++ rest).toArray) ∧ Hid (w.grownBy wx (some g))) (fun _ vj _ => n - (intOf vj).toNat)
    case atStart => exact ⟨i0 + 1, [x], by rw [HLEN.out], by go_num, by omega, by rw [HLEN.out]; rfl, by simp, HS1, hidden hg1⟩
    case round =>
      obtain ⟨j, junk, rfl, rfl, hj, hjk, hne, hWx, hgx⟩ := hrel
      by_cases hlt : j < n
      · obtain ⟨x, hx⟩ : ∃ x, l[j]? = some x := ⟨l[j]'(by rw [HL.out]; exact hlt), List.getElem?_eq_getElem _⟩
        have hdrop : l.drop j = x :: l.drop (j + 1) := by
          obtain ⟨h1, h2⟩ := List.getElem?_eq_some_iff.1 hx
          rw [List.drop_eq_getElem_cons h1, h2]
        have hW := hWx.out
        rw [hdrop] at hW
        have hsn := left_snoc p (l.take j) x
        rw [← take_snoc? hx] at hsn
        have hFl : (left p (l.take j)).length ≤ j := by omega
        obtain ⟨F, hF⟩ : ∃ F, left p (l.take j) = F := ⟨_, rfl⟩
        obtain ⟨r, hr⟩ : ∃ r, l.drop (j + 1) = r := ⟨_, rfl⟩
        rw [hF] at hsn hW hjk hFl ⊢
        rw [hr] at hW
        have hjl : (F ++ junk).length = j := by rw [List.length_append]; exact hjk
        have hxx : (F ++ junk ++ x :: r)[j]? = some x := by
          rw [List.getElem?_append_right (by omega), hjl, Nat.sub_self]; rfl
        have hpos : 0 < junk.length := List.length_pos_iff.2 hne
        have d0 : wr.cell? ⟨g, j * 2, none⟩ = some (.int .i64 x.frm) := whole_at hk hW hxx 0 (by omega)
        have d1 : wr.cell? ⟨g, j * 2 + 1, none⟩ = some (.int .i64 x.til) := whole_at hk hW hxx 1 (by omega)
        obtain ⟨i, hi⟩ : ∃ i, F.length = i := ⟨_, rfl⟩
        rw [hi] at hjk hFl ⊢
        have hin : i < n := by omega
        have hil : i < (F ++ junk ++ x :: r).length := by rw [List.length_append, List.length_append]; omega
        obtain ⟨sj, hs1, hs2, hs3⟩ := left_set F junk x r hne
        rw [hi] at hs1
        have hgl := hW.lt
        have HI := hidden hi
        have HF := hidden hF
        have HR := hidden hr
        have HSN := hidden hsn
        have HS1x := hidden hs1
        obtain ⟨y, hy⟩ : ∃ y, (F ++ junk ++ x :: r)[i]? = some y := ⟨_, List.getElem?_eq_getElem hil⟩
        have hltz : (j : Int) < (n : Int) := by omega
        have hiz : (i : Int) < (n : Int) := by omega
        have HY := hidden hy
        have HDR := hidden hdrop
        have HXM := hidden (List.mem_of_getElem? hx)
        have HWW := hidden hW
        clear hdrop hsn hi hF hr hs1 hxx hjl hx hy hW
        go_wp2_with fail
        refine (HP.out x HXM.out _ (gb_alloc hgx.out _)).mono ?_
        rintro e w2 ⟨rfl, hb2⟩
        have h6 : Whole1 w2 wr.heap.size 33 #[.int .i64 x.frm, .int .i64 x.til] := (Whole1.new wr _ _).below hb2 (by simp)
        have hW2 := (HWW.out.alloc (Obj.cells #[.int .i64 x.frm, .int .i64 x.til] 33)).below hb2 (by simp; omega)
        have hg2 : w.grownBy w2 (some g) := gb_trans (gb_alloc hgx.out _) (gb_below hb2 _)
        have HG2 := hidden hg2
        have HW2 := hidden hW2
        have q0 : w2.cell? ⟨wr.heap.size, 0, none⟩ = some (.int .i64 x.frm) := h6.cell 0
        have q1 : w2.cell? ⟨wr.heap.size, 1, none⟩ = some (.int .i64 x.til) := h6.cell 1
        clear h6 hb2 d0 d1 hg2 hWx hgx HWW
        obtain ⟨b, hv⟩ : ∃ b, p x = b := ⟨_, rfl⟩
        have hsn := HSN.out
        rw [hv] at hsn ⊢
        clear hv
        cases b with
        | false =>
          rw [if_neg (by decide)] at hsn
          have yy0 : w2.cell? ⟨g, i * 2, none⟩ = some (.int .i64 y.frm) := whole_at hk hW2 HY.out 0 (by omega)
          have yy1 : w2.cell? ⟨g, i * 2 + 1, none⟩ = some (.int .i64 y.til) := whole_at hk hW2 HY.out 1 (by omega)
          have z0 := hW2.free (i * 2)
          have z1 := hW2.free (i * 2 + 1)
          have HSN2 := hidden hsn
          clear hW2 hsn
          go_wp2_with fail
          go_roundw
          case rel =>
            have hwp := puts_elem hk HW2.out hil x
            rw [HS1x.out] at hwp
            refine ⟨j + 1, sj, ?_, by go_num, by omega, ?_, hs3, ?_, ?_⟩
            · rw [HSN2.out, List.length_append, List.length_singleton, HI.out]; go_num
            · rw [HSN2.out, List.length_append, List.length_singleton, HI.out, hs2]; omega
            · rw [HSN2.out, HR.out]; exact hidden hwp
            · exact hidden (gb_trans HG2.out (puts_gb x.cells (i * 2) w2))
          case measure => simp [intOf]; omega
        | true =>
          rw [if_pos rfl] at hsn
          have HSN2 := hidden hsn
          clear hW2 hsn
          go_wp2_with fail
          go_roundw
          case rel =>
            refine ⟨j + 1, junk ++ [x], ?_, by go_num, by omega, ?_, by simp, ?_, HG2⟩
            · rw [HSN2.out, HI.out]
            · rw [HSN2.out, List.length_append, List.length_singleton, HI.out]; omega
            · rw [HSN2.out, HR.out]
              have := HW2.out
              rw [show F ++ junk ++ x :: r = F ++ (junk ++ [x]) ++ r from by simp] at this
              exact hidden this
          case measure => simp [intOf]; omega
      · obtain rfl : n = j := by omega
        have hd : l.drop n = [] := List.drop_eq_nil_of_le (by rw [HL.out]; exact Nat.le_refl _)
        have htk : l.take n = l := List.take_of_length_le (by rw [HL.out]; exact Nat.le_refl _)
        have hW := hWx.out
        rw [hd, List.append_nil] at hW
        rw [htk] at hW hjk ⊢
        have hpos : 0 < junk.length := List.length_pos_iff.2 hne
        obtain ⟨F, hF⟩ : ∃ F, left p l = F := ⟨_, rfl⟩
        rw [hF] at hW hjk ⊢
        obtain ⟨i, hi⟩ : ∃ i, F.length = i := ⟨_, rfl⟩
        rw [hi] at hjk ⊢
        have hin : i < n := by omega
        have hsz : ((F ++ junk).flatMap Spn.cells ++ rest).length = n * 2 + rest.length := by rw [List.length_append, fm_len hk, List.length_append, hi, hjk]
        have hcl : ∀ ty, (Builtin.clear_ #[59] ty #[.slice (some ⟨g, i * 2, none⟩) (n - i) (c - i)]).run Tryz.prog wr = .ok (.tuple #[]) (wr.setCells g (i * 2) (clearCells (n - i))) := fun ty =>
          run_clear wr ty g (i * 2) (n - i) (c - i) (by omega) (fun q hq => by
            rw [hW.cell, List.getElem?_toArray, List.getElem?_eq_getElem (by rw [hsz]; omega)]; rfl) (fun q hq => hW.free _)
        have hw' := puts_whole (clearCells (n - i)) (i * 2) wr _ hW (by rw [clear_len, hsz]; omega)
        have hg' := puts_gb (g := g) (clearCells (n - i)) (i * 2) wr
        have htake : ((F ++ junk).flatMap Spn.cells ++ rest).take (i * 2) = F.flatMap Spn.cells := by
          rw [List.flatMap_append, List.append_assoc, List.take_append_of_le_length (by rw [fm_len hk, hi]; exact Nat.le_refl _), List.take_of_length_le (by rw [fm_len hk, hi]; exact Nat.le_refl _)]
        rw [htake, List.append_assoc] at hw'
        have hres : DelRes g c m (left p l) w (wr.setCells g (i * 2) (clearCells (n - i))) (.slice (some ⟨g, 0, none⟩) i c) := by
          refine ⟨_, by rw [hF, hi], by rw [hF, hi]; omega, by rw [hF]; exact hw', ?_, gb_trans hgx.out hg'⟩
          rw [← HM.out, hF, List.length_append, List.length_append, List.length_append, fm_len hk, fm_len hk, clear_len, List.length_drop, hsz, hi, HL.out]
          omega
        have HRES := hidden hres
        have hiz : (i : Int) < (n : Int) := by omega
        have hic : (i : Int) ≤ (c : Int) := by omega
        clear hres hw' hg' hW hWx hgx hF hi hd htk hsz htake
        go_wp2
        go_ret
        exact ⟨_, rfl, HRES.out⟩

/-- at no element -/
theorem delete0_any (A : Option Addr) (c : Nat) (fv : Value) (w : World) :
    Calls Tryz.prog 69 #[.slice A 0 c, fv] w fun e w' => e = .returned (.slice A 0 c) ∧ w = w' := by
  have hix : Calls Tryz.prog 115 #[.slice A 0 c, fv] w fun e w' => e = .returned (.int .i64 (-1)) ∧ w = w' := by
    go_enter Tryz.func115, Tryz.ntmps115
    go_wp2
    refine wp_loop_rounds 1 ?_
    rw [rounds_succ]
    go_wp2
    go_ret
    exact ⟨rfl, rfl⟩
  have HIX := hidden hix
  clear hix
  go_enter Tryz.func69, Tryz.ntmps69
  go_wp2_with fail
  refine HIX.out.mono ?_
  rintro e w1 ⟨rfl, rfl⟩
  go_wp2
  go_ret
  exact ⟨rfl, rfl⟩
/-- DeleteFunc at a row of the call's own -/
theorem deleteAll_any (v : Value) (n base : Nat) (l : List Spn) (f : FuncId) (cb : Array Value) (p : Spn → Bool) (w : World) (eg : ∀ args w, (callFunc f args).run Tryz.prog w = .ok (.enter f args) w) (hp : ∀ g, base ≤ g → PredOk f cb p l (fun W => w.grownBy W (some g))) (hown : w.ownsRow base 33 2 v n (l.flatMap Spn.cells)) (hl : l.length = n) (hn : n ≤ 4611686018427387904) :
    Calls Tryz.prog 69 #[v, .func (.func f) #[] cb] w
      fun e w' => ∃ v', e = .returned v' ∧ w'.ownsRow base 33 2 v' (left p l).length ((left p l).flatMap Spn.cells) ∧ w.grownBy w' v.ownBlock ∧ v'.ownBlock = v.ownBlock := by
  rcases Nat.eq_zero_or_pos n with h0 | h0
  · subst h0
    obtain rfl : l = [] := List.eq_nil_of_length_eq_zero hl
    obtain ⟨A, c, rfl, _, _⟩ := own_shape hown
    refine (delete0_any A c _ w).mono ?_
    rintro e w' ⟨rfl, rfl⟩
    exact ⟨_, rfl, hown, gb_refl _ _, rfl⟩
  · obtain ⟨g, c, rest, rfl, hg, hw, hnc, hc, _, hm⟩ := own_whole_g hk hown h0
    refine (delete_any g n c l rest (c * 2) f cb p w eg (hp g hg) hw hl hm hnc hn).mono ?_
    rintro e w' ⟨v', rfl, rest', rfl, hF, hw', hm', hgb⟩
    exact ⟨_, rfl, own_of_whole_g hk hg hw' hF hc rfl hm', hgb, rfl⟩
end Go.Proofs.YthncochjhbmceaaGreat.DelSpn

namespace Go.Proofs.YthncochjhbmceaaGreat.SrfSpn
set_option maxRecDepth 100000
open Go.Shelf Go.RowKit Go.Lib Go.Sort

def ren : Ren := { f := fun n => if n = 6 then 71 else if n = 14 then 116 else if n = 15 then 86 else if n = 20 then 154 else if n = 21 then 155 else if n = 22 then 156 else if n = 23 then 157 else if n = 24 then 158 else if n = 25 then 159 else if n = 26 then 160 else if n = 27 then 161 else if n = 28 then 139 else if n = 29 then 140 else if n = 46 then 188 else if n = 47 then 168 else if n = 48 then 169 else if n = 49 then 189 else if n = 50 then 190 else if n = 57 then 203 else 0, t := fun n => if n = 0 then 0 else if n = 3 then 3 else if n = 4 then 4 else if n = 5 then 5 else if n = 9 then 9 else if n = 22 then 59 else if n = 24 then 33 else if n = 25 then 194 else if n = 39 then 214 else if n = 45 then 260 else if n = 46 then 261 else if n = 50 then 103 else if n = 53 then 267 else if n = 55 then 66 else if n = 66 then 311 else if n = 70 then 315 else if n = 76 then 341 else if n = 77 then 342 else 0, g := fun _ => 0 }
theorem lays : SlLaysF0.n6 Tryz.prog ren where
  mixed := by kernel_rfl
  f6 := ⟨_, by kernel_rfl, Tryz.func71⟩
  f14 := ⟨_, by kernel_rfl, Tryz.func116⟩
  f15 := Tryz.func86
  f20 := ⟨_, by kernel_rfl, Tryz.func154⟩
  f21 := ⟨_, by kernel_rfl, Tryz.func155⟩
  f22 := ⟨_, by kernel_rfl, Tryz.func156⟩
  f23 := ⟨_, by kernel_rfl, Tryz.func157⟩
  f24 := ⟨_, by kernel_rfl, Tryz.func158⟩
  f25 := ⟨_, by kernel_rfl, Tryz.func159⟩
  f26 := ⟨_, by kernel_rfl, Tryz.func160⟩
  f27 := ⟨_, by kernel_rfl, Tryz.func161⟩
  f28 := Tryz.func139
  f29 := Tryz.func140
  f46 := ⟨_, by kernel_rfl, Tryz.func188⟩
  f47 := Tryz.func168
  f48 := Tryz.func169
  f49 := ⟨_, by kernel_rfl, Tryz.func189⟩
  f50 := ⟨_, by kernel_rfl, Tryz.func190⟩
  f57 := ⟨_, by kernel_rfl, Tryz.func203⟩
  t0 := by kernel_rfl
  a0 := fun w => by kernel_rfl
  z0 := fun w => by kernel_rfl
  v0 := fun w => by kernel_rfl
  t3 := by kernel_rfl
  a3 := fun w => by kernel_rfl
  z3 := fun w => by kernel_rfl
  v3 := fun w => by kernel_rfl
  t4 := by kernel_rfl
  a4 := fun w => by kernel_rfl
  z4 := fun w => by kernel_rfl
  v4 := fun w => by kernel_rfl
  t5 := by kernel_rfl
  a5 := fun w => by kernel_rfl
  z5 := fun w => by kernel_rfl
  v5 := fun w => by kernel_rfl
  t9 := by kernel_rfl
  a9 := fun w => by kernel_rfl
  z9 := fun w => by kernel_rfl
  v9 := fun w => by kernel_rfl
  t22 := by kernel_rfl
  a22 := fun w => by kernel_rfl
  z22 := fun w => by kernel_rfl
  v22 := fun w => by kernel_rfl
  t25 := by kernel_rfl
  a25 := fun w => by kernel_rfl
  z25 := fun w => by kernel_rfl
  v25 := fun w => by kernel_rfl
  t39 := by kernel_rfl
  a39 := fun w => by kernel_rfl
  z39 := fun w => by kernel_rfl
  v39 := fun w => by kernel_rfl
  t45 := by kernel_rfl
  a45 := fun w => by kernel_rfl
  z45 := fun w => by kernel_rfl
  v45 := fun w => by kernel_rfl
  t46 := by kernel_rfl
  a46 := fun w => by kernel_rfl
  z46 := fun w => by kernel_rfl
  v46 := fun w => by kernel_rfl
  t50 := by kernel_rfl
  a50 := fun w => by kernel_rfl
  z50 := fun w => by kernel_rfl
  v50 := fun w => by kernel_rfl
  t53 := by kernel_rfl
  a53 := fun w => by kernel_rfl
  z53 := fun w => by kernel_rfl
  v53 := fun w => by kernel_rfl
  t55 := by kernel_rfl
  a55 := fun w => by kernel_rfl
  z55 := fun w => by kernel_rfl
  v55 := fun w => by kernel_rfl
  t66 := by kernel_rfl
  a66 := fun w => by kernel_rfl
  z66 := fun w => by kernel_rfl
  v66 := fun w => by kernel_rfl
  t70 := by kernel_rfl
  a70 := fun w => by kernel_rfl
  z70 := fun w => by kernel_rfl
  v70 := fun w => by kernel_rfl
  t76 := by kernel_rfl
  a76 := fun w => by kernel_rfl
  z76 := fun w => by kernel_rfl
  v76 := fun w => by kernel_rfl
  t77 := by kernel_rfl
  a77 := fun w => by kernel_rfl
  z77 := fun w => by kernel_rfl
  v77 := fun w => by kernel_rfl

theorem hk (x : Spn) : x.cells.length = 2 := rfl
theorem one (x : Spn) : ∀ u ∈ x.cells, u.oneCell' = true := by
  intro u hu
  simp only [Spn.cells, List.mem_cons, List.not_mem_nil, or_false] at hu
  rcases hu with rfl | rfl <;> rfl

/-- what is asked of an order -/
def CmpOk (f : FuncId) (cb : Array Value) (cf : Spn → Spn → Int) (l : List Spn) (ok : World → Prop) : Prop :=
  ∀ x ∈ l, ∀ y ∈ l, ∀ W, ok W → Calls Tryz.prog f (#[.agg #[.int .i64 x.frm, .int .i64 x.til], .agg #[.int .i64 y.frm, .int .i64 y.til]] ++ cb) W fun e w2 => e = .returned (.int .i64 (cf x y)) ∧ ∃ q os', w2 = grow (W.drewN q) os'

/-- elements of the list -/
abbrev El (l : List Spn) := {x : Spn // x ∈ l}
def eenc (l : List Spn) (u : El l) : List Value := u.1.cells
def ecf (l : List Spn) (cf : Spn → Spn → Int) (u v : El l) : Int := cf u.1 v.1
theorem attach_cells (l : List Spn) : (l.attach.toArray.toList).flatMap (eenc l) = l.flatMap Spn.cells := by
  have h : l.attach.toArray.toList.map Subtype.val = l := by rw [List.toList_toArray, List.attach_map_subtype_val]
  have h3 := List.flatMap_map (Subtype.val (p := fun x => x ∈ l)) Spn.cells l.attach.toArray.toList
  rw [h] at h3
  exact h3.symm
/-- a sort of l -/
def SrtRes (lt : Spn → Spn → Bool) (l S : List Spn) : Prop := S.Perm l ∧ (S.Pairwise fun x y => lt y x = false)
theorem swo_el {l : List Spn} {cf : Spn → Spn → Int} (h : SWO fun x y => decide (cf x y < 0)) : SWO (ltOf (ecf l cf)) where
  irrefl x := h.irrefl x.1
  trans x y z := h.trans x.1 y.1 z.1
  ntrans x y z := h.ntrans x.1 y.1 z.1

set_option maxHeartbeats 1600000 in
/-- THE SORT: the block holds what it held, in order. -/
theorem sort_any (g c n m : Nat) (l : List Spn) (rest : List Value) (f : FuncId) (cb : Array Value) (cf : Spn → Spn → Int) (w : World) (eg : ∀ args w, (callFunc f args).run Tryz.prog w = .ok (.enter f args) w) (hlt : SWO fun x y => decide (cf x y < 0)) (hC : CmpOk f cb cf l (fun W => w.grownBy W (some g)))
    (hw : Whole1 w g 33 (l.flatMap Spn.cells ++ rest).toArray) (hm : (l.flatMap Spn.cells ++ rest).length = m) (hl : l.length = n) (hn : n < 1152921504606846976) (h0 : 0 < n) :
    Calls Tryz.prog 71 #[.slice (some ⟨g, 0, none⟩) n c, .func (.func f) #[] cb] w
      fun e w' => e = .returned (.tuple #[]) ∧ ∃ S rest', SrtRes (fun x y => decide (cf x y < 0)) l S ∧ Whole1 w' g 33 (S.flatMap Spn.cells ++ rest').toArray ∧ (S.flatMap Spn.cells ++ rest').length = m ∧ w.grownBy w' (some g) := by
  have hne : l ≠ [] := by intro h; rw [h] at hl; simp at hl; omega
  haveI : Inhabited (El l) := ⟨⟨l.head hne, List.head_mem hne⟩⟩
  obtain ⟨d0, hd0⟩ : ∃ d0 : Array (El l), d0 = l.attach.toArray := ⟨_, rfl⟩
  have hcs : d0.toList.flatMap (eenc l) = l.flatMap Spn.cells := by rw [hd0]; exact attach_cells l
  have hsz : d0.size = n := by rw [hd0]; simpa using hl
  have R : RowK (eenc l) 2 w g 0 d0 := by
    refine ⟨fun _ => rfl, fun x v hv => one x.1 v hv, holdsK_of_cells' (enc := (eenc l)) (k := 2) (off := 0) (d := d0) (fun _ => rfl) fun j hj => ⟨?_, hw.free _⟩, hw.lt⟩
    rw [hcs, Nat.zero_add, hw.cell, List.getElem?_toArray, List.getElem?_append_left (by rw [fm_len hk, hl, ← hsz]; exact hj)]
  have hL : CmpLays Tryz.prog f cb (eenc l) 2 (ecf l cf) g 0 d0.size w := by
    intro mm os dk hdk x y
    exact hC x.1 x.2 y.1 y.2 _ (sw_gb (enc := (eenc l)) (k := 2) ⟨mm, os, rfl⟩)
  have hcon := AnyQ.slices_SortFunc lays 2 (fun w => by kernel_rfl) (fun w => by kernel_rfl) (eenc l) R.hk R.h1 (ecf l cf) (swo_el hlt) f cb g 0 c d0 w eg hL R.hH R.hblk (by omega)
  rw [hsz] at hcon
  refine hcon.mono ?_
  rintro e w' ⟨rfl, d', nq, os, hp, hs, hw'⟩
  refine ⟨rfl, ?_⟩
  have hS : SWK (eenc l) 2 w g 0 d' w' := ⟨nq, os, hw'⟩
  have hsz' : d'.size = n := by rw [hp.1, hsz]
  have full : ∀ d : Array (El l), d.size = n → d.extract 0 n = d := fun d hd => by rw [← hd]; simp
  have hperm := hp.2.2
  rw [full _ hsz', full _ hsz, hd0] at hperm
  obtain ⟨rest', h1, h2⟩ := sw_block (l := d0.toList) (rest := rest) (m := m) hS R (by rw [hsz', hsz]) (by rw [hcs]; exact hw) (by rw [hcs]; exact hm) (by rw [hsz', ← hsz]; simp)
  have e : d'.toList.flatMap (eenc l) = (d'.toList.map Subtype.val).flatMap Spn.cells := by rw [List.flatMap_map]; rfl
  rw [e] at h1 h2
  refine ⟨_, rest', ⟨?_, ?_⟩, h1, h2, sw_gb hS⟩
  · have := hperm.map Subtype.val
    rwa [List.toList_toArray, List.attach_map_subtype_val] at this
  · rw [List.pairwise_map, List.pairwise_iff_getElem]
    intro i j hi hj hij
    rw [Array.length_toList, hsz'] at hi hj
    have := hs i j (Nat.zero_le _) hij hj
    rw [getElem!_pos _ i (by rw [hsz']; exact hi), getElem!_pos _ j (by rw [hsz']; exact hj)] at this
    exact this
/-- the sort, at none -/
theorem ins0_any (A : Option Addr) (c : Nat) (fv : Value) (w : World) : Calls Tryz.prog 154 #[.slice A 0 c, .int .i64 0, .int .i64 0, fv] w fun e w' => e = .returned (.tuple #[]) ∧ w = w' := by
  go_enter Tryz.func154, Tryz.ntmps154
  go_wp2
  refine wp_loop_rounds 1 ?_
  rw [rounds_succ]
  go_wp2
  go_end0
  exact ⟨rfl, rfl⟩
theorem pdq0_any (A : Option Addr) (c : Nat) (lim : Int) (fv : Value) (w : World) : Calls Tryz.prog 116 #[.slice A 0 c, .int .i64 0, .int .i64 0, .int .i64 lim, fv] w fun e w' => e = .returned (.tuple #[]) ∧ w = w' := by
  go_enter Tryz.func116, Tryz.ntmps116
  go_wp2_with fail
  refine wp_loop_rounds 1 ?_
  rw [rounds_succ]
  go_wp2_with fail
  refine (ins0_any A c fv _).mono ?_
  rintro e w' ⟨rfl, rfl⟩
  go_wp2_with fail
  exact bodyPost_ret (v := .tuple #[]) (by simp [results, Tryz.results116, go_sem]) rfl ⟨rfl, rfl⟩
theorem sort0_any (A : Option Addr) (c : Nat) (fv : Value) (w : World) : Calls Tryz.prog 71 #[.slice A 0 c, fv] w fun e w' => e = .returned (.tuple #[]) ∧ w = w' := by
  have hl : Calls Tryz.prog 86 #[.int .u64 0] w fun e w' => e = .returned (.int .i64 (Lib.bitLen 0 : Nat)) ∧ w' = w :=
    Any.bits_Len (SlLaysF0.n15.bits (P := Tryz.prog) (ρ := ren) { lays with }) 0 w (by omega) (by omega)
  have HL := hidden hl
  clear hl
  go_enter Tryz.func71, Tryz.ntmps71
  go_wp2_with fail
  refine HL.out.mono ?_
  rintro e w' ⟨rfl, rfl⟩
  go_wp2_with fail
  refine (pdq0_any A c _ fv _).mono ?_
  rintro e w' ⟨rfl, rfl⟩
  go_wp2_with fail
  go_end0
  exact ⟨rfl, rfl⟩
/-- the sort at a row of the call's own -/
theorem sortAll_any (v : Value) (n base : Nat) (l : List Spn) (f : FuncId) (cb : Array Value) (cf : Spn → Spn → Int) (w : World) (eg : ∀ args w, (callFunc f args).run Tryz.prog w = .ok (.enter f args) w) (hlt : SWO fun x y => decide (cf x y < 0)) (hC : ∀ g, base ≤ g → CmpOk f cb cf l (fun W => w.grownBy W (some g)))
    (hown : w.ownsRow base 33 2 v n (l.flatMap Spn.cells)) (hl : l.length = n) (hn : n < 1152921504606846976) :
    Calls Tryz.prog 71 #[v, .func (.func f) #[] cb] w
      fun e w' => e = .returned (.tuple #[]) ∧ ∃ S, SrtRes (fun x y => decide (cf x y < 0)) l S ∧ w'.ownsRow base 33 2 v n (S.flatMap Spn.cells) ∧ w.grownBy w' v.ownBlock := by
  rcases Nat.eq_zero_or_pos n with h0 | h0
  · subst h0
    obtain rfl : l = [] := List.eq_nil_of_length_eq_zero hl
    obtain ⟨A, c, rfl, _, _⟩ := own_shape hown
    refine (sort0_any A c _ w).mono ?_
    rintro e w' ⟨rfl, rfl⟩
    exact ⟨rfl, [], ⟨List.Perm.refl _, List.Pairwise.nil⟩, hown, gb_refl _ _⟩
  · obtain ⟨g, c, rest, rfl, hg, hw, hnc, hc, _, hm⟩ := own_whole_g hk hown h0
    refine (sort_any g c n (c * 2) l rest f cb cf w eg hlt (hC g hg) hw hm hl hn h0).mono ?_
    rintro e w' ⟨rfl, S, rest', hS, hw', hm', hgb⟩
    exact ⟨rfl, S, hS, own_of_whole_g hk hg hw' hnc hc (by rw [hS.1.length_eq]; exact hl) hm', hgb⟩
end Go.Proofs.YthncochjhbmceaaGreat.SrfSpn

namespace Go.Proofs.YthncochjhbmceaaGreat
set_option maxRecDepth 100000
open Go.RowKit

theorem spnK (x : Spn) : x.cells.length = 2 := rfl
theorem spnOfDel_any (x : Spn) (w : World) : Calls Tryz.prog 70 #[.agg #[.int .i64 x.frm, .int .i64 x.til]] w fun e w' => e = .returned (.bool (decide (x.til < x.frm))) ∧ Below w.heap.size w w' := by
  go_enter Tryz.func70, Tryz.ntmps70
  go_wp2_with fail
  go_ret
  exact ⟨rfl, (Below.refl _ _).alloc (Nat.le_refl _) _⟩
theorem spnOfCmp_any (x y : Spn) (w : World) : Calls Tryz.prog 72 #[.agg #[.int .i64 x.frm, .int .i64 x.til], .agg #[.int .i64 y.frm, .int .i64 y.til]] w fun e w' => e = .returned (.int .i64 (cmpZ x.frm y.frm)) ∧ ∃ q os', w' = Go.Sort.grow (w.drewN q) os' := by
  go_enter Tryz.func72, Tryz.ntmps72
  go_wp2_with fail
  refine (cmp64_z _ _ _).mono ?_
  rintro e w' ⟨rfl, rfl⟩
  go_wp2_with fail
  go_ret
  exact ⟨rfl, ((Gr.refl _).alloc _).alloc _⟩

theorem put_til {w : World} {g : Nat} {T : TypeId} {M : List Spn} {z : Spn} {rest : List Value} (h : Whole1 w g T ((M ++ [z]).flatMap Spn.cells ++ rest).toArray) (u : Int) :
    Whole1 (w.setCell ⟨g, M.length * 2 + 1, none⟩ (.int .i64 u)) g T ((M ++ [(⟨z.frm, u⟩ : Spn)]).flatMap Spn.cells ++ rest).toArray := by
  have h1 := h.put (M.length * 2 + 1) (.int .i64 u)
  have hl : (M.flatMap Spn.cells).length = M.length * 2 := fm_len spnK M
  have e : ((M ++ [z]).flatMap Spn.cells ++ rest).toArray.setIfInBounds (M.length * 2 + 1) (.int .i64 u) = ((M ++ [(⟨z.frm, u⟩ : Spn)]).flatMap Spn.cells ++ rest).toArray := by
    rw [List.setIfInBounds_toArray, List.flatMap_append, List.flatMap_append, List.append_assoc, List.append_assoc, List.set_append_right _ _ (by omega), hl]
    simp [Spn.cells]
  rw [e] at h1
  exact h1

set_option maxHeartbeats 6400000 in
theorem spnOf_any (A : Option Addr) (n c : Nat) (l : List Spn) (w : World) (hr : Row w w.heap.size 2 A n (l.flatMap Spn.cells)) (hl : l.length = n) (hn : n * 16 ≤ 140737488351232) (hok : ∀ x ∈ l, x.ok) :
    Calls Tryz.prog 34 #[.slice A n c] w fun e w' => ∃ v R, e = .returned v ∧ w'.ownsRow w.heap.size 33 2 v R.length (R.flatMap Spn.cells) ∧ OfRes l R ∧ R.length ≤ n ∧ Below w.heap.size w w' := by
  obtain ⟨i0, hi, hz0, hz1, hz2⟩ := info_parts ClnSpn.info
  have eg1 : ∀ args w, (callFunc 70 args).run Tryz.prog w = .ok (.enter 70 args) w := enters_of Tryz.func70 (by kernel_rfl) rfl
  have eg2 : ∀ args w, (callFunc 72 args).run Tryz.prog w = .ok (.enter 72 args) w := enters_of Tryz.func72 (by kernel_rfl) rfl
  have S1 := hidden (ClnSpn.cloneO_any A n c l w hr hl hn)
  have HL := hidden hl
  have HE1 := hidden eg1
  have HE2 := hidden eg2
  have HO := hidden hok
  clear hr hl eg1 eg2 hok
  rcases Nat.eq_zero_or_pos n with h0 | h0
  · subst h0
    have hle : Hid (l = []) := List.eq_nil_of_length_eq_zero HL.out
    go_enter Tryz.func34, Tryz.ntmps34
    go_wp2_with fail
    refine S1.out.mono ?_
    rintro e w1 ⟨⟨sA, sn, sc, sl⟩, rfl, _, hsn, _, _, hb1, _⟩
    obtain rfl : sn = 0 := hsn
    have HB := hidden hb1
    simp only [Sl.val]
    clear S1 hb1
    go_wp2_with fail
    refine (DelSpn.delete0_any sA sc _ _).mono ?_
    rintro e w' ⟨rfl, rfl⟩
    go_wp2_with fail
    refine (SrfSpn.sort0_any sA sc _ _).mono ?_
    rintro e w' ⟨rfl, rfl⟩
    go_wp2_with fail
    refine wp_loop_rounds 1 ?_
    rw [rounds_succ]
    go_wp2_with fail
    go_ret
    exact ⟨_, [], rfl, World.ownsRow_nil _ _ _ _, by rw [hle.out]; exact OfRes.self OneS.nil, Nat.le_refl _, HB.out⟩
  · go_enter Tryz.func34, Tryz.ntmps34
    go_wp2_with fail
    refine S1.out.mono ?_
    rintro e w1 ⟨⟨sA, sn, sc, sl⟩, rfl, _, hsn, _, _, hb1, hown⟩
    obtain rfl : sn = n := hsn
    have hown' := hown h0
    simp only [Sl.val] at hown' ⊢
    have S2 := hidden (DelSpn.deleteAll_any _ sn w.heap.size l 70 #[] (fun s => decide (s.til < s.frm)) w1 HE1.out (fun g hg x hx W hW => spnOfDel_any x W) hown' HL.out (by omega))
    have B1 := hidden hb1
    clear S1 hown hown' hb1
    go_wp2_with fail
    refine S2.out.mono ?_
    rintro e w2 ⟨v2, rfl, ho2, hg2, hv2⟩
    have hfl : (fullS l).length ≤ sn := by rw [← HL.out]; exact List.length_filter_le _ _
    have ho2' : w2.ownsRow w.heap.size 33 2 v2 (fullS l).length ((fullS l).flatMap Spn.cells) := ho2
    have B2 := hidden (B1.out.grown hg2 B1.out.size (fun q hq => (ho2.lt q (hv2.trans hq)).1))
    have S3 := hidden (SrfSpn.sortAll_any v2 _ w.heap.size (fullS l) 72 #[] (fun x y => cmpZ x.frm y.frm) w2 HE2.out (swo_at Spn.frm) (fun g hg x hx y hy W hW => spnOfCmp_any x y W) ho2' rfl (by omega))
    obtain ⟨A2, c2, rfl, _, _⟩ := own_shape ho2'
    clear S2 ho2 hg2 hv2 B1
    go_wp2_with fail
    refine S3.out.mono ?_
    rintro e w3 ⟨rfl, S, hS, ho3, hg3⟩
    have B3 := hidden (B2.out.grown hg3 B2.out.size (fun q hq => (ho3.lt q hq).1))
    have hr3 := Row.of_own ho3
    have HS := hidden hS
    generalize hm : (fullS l).length = m at *
    have hSl : Hid (S.length = m) := by rw [Hid, hS.1.length_eq]; exact hm
    have HR := hidden hr3
    clear S3 ho2' hg3 B2 hr3 hS ho3 hm
    go_wp2_with fail
    go_loopw [4, 15] (fun v i wr => ∃ (k : Nat) (R : List Spn) (vo : Value), vo = v ∧ k ≤ m ∧ i = .int .i64 k ∧ wr.ownsRow w3.heap.size 33 2 vo R.length (R.flatMap Spn.cells) ∧ Hid (R = joinAll (S.take k)) ∧ Hid (∀ y ∈ R, y.ok) ∧ R.length ≤ k ∧ Below w3.heap.size w3 wr) (fun _ i _ => m - (intOf i).toNat)
    case atStart => exact ⟨0, [], _, rfl, Nat.zero_le _, rfl, World.ownsRow_nil _ _ _ _, rfl, hidden (by simp), Nat.le_refl _, Below.refl _ _⟩
    case round =>
      obtain ⟨k, R, vo, rfl, hk, rfl, hown, hj, hRo, hRk, hb⟩ := hrel
      by_cases hlt : k < m
      · obtain ⟨gs, o, x, rfl, hgs, hx, hcl⟩ := row_at spnK (HR.out.below hb) hSl.out k hlt
        have c0 : wr.cell? ⟨gs, o + k * 2, none⟩ = some (.int .i64 x.frm) := hcl 0 (by omega)
        have c1 : wr.cell? ⟨gs, o + k * 2 + 1, none⟩ = some (.int .i64 x.til) := hcl 1 (by omega)
        have hT : Hid (joinAll (S.take (k + 1)) = joinStep R x) := by rw [Hid, take_snoc? hx, joinAll_snoc, ← hj.out]
        have hkz : (k : Int) < (m : Int) := by omega
        have hxo : x.ok := HO.out x (List.mem_filter.1 (HS.out.1.mem_iff.1 (List.mem_of_getElem? hx))).1
        obtain ⟨x1, x2, x3, x4⟩ := hxo
        clear hx hcl
        have hbs := hb.size
        rcases List.eq_nil_or_concat R with rfl | ⟨M, z, rfl⟩
        · obtain ⟨A4, c4, rfl, _, _⟩ := own_shape hown
          have HT := hidden (hT.out.trans (joinStep_nil x))
          clear hT
          go_upto_region 7 with (fail)
          have hY := Whole1.new wr 33 #[.int .i64 x.frm, .int .i64 x.til]
          have hownA := hown.alloc (.cells #[.int .i64 x.frm, .int .i64 x.til] 33)
          have hbA := hb.alloc hbs (.cells #[.int .i64 x.frm, .int .i64 x.til] 33)
          generalize wr.alloc (.cells #[.int .i64 x.frm, .int .i64 x.til] 33) = wa at hY hownA hbA ⊢
          obtain ⟨X, hX⟩ : ∃ X, wr.heap.size = X := ⟨_, rfl⟩
          rw [hX] at hY ⊢
          have d0 := hY.cell 0
          have d1 := hY.cell 1
          have HY := hidden hY
          clear hY hX hown hb hbs c0 c1
          go_wp2_with fail
          go_quiet (fail)
          generalize hwb : wa.drewN nq = wb
          have hownB : wb.ownsRow w3.heap.size 33 2 _ _ _ := hwb ▸ own_drewN hownA nq
          have hYB : Whole1 wb X 33 #[.int .i64 x.frm, .int .i64 x.til] := hwb ▸ HY.out.drewN nq
          have hbB : Below w3.heap.size w3 wb := hwb ▸ below_drewN hbA nq
          have k0 := hYB.cell 0
          have k1 := hYB.cell 1
          have hbs := hbB.size
          have hfr := Row.fresh wb 33 2 1 [.int .i64 x.frm, .int .i64 x.til] rfl
          clear hwb hYB HY d0 d1 hownA hbA
          go_wp2_with (at_builtin; refine wpList_app _ rfl _ _ 59 rfl w3.heap.size 33 i0 _ 2 16 Tryz.underlying59 hi hz0 hz1 hz2 rfl (by decide) _ _ _ rfl (hownB.alloc _) _ _ _ _ _ rfl hfr (by simp [Value.oneCell']) (by unfold maxLen; omega) (by omega) (by simp; omega) ?_; intro v9 w9 hown9 hg9 hat9)
          go_roundw
          case rel =>
            refine ⟨k + 1, [x], v9, rfl, by omega, by go_num, hown9, HT.out.symm, hidden (by intro y hy; rw [List.mem_singleton.1 hy]; exact ⟨x1, x2, x3, x4⟩), by simp, (hbB.alloc hbs _).grown hg9 (by simp; omega) (fun q hq => (hownB.lt q hq).1)⟩
          case measure => simp [intOf]; omega
        · rw [List.concat_eq_append] at *
          have hownL : wr.ownsRow w3.heap.size 33 2 vo (M.length + 1) ((M ++ [z]).flatMap Spn.cells) := (by simp : (M ++ [z]).length = M.length + 1) ▸ hown
          clear hown
          obtain ⟨g, cap, rest, rfl, hg, hw, hnc, hc, _, hm2⟩ := own_whole_g spnK hownL (by omega)
          have HT := hidden (hT.out.trans (joinStep_snoc M z x))
          have hml : M.length + 1 ≤ k := by simpa using hRk
          clear hT
          go_upto_region 7 with (fail)
          have hY := Whole1.new wr 33 #[.int .i64 x.frm, .int .i64 x.til]
          have hownA := hownL.alloc (.cells #[.int .i64 x.frm, .int .i64 x.til] 33)
          have hbA := hb.alloc hbs (.cells #[.int .i64 x.frm, .int .i64 x.til] 33)
          have hwA := hw.alloc (.cells #[.int .i64 x.frm, .int .i64 x.til] 33)
          generalize wr.alloc (.cells #[.int .i64 x.frm, .int .i64 x.til] 33) = wa at hY hownA hbA hwA ⊢
          obtain ⟨X, hX⟩ : ∃ X, wr.heap.size = X := ⟨_, rfl⟩
          have hgX : g < X := by rw [← hX]; exact hw.lt
          rw [hX] at hY ⊢
          have d0 := hY.cell 0
          have d1 := hY.cell 1
          have e1 : wa.cell? ⟨g, M.length * 2 + 1, none⟩ = some (.int .i64 z.til) := by
            rw [hwA.cell, List.getElem?_toArray, List.getElem?_append_left (by rw [fm_len spnK]; simp; omega), fm_at spnK _ M.length z 1 (by simp) (by omega)]; rfl
          have HY := hidden hY
          have HW := hidden hwA
          clear hY hX hownL hb hbs c0 c1 hw hwA
          have l1 : decide ((M.length : Int) < 0) = false := by simp
          have l2 : (0 : Int) ≤ (M.length : Int) := by omega
          have l3 : (M.length : Int) < (M.length : Int) + 1 := by omega
          obtain ⟨z1, z2, z3, z4⟩ := hRo.out z (by simp)
          by_cases q1 : z.til < x.frm
          · by_cases q2 : z.til < x.frm - 1
            · go_wp2_with fail
              go_quiet (fail)
              generalize hwb : wa.drewN nq = wb
              have hownB : wb.ownsRow w3.heap.size 33 2 _ _ _ := hwb ▸ own_drewN hownA nq
              have hYB : Whole1 wb X 33 #[.int .i64 x.frm, .int .i64 x.til] := hwb ▸ HY.out.drewN nq
              have hbB : Below w3.heap.size w3 wb := hwb ▸ below_drewN hbA nq
              have k0 := hYB.cell 0
              have k1 := hYB.cell 1
              have hbs := hbB.size
              have hfr := Row.fresh wb 33 2 1 [.int .i64 x.frm, .int .i64 x.til] rfl
              clear hwb hYB HY d0 d1 hownA hbA
              go_wp2_with (at_builtin; refine wpList_app _ rfl _ _ 59 rfl w3.heap.size 33 i0 _ 2 16 Tryz.underlying59 hi hz0 hz1 hz2 rfl (by decide) _ _ _ rfl (hownB.alloc _) _ _ _ _ _ rfl hfr (by simp [Value.oneCell']) (by unfold maxLen; omega) (by omega) (by simp; omega) ?_; intro v9 w9 hown9 hg9 hat9)
              go_roundw
              case rel =>
                refine ⟨k + 1, M ++ [z] ++ [x], v9, rfl, by omega, by go_num, (by rw [List.flatMap_append, List.length_append, List.length_append]; exact hown9), hidden (HT.out.trans (if_pos ⟨q1, q2⟩)).symm, hidden (fun y hy => by
                  rcases List.mem_append.1 hy with hy | hy
                  · exact hRo.out y hy
                  · rw [List.mem_singleton.1 hy]; exact ⟨x1, x2, x3, x4⟩), by simp; omega, (hbB.alloc hbs _).grown hg9 (by simp; omega) (fun q hq => (hownB.lt q hq).1)⟩
              case measure => simp [intOf]; omega
            · have q3 : decide (z.til < x.frm - 1) = false := decide_eq_false q2
              go_wp2_with fail
              go_quiet (fail)
              generalize hwb : wa.drewN nq = wb
              have hWB : Whole1 wb g 33 _ := hwb ▸ HW.out.drewN nq
              have hYB : Whole1 wb X 33 #[.int .i64 x.frm, .int .i64 x.til] := hwb ▸ HY.out.drewN nq
              have hbB : Below w3.heap.size w3 wb := hwb ▸ below_drewN hbA nq
              have k1 := hYB.cell 1
              have f1 := hWB.free (M.length * 2 + 1)
              have e2 : wb.cell? ⟨g, M.length * 2 + 1, none⟩ = some (.int .i64 z.til) := hwb ▸ e1
              have HWB := hidden hWB
              clear hwb hWB hYB HY HW d0 d1 e1 hownA hbA
              go_wp2_with fail
              go_still_tail 12, (by kernel_rfl)
              change wpList _ _ _ _ _ wb.drew
              go_wp2_with fail
              go_roundw
              case rel =>
                have hmx : (if z.til < x.til then x.til else z.til) = max z.til x.til := by split <;> omega
                have hW2 := put_til HWB.out (max z.til x.til)
                refine ⟨k + 1, M ++ [(⟨z.frm, max z.til x.til⟩ : Spn)], _, rfl, by omega, by go_num, ?_, hidden (HT.out.trans ((if_neg (fun h => absurd h.2 (by omega))).trans (by rw [hmx]))).symm, hidden (fun y hy => ?_), by simp; omega, ?_⟩
                · rw [List.length_append, List.length_singleton]
                  exact own_of_whole_g spnK hg hW2.drew hnc hc (by simp) (by rw [List.length_append, fm_len spnK] at hm2 ⊢; simpa using hm2)
                · rcases List.mem_append.1 hy with hy | hy
                  · exact hRo.out y (List.mem_append_left _ hy)
                  · rw [List.mem_singleton.1 hy]
                    exact ⟨z1, z2, by show _ ≤ max z.til x.til; omega, by show max z.til x.til < _; omega⟩
                · exact (hbB.setCell (p := ⟨g, M.length * 2 + 1, none⟩) hg _).drew
              case measure => simp [intOf]; omega
          · have q3 : decide (z.til < x.frm) = false := decide_eq_false q1
            go_wp2_with fail
            go_quiet (fail)
            generalize hwb : wa.drewN nq = wb
            have hWB : Whole1 wb g 33 _ := hwb ▸ HW.out.drewN nq
            have hYB : Whole1 wb X 33 #[.int .i64 x.frm, .int .i64 x.til] := hwb ▸ HY.out.drewN nq
            have hbB : Below w3.heap.size w3 wb := hwb ▸ below_drewN hbA nq
            have k1 := hYB.cell 1
            have f1 := hWB.free (M.length * 2 + 1)
            have e2 : wb.cell? ⟨g, M.length * 2 + 1, none⟩ = some (.int .i64 z.til) := hwb ▸ e1
            have HWB := hidden hWB
            clear hwb hWB hYB HY HW d0 d1 e1 hownA hbA
            go_wp2_with fail
            go_still_tail 12, (by kernel_rfl)
            change wpList _ _ _ _ _ wb.drew
            go_wp2_with fail
            go_roundw
            case rel =>
              have hmx : (if z.til < x.til then x.til else z.til) = max z.til x.til := by split <;> omega
              have hW2 := put_til HWB.out (max z.til x.til)
              refine ⟨k + 1, M ++ [(⟨z.frm, max z.til x.til⟩ : Spn)], _, rfl, by omega, by go_num, ?_, hidden (HT.out.trans ((if_neg (fun h => absurd h.1 (by omega))).trans (by rw [hmx]))).symm, hidden (fun y hy => ?_), by simp; omega, ?_⟩
              · rw [List.length_append, List.length_singleton]
                exact own_of_whole_g spnK hg hW2.drew hnc hc (by simp) (by rw [List.length_append, fm_len spnK] at hm2 ⊢; simpa using hm2)
              · rcases List.mem_append.1 hy with hy | hy
                · exact hRo.out y (List.mem_append_left _ hy)
                · rw [List.mem_singleton.1 hy]
                  exact ⟨z1, z2, by show _ ≤ max z.til x.til; omega, by show max z.til x.til < _; omega⟩
              · exact (hbB.setCell (p := ⟨g, M.length * 2 + 1, none⟩) hg _).drew
            case measure => simp [intOf]; omega
      · obtain rfl : m = k := by omega
        have hE := hidden (show S.take m = S from List.take_of_length_le (by rw [hSl.out]; exact Nat.le_refl _))
        go_wp2_with fail
        go_ret
        refine ⟨_, R, rfl, own_more hown (by have := B3.out.size; omega), ?_, by omega, B3.out.trans (hb.mono B3.out.size)⟩
        rw [hj.out, hE.out]
        refine ofRes_join HS.out.1 ?_
        refine HS.out.2.imp fun {a b} h => ?_
        have h2 := (cmpZ_lt b.frm a.frm).symm.trans h
        simpa using h2
end Go.Proofs.YthncochjhbmceaaGreat

namespace Go.Proofs.YthncochjhbmceaaGreat.TwnSpn
set_option maxRecDepth 100000
open Go.RowKit

theorem hk (x : Spn) : x.cells.length = 2 := rfl
theorem rinfo : (Tryz.prog.info? 222).map (fun i => (i.zero, i.size, i.bytes)) = some (some (.agg #[.int .i64 0, .int .i64 0]), 2, 16) := by kernel_rfl
theorem snoc_cells (l : List Spn) (x : Spn) : (l ++ [x]).flatMap Spn.cells = l.flatMap Spn.cells ++ [.int .i64 x.frm, .int .i64 x.til] := by simp [Spn.cells]

end Go.Proofs.YthncochjhbmceaaGreat.TwnSpn

namespace Go.Proofs.YthncochjhbmceaaGreat.PutG
set_option maxRecDepth 100000
open Go.RowKit Go.Sort

variable {α : Type}
theorem drop_cons? {l : List α} {k : Nat} {x : α} (h : l[k]? = some x) : l.drop k = x :: l.drop (k + 1) := by
  obtain ⟨hk, rfl⟩ := List.getElem?_eq_some_iff.1 h
  exact List.drop_eq_getElem_cons hk
/-- x stands at place k -/
def putAt (k : Nat) (x : α) (l : List α) : List α := l.take k ++ x :: l.drop k
theorem putAt_len (k : Nat) (x : α) (l : List α) (hk : k ≤ l.length) : (putAt k x l).length = l.length + 1 := by
  unfold putAt
  simp only [List.length_append, List.length_take, List.length_cons, List.length_drop]
  omega
theorem putAt_end (x : α) (l : List α) : putAt l.length x l = l ++ [x] := by
  unfold putAt
  simp
theorem putAt_at (k : Nat) (x : α) (l : List α) (hk : k ≤ l.length) : (putAt k x l)[k]? = some x := by
  unfold putAt
  rw [List.getElem?_append_right (by simp; omega)]
  simp [List.length_take, Nat.min_eq_left hk]
theorem putAt_low (k j : Nat) (x : α) (l : List α) (hj : j < k) : (putAt k x l)[j]? = if j < l.length then l[j]? else (putAt k x l)[j]? := by
  unfold putAt
  by_cases h : j < l.length
  · rw [if_pos h, List.getElem?_append_left (by simp; omega), List.getElem?_take, if_pos hj]
  · rw [if_neg h]
theorem putAt_swap (k : Nat) (x y : α) (l : List α) (hk : k + 1 ≤ l.length) (hy : l[k]? = some y) : ((putAt (k + 1) x l).set (k + 1) y).set k x = putAt k x l := by
  have hl : (l.take k).length = k := by rw [List.length_take]; omega
  unfold putAt
  rw [take_snoc? hy, drop_cons? hy, List.append_assoc]
  have e1 : (l.take k ++ ([y] ++ x :: l.drop (k + 1))).set (k + 1) y = l.take k ++ ([y] ++ y :: l.drop (k + 1)) := by
    rw [List.set_append, if_neg (by omega), hl]
    simp
  rw [e1, List.set_append, if_neg (by omega), hl]
  simp
theorem putAt_perm (k : Nat) (x : α) (l : List α) : (putAt k x l).Perm (l ++ [x]) := by
  unfold putAt
  have h1 : (l.take k ++ x :: l.drop k).Perm (x :: (l.take k ++ l.drop k)) := List.perm_middle
  rw [List.take_append_drop] at h1
  exact h1.trans (List.perm_append_singleton x l).symm
/-- in order -/
def InOrd (lt : α → α → Bool) (l : List α) : Prop := l.Pairwise fun a b => lt b a = false
theorem asym {lt : α → α → Bool} (h : SWO lt) {a b : α} (k : lt a b = true) : lt b a = false := by
  cases h2 : lt b a with
  | false => rfl
  | true =>
    have := h.trans _ _ _ k h2
    rw [h.irrefl] at this
    cases this
variable {lt : α → α → Bool}
theorem putAt_ord (k : Nat) (x : α) (l : List α) (h : SWO lt) (hl : InOrd lt l) (hk : k ≤ l.length) (hup : ∀ (j : Nat) (y : α), k ≤ j → l[j]? = some y → lt x y = true) (hlow : ∀ (y : α), 0 < k → l[k - 1]? = some y → lt x y = false) : InOrd lt (putAt k x l) := by
  unfold InOrd putAt at *
  have hsplit := hl
  rw [← List.take_append_drop k l, List.pairwise_append] at hsplit
  obtain ⟨p1, p2, p3⟩ := hsplit
  rw [List.pairwise_append]
  have hdr : ∀ y ∈ l.drop k, lt x y = true := by
    intro y hy
    obtain ⟨j, hj, rfl⟩ := List.getElem_of_mem hy
    rw [List.length_drop] at hj
    refine hup (k + j) _ (by omega) ?_
    rw [List.getElem_drop]
    exact List.getElem?_eq_getElem (by omega)
  have htk : ∀ y ∈ l.take k, lt x y = false := by
    intro y hy
    obtain ⟨j, hj, rfl⟩ := List.getElem_of_mem hy
    rw [List.length_take] at hj
    have hk1 : k - 1 < l.length := by omega
    have h0 := hlow l[k - 1] (by omega) (List.getElem?_eq_getElem hk1)
    rw [List.getElem_take]
    rcases Nat.lt_or_ge j (k - 1) with hj1 | hj1
    · have h1 := List.pairwise_iff_getElem.1 hl j (k - 1) (by omega) hk1 hj1
      exact h.ntrans _ _ _ h0 h1
    · have : j = k - 1 := by omega
      subst this
      exact h0
  refine ⟨p1, List.pairwise_cons.2 ⟨fun y hy => asym h (hdr y hy), p2⟩, ?_⟩
  intro a ha b hb
  rcases List.mem_cons.1 hb with rfl | hb
  · exact htk a ha
  · exact p3 a ha b hb
end Go.Proofs.YthncochjhbmceaaGreat.PutG
