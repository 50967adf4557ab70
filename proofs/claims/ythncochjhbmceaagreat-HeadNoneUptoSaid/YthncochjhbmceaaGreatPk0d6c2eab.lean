/- slices.IndexFunc and slices.DeleteFunc at samples, whatever predicate: what they leave. Condition: the predicate has a contract, the row is within the reach. spans.Keep and the reference's Keep: the samples that lie in none of the spans. Condition: the rows are within the reach. Records, as they lie and what they tell, plainly. No condition. spans.Encode, walked. -/
import Derived.Test.YthncochjhbmceaaGreatPkb5fb2d9c
import Derived.Test.YthncochjhbmceaaGreatPk8f29ada1
import Derived.Test.YthncochjhbmceaaGreatPk539432f3
import Derived.Test.YthncochjhbmceaaGreatPk28970e01
import Derived.Test.YthncochjhbmceaaGreatPk5edf48dd
import Derived.Test.YthncochjhbmceaaGreatPk3fc1764a
namespace Go.Proofs.YthncochjhbmceaaGreat.DelSmp
set_option maxRecDepth 100000
open Go.RowKit

theorem hk (x : Smp) : x.cells.length = 2 := rfl

/-- what is asked of a predicate -/
def PredOk (f : FuncId) (cb : Array Value) (p : Smp → Bool) (l : List Smp) (ok : World → Prop) : Prop :=
  ∀ x ∈ l, ∀ W, ok W → Calls Tryz.prog f (#[.agg #[.int .i64 x.t, .int .u64 ((x.v : Nat) : Int)]] ++ cb) W fun e w2 => e = .returned (.bool (p x)) ∧ Below W.heap.size W w2
/-- where the first one is -/
def IdxRes (p : Smp → Bool) (l : List Smp) (r : Int) : Prop := (r = -1 ∧ ∀ x ∈ l, p x = false) ∨ ∃ (i : Nat) (x : Smp), r = i ∧ l[i]? = some x ∧ p x = true ∧ ∀ y ∈ l.take i, p y = false

set_option maxHeartbeats 1600000 in
theorem index_any (A : Option Addr) (n c : Nat) (l : List Smp) (f : FuncId) (cb : Array Value) (p : Smp → Bool) (w : World) (eg : ∀ args w, (callFunc f args).run Tryz.prog w = .ok (.enter f args) w) (hp : PredOk f cb p l (fun W => Below w.heap.size w W)) (hr : Row w w.heap.size 2 A n (l.flatMap Smp.cells)) (hl : l.length = n) (hn : n ≤ 4611686018427387904) :
    Calls Tryz.prog 77 #[.slice A n c, .func (.func f) #[] cb] w
      fun e w' => ∃ r : Int, e = .returned (.int .i64 r) ∧ IdxRes p l r ∧ Below w.heap.size w w' := by
  have hL := hidden hl
  have HR := hidden hr
  have HP := hidden hp
  clear hl hr hp
  go_enter Tryz.func77, Tryz.ntmps77
  go_wp2
  go_loopw [8] (fun i wr => ∃ k : Nat, k ≤ n ∧ i = .int .i64 k ∧ Hid (∀ y ∈ l.take k, p y = false) ∧ Below w.heap.size w wr) (fun i _ => n - (intOf i).toNat)
  case atStart => exact ⟨0, Nat.zero_le _, rfl, hidden (by simp), Below.refl _ _⟩
  case round =>
    obtain ⟨k, hk1, rfl, hall, hb⟩ := hrel
    by_cases hlt : k < n
    · obtain ⟨gs, o, x, rfl, hgs, hx, hcl⟩ := row_at hk (HR.out.below hb) hL.out k hlt
      have d0 : wr.cell? ⟨gs, o + k * 2, none⟩ = some (.int .i64 x.t) := hcl 0 (by omega)
      have d1 : wr.cell? ⟨gs, o + k * 2 + 1, none⟩ = some (.int .u64 ((x.v : Nat) : Int)) := hcl 1 (by omega)
      have hcon := HP.out x (List.mem_of_getElem? hx) wr hb
      have hT := hidden (take_snoc? hx)
      have HX := hidden hx
      have HCON := hidden hcon
      have hltz : (k : Int) < (n : Int) := by omega
      have hk0 : (0 : Int) ≤ (k : Int) := by omega
      clear hx hcl hcon
      go_wp2_with fail
      refine HCON.out.mono ?_
      rintro e w1 ⟨rfl, hb1⟩
      have hB1 := hb.trans (hb1.mono hb.size)
      clear HCON hb1 d0 d1
      obtain ⟨b, hv⟩ : ∃ b, p x = b := ⟨_, rfl⟩
      rw [hv]
      have HV := hidden hv
      clear hv
      cases b with
      | false =>
        go_wp2_with fail
        go_roundw
        case rel => exact ⟨k + 1, by omega, by go_num, hidden (by
          intro y hy
          rw [hT.out] at hy
          rcases List.mem_append.1 hy with h | h
          · exact hall.out y h
          · rw [List.mem_singleton.1 h]; exact HV.out), hB1⟩
        case measure => simp [intOf]; omega
      | true =>
        go_wp2_with fail
        go_ret
        exact ⟨_, rfl, .inr ⟨k, x, rfl, HX.out, HV.out, hall.out⟩, hB1⟩
    · obtain rfl : n = k := by omega
      have hall2 := hall.out
      rw [List.take_of_length_le (by rw [hL.out]; exact Nat.le_refl _)] at hall2
      have HA := hidden hall2
      clear hall2
      go_wp2
      go_ret
      exact ⟨-1, rfl, .inl ⟨rfl, HA.out⟩, hb⟩

/-- what is kept -/
def left (p : Smp → Bool) (l : List Smp) : List Smp := l.filter fun x => !p x
theorem left_snoc (p : Smp → Bool) (l : List Smp) (x : Smp) : left p (l ++ [x]) = if p x = true then left p l else left p l ++ [x] := by
  unfold left
  rw [List.filter_append]
  cases h : p x <;> simp [h]
theorem left_all {p : Smp → Bool} {l : List Smp} (h : ∀ x ∈ l, p x = false) : left p l = l := List.filter_eq_self.2 fun x hx => by simp [h x hx]
theorem left_set (F junk : List Smp) (x : Smp) (r : List Smp) (hj : junk ≠ []) : ∃ junk', (F ++ junk ++ x :: r).set F.length x = (F ++ [x]) ++ junk' ++ r ∧ junk'.length = junk.length ∧ junk' ≠ [] := by
  match junk, hj with
  | a :: q, _ =>
    refine ⟨q ++ [x], ?_, by simp, by simp⟩
    rw [List.append_assoc, List.set_append_right _ _ (Nat.le_refl _), Nat.sub_self]
    simp

def clearCells (n : Nat) : List Value := (Builtin.zeroCells #[.int .i64 0, .int .u64 0] n).toList
theorem clear_len (n : Nat) : (clearCells n).length = n * 2 := by simp [clearCells, Builtin.zeroCells]
theorem run_clear (w : World) (ty : TypeId) (b o n c : Nat) (hn : 0 < n) (hc : ∀ j, j < n * 2 → (w.cell? ⟨b, o + j, none⟩).isSome = true) (hf : ∀ j, j < n * 2 → w.frozen? ⟨b, o + j, none⟩ = false) :
    (Builtin.clear_ #[63] ty #[.slice (some ⟨b, o, none⟩) n c]).run Tryz.prog w = .ok (.tuple #[]) (w.setCells b o (clearCells n)) := by
  have hl := clear_len n
  unfold clearCells at hl ⊢
  have hst := run_storeCells_cells (P := Tryz.prog) b o (Builtin.zeroCells #[.int .i64 0, .int .u64 0] n).toList 0 w (by rw [hl]; simpa using hc) (by rw [hl]; simpa using hf) (by
    intro v hv
    simp only [Builtin.zeroCells, Array.toList_map, List.mem_map] at hv
    obtain ⟨q, _, rfl⟩ := hv
    have : q % 2 < 2 := Nat.mod_lt _ (by decide)
    match q % 2, this with
    | 0, _ => rfl
    | 1, _ => rfl)
  simp only [Nat.add_zero] at hst
  obtain ⟨m, rfl⟩ : ∃ m, n = m + 1 := ⟨n - 1, by omega⟩
  simp [Builtin.clear_, run_underlying Tryz.underlying63, Value.cells, hst]

/-- what DeleteFunc leaves: the head of the same block -/
def DelRes (g c m : Nat) (F : List Smp) (w w' : World) (v : Value) : Prop :=
  ∃ rest, v = .slice (some ⟨g, 0, none⟩) F.length c ∧ F.length ≤ c ∧ Whole1 w' g 68 (F.flatMap Smp.cells ++ rest).toArray ∧ (F.flatMap Smp.cells ++ rest).length = m ∧ w.grownBy w' (some g)

set_option maxHeartbeats 6400000 in
theorem delete_any (g n c : Nat) (l : List Smp) (rest : List Value) (m : Nat) (f : FuncId) (cb : Array Value) (p : Smp → Bool) (w : World) (eg : ∀ args w, (callFunc f args).run Tryz.prog w = .ok (.enter f args) w) (hp : PredOk f cb p l (fun W => w.grownBy W (some g))) (hw : Whole1 w g 68 (l.flatMap Smp.cells ++ rest).toArray) (hl : l.length = n) (hm : (l.flatMap Smp.cells ++ rest).length = m) (hnc : n ≤ c) (hn : n ≤ 4611686018427387904) :
    Calls Tryz.prog 40 #[.slice (some ⟨g, 0, none⟩) n c, .func (.func f) #[] cb] w
      fun e w' => ∃ v, e = .returned v ∧ DelRes g c m (left p l) w w' v := by
  have hglt := hw.lt
  have hrow := row_of_whole hk hw hl
  have HIX := hidden (index_any (some ⟨g, 0, none⟩) n c l f cb p w eg (fun x hx W hW => hp x hx W (gb_below hW _)) hrow hl hn)
  have HW := hidden hw
  have HL := hidden hl
  have HP := hidden hp
  have HM := hidden hm
  clear hm
  clear hrow hw hl hp
  go_enter Tryz.func40, Tryz.ntmps40
  go_wp2_with fail
  refine HIX.out.mono ?_
  rintro e w1 ⟨r, rfl, hr, hb1⟩
  have hw1 := HW.out.below hb1 hglt
  have hg1 : w.grownBy w1 (some g) := gb_below hb1 _
  clear HIX
  rcases hr with ⟨rfl, hall⟩ | ⟨i0, x, rfl, hx, hxr, hpre⟩
  · have hs := hidden (left_all hall)
    have HW1 := hidden hw1
    clear hall hw1
    go_wp2
    go_ret
    exact ⟨_, rfl, rest, by rw [hs.out, HL.out]; rfl, by rw [hs.out, HL.out]; exact hnc, by rw [hs.out]; exact HW1.out, by rw [hs.out]; exact HM.out, hg1⟩
  · have hi0 : i0 < n := by rw [← HL.out]; exact (List.getElem?_eq_some_iff.1 hx).1
    have ht1 : ((i0 : Int) == -1) = false := by simp
    have hp1 : left p (l.take i0) = l.take i0 := left_all hpre
    have hp2 : left p (l.take (i0 + 1)) = l.take i0 := by rw [take_snoc? hx, left_snoc, if_pos hxr, hp1]
    have hsplit : l = left p (l.take (i0 + 1)) ++ [x] ++ l.drop (i0 + 1) := by
      rw [hp2, List.append_assoc, List.singleton_append, ← (List.getElem?_eq_some_iff.1 hx).2, ← List.drop_eq_getElem_cons, List.take_append_drop]
    have hlen : (left p (l.take (i0 + 1))).length = i0 := by rw [hp2, List.length_take, HL.out]; omega
    have HW1 : Whole1 w1 g 68 ((left p (l.take (i0 + 1)) ++ [x] ++ l.drop (i0 + 1)).flatMap Smp.cells ++ rest).toArray := by rw [← hsplit]; exact hw1
    have HS1 := hidden HW1
    have HLEN := hidden hlen
    clear hw1 HW1 hsplit hp1 hp2 hpre hxr hx hlen
    go_wp2_with fail
    go_loopw [5, 6] (fun vi vj wx => ∃ (j : Nat) (junk : List Smp), vi = .int .i64 (((left p (l.take j)).length : Nat) : Int) ∧ vj = .int .i64 j ∧ j ≤ n ∧ (left p (l.take j)).length + junk.length = j ∧ junk ≠ [] ∧ Hid (Whole1 wx g 68 ((left p (l.take j) ++ junk ++ l.drop j).flatMap Smp.cells ++ rest).toArray) ∧ Hid (w.grownBy wx (some g))) (fun _ vj _ => n - (intOf vj).toNat)
    case atStart => exact ⟨i0 + 1, [x], by rw [HLEN.out], by go_num, by omega, by rw [HLEN.out]; rfl, by simp, HS1, hidden hg1⟩
    case round =>
      obtain ⟨j, junk, rfl, rfl, hj, hjk, hne, hWx, hgx⟩ := hrel
      by_cases hlt : j < n
      · obtain ⟨x, hx⟩ : ∃ x, l[j]? = some x := ⟨l[j]'(by rw [HL.out]; exact hlt), List.getElem?_eq_getElem _⟩
        have hdrop : l.drop j = x :: l.drop (j + 1) := by
          obtain ⟨h1, h2⟩ := List.getElem?_eq_some_iff.1 hx
          rw [List.drop_eq_getElem_cons h1, h2]
        have hW := hWx.out
        rw [hdrop] at hW
        have hsn := left_snoc p (l.take j) x
        rw [← take_snoc? hx] at hsn
        have hFl : (left p (l.take j)).length ≤ j := by omega
        obtain ⟨F, hF⟩ : ∃ F, left p (l.take j) = F := ⟨_, rfl⟩
        obtain ⟨r, hr⟩ : ∃ r, l.drop (j + 1) = r := ⟨_, rfl⟩
        rw [hF] at hsn hW hjk hFl ⊢
        rw [hr] at hW
        have hjl : (F ++ junk).length = j := by rw [List.length_append]; exact hjk
        have hxx : (F ++ junk ++ x :: r)[j]? = some x := by
          rw [List.getElem?_append_right (by omega), hjl, Nat.sub_self]; rfl
        have hpos : 0 < junk.length := List.length_pos_iff.2 hne
        have d0 : wr.cell? ⟨g, j * 2, none⟩ = some (.int .i64 x.t) := whole_at hk hW hxx 0 (by omega)
        have d1 : wr.cell? ⟨g, j * 2 + 1, none⟩ = some (.int .u64 ((x.v : Nat) : Int)) := whole_at hk hW hxx 1 (by omega)
        obtain ⟨i, hi⟩ : ∃ i, F.length = i := ⟨_, rfl⟩
        rw [hi] at hjk hFl ⊢
        have hin : i < n := by omega
        have hil : i < (F ++ junk ++ x :: r).length := by rw [List.length_append, List.length_append]; omega
        obtain ⟨sj, hs1, hs2, hs3⟩ := left_set F junk x r hne
        rw [hi] at hs1
        have hgl := hW.lt
        have HI := hidden hi
        have HF := hidden hF
        have HR := hidden hr
        have HSN := hidden hsn
        have HS1x := hidden hs1
        obtain ⟨y, hy⟩ : ∃ y, (F ++ junk ++ x :: r)[i]? = some y := ⟨_, List.getElem?_eq_getElem hil⟩
        have hltz : (j : Int) < (n : Int) := by omega
        have hiz : (i : Int) < (n : Int) := by omega
        have HY := hidden hy
        have HDR := hidden hdrop
        have HXM := hidden (List.mem_of_getElem? hx)
        have HWW := hidden hW
        clear hdrop hsn hi hF hr hs1 hxx hjl hx hy hW
        go_wp2_with fail
        refine (HP.out x HXM.out _ (gb_alloc hgx.out _)).mono ?_
        rintro e w2 ⟨rfl, hb2⟩
        have h6 : Whole1 w2 wr.heap.size 68 #[.int .i64 x.t, .int .u64 ((x.v : Nat) : Int)] := (Whole1.new wr _ _).below hb2 (by simp)
        have hW2 := (HWW.out.alloc (Obj.cells #[.int .i64 x.t, .int .u64 ((x.v : Nat) : Int)] 68)).below hb2 (by simp; omega)
        have hg2 : w.grownBy w2 (some g) := gb_trans (gb_alloc hgx.out _) (gb_below hb2 _)
        have HG2 := hidden hg2
        have HW2 := hidden hW2
        have q0 : w2.cell? ⟨wr.heap.size, 0, none⟩ = some (.int .i64 x.t) := h6.cell 0
        have q1 : w2.cell? ⟨wr.heap.size, 1, none⟩ = some (.int .u64 ((x.v : Nat) : Int)) := h6.cell 1
        clear h6 hb2 d0 d1 hg2 hWx hgx HWW
        obtain ⟨b, hv⟩ : ∃ b, p x = b := ⟨_, rfl⟩
        have hsn := HSN.out
        rw [hv] at hsn ⊢
        clear hv
        cases b with
        | false =>
          rw [if_neg (by decide)] at hsn
          have yy0 : w2.cell? ⟨g, i * 2, none⟩ = some (.int .i64 y.t) := whole_at hk hW2 HY.out 0 (by omega)
          have yy1 : w2.cell? ⟨g, i * 2 + 1, none⟩ = some (.int .u64 ((y.v : Nat) : Int)) := whole_at hk hW2 HY.out 1 (by omega)
          have z0 := hW2.free (i * 2)
          have z1 := hW2.free (i * 2 + 1)
          have HSN2 := hidden hsn
          clear hW2 hsn
          go_wp2_with fail
          go_roundw
          case rel =>
            have hwp := puts_elem hk HW2.out hil x
            rw [HS1x.out] at hwp
            refine ⟨j + 1, sj, ?_, by go_num, by omega, ?_, hs3, ?_, ?_⟩
            · rw [HSN2.out, List.length_append, List.length_singleton, HI.out]; go_num
            · rw [HSN2.out, List.length_append, List.length_singleton, HI.out, hs2]; omega
            · rw [HSN2.out, HR.out]; exact hidden hwp
            · exact hidden (gb_trans HG2.out (puts_gb x.cells (i * 2) w2))
          case measure => simp [intOf]; omega
        | true =>
          rw [if_pos rfl] at hsn
          have HSN2 := hidden hsn
          clear hW2 hsn
          go_wp2_with fail
          go_roundw
          case rel =>
            refine ⟨j + 1, junk ++ [x], ?_, by go_num, by omega, ?_, by simp, ?_, HG2⟩
            · rw [HSN2.out, HI.out]
            · rw [HSN2.out, List.length_append, List.length_singleton, HI.out]; omega
            · rw [HSN2.out, HR.out]
              have := HW2.out
              rw [show F ++ junk ++ x :: r = F ++ (junk ++ [x]) ++ r from by simp] at this
              exact hidden this
          case measure => simp [intOf]; omega
      · obtain rfl : n = j := by omega
        have hd : l.drop n = [] := List.drop_eq_nil_of_le (by rw [HL.out]; exact Nat.le_refl _)
        have htk : l.take n = l := List.take_of_length_le (by rw [HL.out]; exact Nat.le_refl _)
        have hW := hWx.out
        rw [hd, List.append_nil] at hW
        rw [htk] at hW hjk ⊢
        have hpos : 0 < junk.length := List.length_pos_iff.2 hne
        obtain ⟨F, hF⟩ : ∃ F, left p l = F := ⟨_, rfl⟩
        rw [hF] at hW hjk ⊢
        obtain ⟨i, hi⟩ : ∃ i, F.length = i := ⟨_, rfl⟩
        rw [hi] at hjk ⊢
        have hin : i < n := by omega
        have hsz : ((F ++ junk).flatMap Smp.cells ++ rest).length = n * 2 + rest.length := by rw [List.length_append, fm_len hk, List.length_append, hi, hjk]
        have hcl : ∀ ty, (Builtin.clear_ #[63] ty #[.slice (some ⟨g, i * 2, none⟩) (n - i) (c - i)]).run Tryz.prog wr = .ok (.tuple #[]) (wr.setCells g (i * 2) (clearCells (n - i))) := fun ty =>
          run_clear wr ty g (i * 2) (n - i) (c - i) (by omega) (fun q hq => by
            rw [hW.cell, List.getElem?_toArray, List.getElem?_eq_getElem (by rw [hsz]; omega)]; rfl) (fun q hq => hW.free _)
        have hw' := puts_whole (clearCells (n - i)) (i * 2) wr _ hW (by rw [clear_len, hsz]; omega)
        have hg' := puts_gb (g := g) (clearCells (n - i)) (i * 2) wr
        have htake : ((F ++ junk).flatMap Smp.cells ++ rest).take (i * 2) = F.flatMap Smp.cells := by
          rw [List.flatMap_append, List.append_assoc, List.take_append_of_le_length (by rw [fm_len hk, hi]; exact Nat.le_refl _), List.take_of_length_le (by rw [fm_len hk, hi]; exact Nat.le_refl _)]
        rw [htake, List.append_assoc] at hw'
        have hres : DelRes g c m (left p l) w (wr.setCells g (i * 2) (clearCells (n - i))) (.slice (some ⟨g, 0, none⟩) i c) := by
          refine ⟨_, by rw [hF, hi], by rw [hF, hi]; omega, by rw [hF]; exact hw', ?_, gb_trans hgx.out hg'⟩
          rw [← HM.out, hF, List.length_append, List.length_append, List.length_append, fm_len hk, fm_len hk, clear_len, List.length_drop, hsz, hi, HL.out]
          omega
        have HRES := hidden hres
        have hiz : (i : Int) < (n : Int) := by omega
        have hic : (i : Int) ≤ (c : Int) := by omega
        clear hres hw' hg' hW hWx hgx hF hi hd htk hsz htake
        go_wp2
        go_ret
        exact ⟨_, rfl, HRES.out⟩

/-- at no element -/
theorem delete0_any (A : Option Addr) (c : Nat) (fv : Value) (w : World) :
    Calls Tryz.prog 40 #[.slice A 0 c, fv] w fun e w' => e = .returned (.slice A 0 c) ∧ w = w' := by
  have hix : Calls Tryz.prog 77 #[.slice A 0 c, fv] w fun e w' => e = .returned (.int .i64 (-1)) ∧ w = w' := by
    go_enter Tryz.func77, Tryz.ntmps77
    go_wp2
    refine wp_loop_rounds 1 ?_
    rw [rounds_succ]
    go_wp2
    go_ret
    exact ⟨rfl, rfl⟩
  have HIX := hidden hix
  clear hix
  go_enter Tryz.func40, Tryz.ntmps40
  go_wp2_with fail
  refine HIX.out.mono ?_
  rintro e w1 ⟨rfl, rfl⟩
  go_wp2
  go_ret
  exact ⟨rfl, rfl⟩
/-- DeleteFunc at a row of the call's own -/
theorem deleteAll_any (v : Value) (n base : Nat) (l : List Smp) (f : FuncId) (cb : Array Value) (p : Smp → Bool) (w : World) (eg : ∀ args w, (callFunc f args).run Tryz.prog w = .ok (.enter f args) w) (hp : ∀ g, base ≤ g → PredOk f cb p l (fun W => w.grownBy W (some g))) (hown : w.ownsRow base 68 2 v n (l.flatMap Smp.cells)) (hl : l.length = n) (hn : n ≤ 4611686018427387904) :
    Calls Tryz.prog 40 #[v, .func (.func f) #[] cb] w
      fun e w' => ∃ v', e = .returned v' ∧ w'.ownsRow base 68 2 v' (left p l).length ((left p l).flatMap Smp.cells) ∧ w.grownBy w' v.ownBlock ∧ v'.ownBlock = v.ownBlock := by
  rcases Nat.eq_zero_or_pos n with h0 | h0
  · subst h0
    obtain rfl : l = [] := List.eq_nil_of_length_eq_zero hl
    obtain ⟨A, c, rfl, _, _⟩ := own_shape hown
    refine (delete0_any A c _ w).mono ?_
    rintro e w' ⟨rfl, rfl⟩
    exact ⟨_, rfl, hown, gb_refl _ _, rfl⟩
  · obtain ⟨g, c, rest, rfl, hg, hw, hnc, hc, _, hm⟩ := own_whole_g hk hown h0
    refine (delete_any g n c l rest (c * 2) f cb p w eg (hp g hg) hw hl hm hnc hn).mono ?_
    rintro e w' ⟨v', rfl, rest', rfl, hF, hw', hm', hgb⟩
    exact ⟨_, rfl, own_of_whole_g hk hg hw' hF hc rfl hm', hgb, rfl⟩
end Go.Proofs.YthncochjhbmceaaGreat.DelSmp

namespace Go.Proofs.YthncochjhbmceaaGreat
set_option maxRecDepth 100000
open Go.RowKit Go.Shelf

theorem smpK (x : Smp) : x.cells.length = 2 := rfl
def keepP (l : List Spn) (s : List Smp) : List Smp := s.filter fun x => !hasP l x.t

theorem keep1_any (A : Option Addr) (m c : Nat) (R : List Spn) (x : Smp) (g : Nat) (W : World) (hg : W.cell? ⟨g, 0, none⟩ = some (.slice A m c)) (hr : Row W W.heap.size 2 A m (R.flatMap Spn.cells)) (hl : R.length = m) (hn : m ≤ 4611686018427387904) :
    Calls Tryz.prog 83 #[.agg #[.int .i64 x.t, .int .u64 ((x.v : Nat) : Int)], .pointer (some ⟨g, 0, none⟩)] W fun e W' => e = .returned (.bool (hasP R x.t)) ∧ Below W.heap.size W W' := by
  have lg := World.block_lt_of_cell? W _ hg
  simp only at lg
  have HR := hidden hr
  clear hr
  go_enter Tryz.func83, Tryz.ntmps83
  go_upto_region 1 with (fail)
  have hY := Whole1.new W 68 #[.int .i64 x.t, .int .u64 ((x.v : Nat) : Int)]
  have hB : Below W.heap.size W (W.alloc (.cells #[.int .i64 x.t, .int .u64 ((x.v : Nat) : Int)] 68)) := (Below.refl _ _).alloc (Nat.le_refl _) _
  generalize W.alloc (.cells #[.int .i64 x.t, .int .u64 ((x.v : Nat) : Int)] 68) = W2 at hY hB ⊢
  have t0 := (hB.cell (p := ⟨g, 0, none⟩) lg).trans hg
  have y0 := hY.cell 0
  have HB := hidden hB
  have S1 := hidden (hasSpn_any A m c R x.t W2 ((HR.out.below hB).more hB.size) hl hn)
  obtain ⟨X, hX⟩ : ∃ X, W.heap.size = X := ⟨_, rfl⟩
  rw [hX] at y0 ⊢
  have HX := hidden hX
  clear hY hX hB hg lg
  go_wp2_with fail
  refine S1.out.mono ?_
  rintro e w2 ⟨rfl, hb2⟩
  go_wp2_with fail
  go_ret
  have := HX.out
  subst this
  exact ⟨rfl, HB.out.trans (hb2.mono HB.out.size)⟩

set_option maxHeartbeats 3200000 in
theorem keepO_any (A : Option Addr) (n c : Nat) (l : List Spn) (A2 : Option Addr) (m c2 : Nat) (s : List Smp) (w : World) (hr : Row w w.heap.size 2 A n (l.flatMap Spn.cells)) (hl : l.length = n) (hn : n * 16 ≤ 140737488351232) (hok : ∀ x ∈ l, x.ok) (hr2 : Row w w.heap.size 2 A2 m (s.flatMap Smp.cells)) (hl2 : s.length = m) (hn2 : m * 16 ≤ 140737488351232) :
    Calls Tryz.prog 50 #[.slice A n c, .slice A2 m c2] w fun e w' => ∃ A' c' R, e = .returned (.slice A' (keepP R s).length c') ∧ OfRes l R ∧ Row w' w'.heap.size 2 A' (keepP R s).length ((keepP R s).flatMap Smp.cells) ∧ (0 < (keepP R s).length → w'.ownsRow w.heap.size 68 2 (.slice A' (keepP R s).length c') (keepP R s).length ((keepP R s).flatMap Smp.cells)) ∧ Below w.heap.size w w' := by
  have eg1 : ∀ args w, (callFunc 83 args).run Tryz.prog w = .ok (.enter 83 args) w := enters_of Tryz.func83 (by kernel_rfl) rfl
  have HE1 := hidden eg1
  have S1 := hidden (spnOf_any A n c l w hr hl hn hok)
  have HR2 := hidden hr2
  have HL2 := hidden hl2
  clear hr hl hok hr2 hl2 eg1
  go_enter Tryz.func50, Tryz.ntmps50
  go_wp2_with fail
  refine S1.out.mono ?_
  rintro e w1 ⟨v, R, rfl, ho, hR, hlen, hb1⟩
  obtain ⟨A1, c1, rfl, _, hr1⟩ := own_shape ho
  obtain ⟨k, hk⟩ : ∃ k, R.length = k := ⟨_, rfl⟩
  rw [hk] at hr1 hlen ⊢
  have HB1 := hidden hb1
  have HRo := hidden hR
  have HK := hidden hk
  have HR1 := hidden hr1
  clear ho hR hb1 hk hr1 S1
  go_wp2_with fail
  have hX := Whole1.new w1 59 #[.slice A1 k c1]
  have hB : Below w1.heap.size w1 (w1.alloc (.cells #[.slice A1 k c1] 59)) := (Below.refl _ _).alloc (Nat.le_refl _) _
  generalize w1.alloc (.cells #[.slice A1 k c1] 59) = w2 at hX hB ⊢
  have hR2 := (HR1.out.below hB).more hB.size
  have HB2 := hidden (HB1.out.trans (hB.mono HB1.out.size))
  have S2 := hidden (ClnSmp.cloneO_any A2 m c2 s w2 ((HR2.out.below HB2.out).more HB2.out.size) HL2.out hn2)
  obtain ⟨X, hXe⟩ : ∃ X, w1.heap.size = X := ⟨_, rfl⟩
  rw [hXe] at hX ⊢
  have HX := hidden hX
  have HRw := hidden hR2
  clear hX hB hXe hR2 HB1 HR1
  refine S2.out.mono ?_
  rintro e w3 ⟨⟨sA, sn, sc, sl⟩, rfl, _, hsn, _, _, hb3, hown⟩
  obtain rfl : sn = m := hsn
  have HB3 := hidden hb3
  simp only [Sl.val] at hown ⊢
  clear S2 hb3
  rcases Nat.eq_zero_or_pos sn with h0 | h0
  · subst h0
    have hle : Hid (s = []) := List.eq_nil_of_length_eq_zero HL2.out
    clear hown
    go_wp2_with fail
    refine (DelSmp.delete0_any sA sc _ _).mono ?_
    rintro e w' ⟨rfl, rfl⟩
    go_wp2_with fail
    go_ret
    have e0 : keepP R s = [] := by rw [hle.out]; rfl
    refine ⟨sA, sc, R, by rw [e0]; rfl, HRo.out, ?_, ?_, HB2.out.trans (HB3.out.mono HB2.out.size)⟩
    · rw [e0]
      exact Row.nil
    · intro h
      rw [e0] at h
      simp at h
  · have S3 := hidden (DelSmp.deleteAll_any _ sn w2.heap.size s 83 #[.pointer (some ⟨X, 0, none⟩)] (fun x => hasP R x.t) w3 HE1.out (fun g hg x _ W hW => by
      have hb := below_gb HB3.out hW HB3.out.size hg
      exact keep1_any A1 k c1 R x X W ((HX.out.below hb HX.out.lt).cell 0) ((HRw.out.below hb).more hb.size) HK.out (by omega)) (hown h0) HL2.out (by omega))
    clear hown
    go_wp2_with fail
    refine S3.out.mono ?_
    rintro e w4 ⟨v', rfl, ho4, hg4, hv4⟩
    have e0 : DelSmp.left (fun x => hasP R x.t) s = keepP R s := rfl
    rw [e0] at ho4
    obtain ⟨A4, c4, rfl, _, hr4⟩ := own_shape ho4
    have hB4 : Below w2.heap.size w2 w4 := HB3.out.grown hg4 HB3.out.size (fun q hq => (ho4.lt q (hv4.trans hq)).1)
    have HR4 := hidden hr4
    have HO4 := hidden (own_more ho4 HB2.out.size)
    have HB4 := hidden (HB2.out.trans (hB4.mono HB2.out.size))
    clear e0 ho4 hg4 hv4 hB4 hr4 S3
    go_wp2_with fail
    go_ret
    exact ⟨A4, c4, R, rfl, HRo.out, HR4.out, fun _ => HO4.out, HB4.out⟩
theorem keep_any (A : Option Addr) (n c : Nat) (l : List Spn) (A2 : Option Addr) (m c2 : Nat) (s : List Smp) (w : World) (hr : Row w w.heap.size 2 A n (l.flatMap Spn.cells)) (hl : l.length = n) (hn : n * 16 ≤ 140737488351232) (hok : ∀ x ∈ l, x.ok) (hr2 : Row w w.heap.size 2 A2 m (s.flatMap Smp.cells)) (hl2 : s.length = m) (hn2 : m * 16 ≤ 140737488351232) :
    Calls Tryz.prog 50 #[.slice A n c, .slice A2 m c2] w fun e w' => ∃ A' c' R, e = .returned (.slice A' (keepP R s).length c') ∧ OfRes l R ∧ Row w' w'.heap.size 2 A' (keepP R s).length ((keepP R s).flatMap Smp.cells) ∧ Below w.heap.size w w' := by
  refine (keepO_any A n c l A2 m c2 s w hr hl hn hok hr2 hl2 hn2).mono ?_
  rintro e w' ⟨A', c', R, h1, h2, h3, _, h5⟩
  exact ⟨A', c', R, h1, h2, h3, h5⟩

/-! the reference's Keep -/
theorem rsinfo : (Tryz.prog.info? 155).map (fun i => (i.zero, i.size, i.bytes)) = some (some (.agg #[.int .i64 0, .int .u64 0]), 2, 16) := by kernel_rfl
theorem keepP_snoc {l : List Spn} {s : List Smp} {k : Nat} {x : Smp} (h : s[k]? = some x) : keepP l (s.take (k + 1)) = if hasP l x.t = true then keepP l (s.take k) else keepP l (s.take k) ++ [x] := by
  rw [take_snoc? h]
  unfold keepP
  rw [List.filter_append]
  cases h : hasP l x.t <;> simp [h]
end Go.Proofs.YthncochjhbmceaaGreat

namespace Go.Proofs.YthncochjhbmceaaGreat
set_option maxRecDepth 100000
open Go.RowKit
open Classical

/-- a series that gets a number, as it lies -/
structure NewQ where
  ref : Int
  lab : Sl Lbl
def NewQ.cells (x : NewQ) : List Value := [.int .i64 x.ref, x.lab.val]
/-- a sample of a series, as it lies -/
structure PntR where
  ref : Int
  t : Int
  v : Nat
def PntR.cells (x : PntR) : List Value := [.int .i64 x.ref, .int .i64 x.t, .int .u64 (x.v : Int)]
/-- times that are taken away, as they lie -/
structure GonR where
  ref : Int
  res : Int
  sp : Sl Spn
def GonR.cells (x : GonR) : List Value := [.int .i64 x.ref, .int .i64 x.res, x.sp.val]
/-- a record, as it lies -/
structure RecR where
  news : Sl NewQ
  pts : Sl PntR
  gones : Sl GonR
def RecR.val (r : RecR) : Value := .agg #[r.news.val, r.pts.val, r.gones.val]

def fitRef (n : Int) : Prop := 0 ≤ n ∧ n ≤ 1099511627776
def fitNew (x : NewQ) : Prop := fitRef x.ref ∧ validP x.lab.l
def fitPnt (x : PntR) : Prop := fitRef x.ref ∧ 0 ≤ x.t ∧ x.t ≤ 1125899906842624
def fitGon (x : GonR) : Prop := fitRef x.ref ∧ 0 ≤ x.res ∧ x.res < 3 ∧ x.sp.l ≠ [] ∧ OneS x.sp.l
/-- may the record be written? -/
def fitRec (r : RecR) : Prop := (∀ x ∈ r.news.l, fitNew x) ∧ (∀ x ∈ r.pts.l, fitPnt x) ∧ (∀ x ∈ r.gones.l, fitGon x) ∧ 0 < r.news.n + r.pts.n + r.gones.n
/-- a record's rows show what it says -/
structure RecR.At (w : World) (r : RecR) : Prop where
  news : r.news.At w w.heap.size 2 NewQ.cells
  labs : ∀ x ∈ r.news.l, LbF w x.lab.A x.lab.n x.lab.l ∧ x.lab.n ≤ x.lab.c
  newI : ∀ x ∈ r.news.l, -9223372036854775808 ≤ x.ref ∧ x.ref ≤ 9223372036854775807
  pts : r.pts.At w w.heap.size 3 PntR.cells
  ptI : ∀ x ∈ r.pts.l, -9223372036854775808 ≤ x.ref ∧ x.ref ≤ 9223372036854775807 ∧ -9223372036854775808 ≤ x.t ∧ x.t ≤ 9223372036854775807 ∧ x.v < 18446744073709551616
  gones : r.gones.At w w.heap.size 3 GonR.cells
  spans : ∀ x ∈ r.gones.l, x.sp.At w w.heap.size 2 Spn.cells ∧ ∀ y ∈ x.sp.l, y.ok
  gonI : ∀ x ∈ r.gones.l, -9223372036854775808 ≤ x.ref ∧ x.ref ≤ 9223372036854775807 ∧ -9223372036854775808 ≤ x.res ∧ x.res ≤ 9223372036854775807
  few : r.news.n ≤ 4294967296 ∧ r.pts.n ≤ 4294967296 ∧ r.gones.n ≤ 4294967296 ∧ (r.gones.l.map fun x => x.sp.n).sum ≤ 4294967296
theorem RecR.At.on {w w' : World} {r : RecR} (h : r.At w) (hb : Below w.heap.size w w') : r.At w' :=
  ⟨(h.news.below hb).more hb.size, fun x hx => ⟨(h.labs x hx).1.on hb, (h.labs x hx).2⟩, h.newI, (h.pts.below hb).more hb.size, h.ptI, (h.gones.below hb).more hb.size, fun x hx => ⟨((h.spans x hx).1.below hb).more hb.size, (h.spans x hx).2⟩, h.gonI, h.few⟩
theorem few_sp {l : List GonR} {M : Nat} (h : (l.map fun x => x.sp.n).sum ≤ M) {x : GonR} (hx : x ∈ l) : x.sp.n ≤ M := by
  induction l with
  | nil => cases hx
  | cons y l ih =>
    simp only [List.map_cons, List.sum_cons] at h
    rcases List.mem_cons.1 hx with e | hx
    · subst e; omega
    · exact ih (by omega) hx
theorem take_sum {l : List GonR} (h : ∀ x ∈ l, x.sp.l.length = x.sp.n) (k : Nat) : ((l.take k).map fun x => x.sp.l.length).sum ≤ (l.map fun x => x.sp.n).sum := by
  induction l generalizing k with
  | nil => simp
  | cons y l ih =>
    have h1 := h y (List.mem_cons_self ..)
    cases k with
    | zero => simp
    | succ k =>
      have h2 := ih (fun x hx => h x (List.mem_cons_of_mem _ hx)) k
      simp only [List.take_succ_cons, List.map_cons, List.sum_cons]
      omega
theorem newK (x : NewQ) : x.cells.length = 2 := rfl
theorem pntK (x : PntR) : x.cells.length = 3 := rfl
theorem gonRK (x : GonR) : x.cells.length = 3 := rfl
end Go.Proofs.YthncochjhbmceaaGreat

namespace Go.Proofs.YthncochjhbmceaaGreat
set_option maxRecDepth 100000
open Go.RowKit Go.Shelf

def encS (l : List Spn) : List UInt8 := l.flatMap fun x => intL x.frm ++ intL x.til
def encL (R : List Spn) : List UInt8 := uintL R.length ++ encS R

theorem encS_len (l : List Spn) (h : ∀ x ∈ l, x.ok) : (encS l).length ≤ l.length * 20 := by
  induction l with
  | nil => simp [encS]
  | cons x l ih =>
    have := ih fun y hy => h y (List.mem_cons_of_mem _ hy)
    obtain ⟨h1, h2, h3, h4⟩ := h x (List.mem_cons_self ..)
    have e1 := uintL_ten (zz_lt h1 h2)
    have e2 := uintL_ten (zz_lt h3 h4)
    simp only [encS, List.flatMap_cons, List.length_append, List.length_cons, intL] at *
    omega

set_option maxHeartbeats 2000000 in
theorem encode_any (A : Option Addr) (n c : Nat) (l : List Spn) (w : World) (hr : Row w w.heap.size 2 A n (l.flatMap Spn.cells)) (hl : l.length = n) (hn : n * 16 ≤ 140737488351232) (hn2 : n * 20 + 10 ≤ 140737488355328) (hok : ∀ x ∈ l, x.ok) :
    Calls Tryz.prog 113 #[.slice A n c] w fun e w' => ∃ R, OfRes l R ∧ e = .returned (.string ⟨(encL R).toArray⟩) ∧ Below w.heap.size w w' := by
  have HO := hidden (spnOf_any A n c l w hr hl hn hok)
  clear hr hl
  go_enter Tryz.func113, Tryz.ntmps113
  go_wp2_with fail
  refine HO.out.mono ?_
  rintro e w1 ⟨v, R, rfl, ho, hR, hlen, hb1⟩
  clear HO
  have HRes := hidden hR
  have HOK := hidden (hR.ok hok)
  obtain ⟨m, hm⟩ : ∃ m, R.length = m := ⟨_, rfl⟩
  rw [hm] at ho hlen
  obtain ⟨A2, c2, rfl, hc2, hr2⟩ := own_shape ho
  have HR2 := hidden hr2
  have HM := hidden hm
  have B1 := hidden hb1
  clear hR hm ho hr2 hb1 hok
  go_wp2_with fail
  have hI := bld_new w1
  have hB : Below w1.heap.size w1 (w1.alloc (.cells #[.pointer none, .slice none 0 0] 178)) := (Below.refl _ _).alloc (Nat.le_refl _) _
  generalize w1.alloc (.cells #[.pointer none, .slice none 0 0] 178) = w2 at hI hB ⊢
  obtain ⟨g, hg⟩ : ∃ g, w1.heap.size = g := ⟨_, rfl⟩
  have HG := hidden hg
  rw [hg] at hI hB ⊢
  have hU := uint_any m w2 (by omega)
  go_wp2_with fail
  refine hU.mono ?_
  rintro e w3 ⟨rfl, hb3⟩
  have hI3 := bld_below hI hb3
  have hs3 : g ≤ w2.heap.size := by have := hB.size; omega
  have B3 : Below g w1 w3 := hB.trans (hb3.mono hs3)
  clear hI hU hB
  go_wp2_with fail
  refine (bldStr_any g g (Lib.byteCells []) ⟨(uintL m).toArray⟩ w3 hI3 (by have := uintL_ten (v := m) (by omega); simp [Lib.byteCells, ByteArray.size]; omega) (by have := B3.size; omega)).mono ?_
  rintro e w4 ⟨rfl, hI4, hb4, _⟩
  have hI4' : Lib.IsBuilder 178 5 g g (Lib.byteCells (uintL m)) w4 := .inr hI4
  have B4 := B3.trans hb4
  clear hI3 hb3 hs3 B3 hI4 hb4
  go_wp2_with fail
  go_loopw [16] (fun i wr => ∃ (k : Nat), k ≤ m ∧ i = .int .i64 k ∧ Lib.IsBuilder 178 5 g g (Lib.byteCells (uintL m ++ encS (R.take k))) wr ∧ Below g w1 wr) (fun i _ => m - (intOf i).toNat)
  case atStart => exact ⟨0, Nat.zero_le _, rfl, by simpa [encS] using hI4', B4⟩
  case round =>
    obtain ⟨k, hk, rfl, hbd, hb⟩ := hrel
    clear hI4' B4
    by_cases hlt : k < m
    · obtain ⟨gs, o, x, rfl, _, hx, hcl⟩ := row_at spnK (HR2.out.below (HG.out ▸ hb)) HM.out k hlt
      have c0 : wr.cell? ⟨gs, o + k * 2, none⟩ = some (.int .i64 x.frm) := hcl 0 (by omega)
      have c1 : wr.cell? ⟨gs, o + k * 2 + 1, none⟩ = some (.int .i64 x.til) := hcl 1 (by omega)
      have hT : Hid (encS (R.take (k + 1)) = encS (R.take k) ++ (intL x.frm ++ intL x.til)) := by rw [Hid, take_snoc? hx]; simp [encS]
      have hxo := HOK.out x (List.mem_of_getElem? hx)
      have hel := encS_len (R.take k) fun y hy => HOK.out y (List.mem_of_mem_take hy)
      have k0 : (0 : Int) ≤ (k : Int) := by omega
      have k1 : (k : Int) < (m : Int) := by omega
      have hbs := hb.size
      clear hx hcl
      obtain ⟨xi1, xi2, xi3, xi4⟩ := hxo
      go_wp2_with fail
      have X1 := Whole1.new wr 33 #[.int .i64 x.frm, .int .i64 x.til]
      have hbA : Below wr.heap.size wr (wr.alloc (.cells #[.int .i64 x.frm, .int .i64 x.til] 33)) := (Below.refl _ _).alloc (Nat.le_refl _) _
      generalize wr.alloc (.cells #[.int .i64 x.frm, .int .i64 x.til] 33) = wa at X1 hbA ⊢
      have hgr : g ≤ wr.heap.size := by have := HG.out; omega
      have hbd2 := bld_below hbd hbA
      have hb2 := hb.trans (hbA.mono hgr)
      obtain ⟨X, hX⟩ : ∃ X, wr.heap.size = X := ⟨_, rfl⟩
      rw [hX] at X1 ⊢
      have XH : wa.heap[X]? = some (.cells #[.int .i64 x.frm, .int .i64 x.til] 33 (0, 0)) := X1
      have hXl : X < wa.heap.size := X1.lt
      clear X1
      clear hbd hbA c0 c1 hX
      have H1 := hidden (int_any x.frm wa xi1 xi2)
      refine H1.out.mono ?_
      rintro e wb ⟨rfl, hbB⟩
      have hga := hb2.size
      have hbd3 := bld_below hbd2 hbB
      have hb3 := hb2.trans (hbB.mono (by have := HG.out; omega))
      have l1 := uintL_ten (zz_lt xi1 xi2)
      have l2 := uintL_ten (zz_lt xi3 xi4)
      have lm := uintL_ten (v := m) (by omega)
      have XH2 := (hbB.block X hXl).trans XH
      clear hbd2 hbB hb2 H1 hga hXl XH
      go_wp2_with fail
      refine (bldStr_any g g _ ⟨(intL x.frm).toArray⟩ wb hbd3 (by rw [Lib.byteCells_length, List.length_append]; simp only [ByteArray.size, List.size_toArray, intL]; simp only [List.length_take] at hel; omega) (by have := hb3.size; have := HG.out; omega)).mono ?_
      rintro e wc ⟨rfl, hI5, hb5, ho5⟩
      have hI6 : Lib.IsBuilder 178 5 g g (Lib.byteCells (uintL m ++ encS (R.take k) ++ intL x.frm)) wc := .inr (by rw [Lib.byteCells_append (uintL m ++ encS (R.take k))]; exact hI5)
      have hb6 := hb3.trans hb5
      have XH3 := ho5 X _ _ _ XH2 (by decide) (by decide)
      have e2 : wc.cell? ⟨X, 1, none⟩ = some (.int .i64 x.til) := by rw [Lib.cell_of_heap XH3]; rfl
      clear hI5 hb5 ho5 XH2 XH3 hb3 hbd3
      have H2 := hidden (int_any x.til wc xi3 xi4)
      go_wp2_with fail
      refine H2.out.mono ?_
      rintro e wd ⟨rfl, hb7⟩
      have hs7 := hb6.size
      have hI7 := bld_below hI6 hb7
      have hb8 := hb6.trans (hb7.mono (by have := HG.out; omega))
      clear hI6 hb7 hb6 H2 hs7
      go_wp2_with fail
      refine (bldStr_any g g _ ⟨(intL x.til).toArray⟩ wd hI7 (by rw [Lib.byteCells_length, List.length_append, List.length_append]; simp only [ByteArray.size, List.size_toArray, intL]; simp only [List.length_take] at hel; omega) (by have := hb8.size; have := HG.out; omega)).mono ?_
      rintro e we ⟨rfl, hI8, hb9, _⟩
      have hI9 : Lib.IsBuilder 178 5 g g (Lib.byteCells (uintL m ++ encS (R.take (k + 1)))) we := .inr (by
        have e9 : uintL m ++ encS (R.take (k + 1)) = (uintL m ++ encS (R.take k) ++ intL x.frm) ++ intL x.til := by rw [hT.out]; simp
        rw [e9, Lib.byteCells_append (uintL m ++ encS (R.take k) ++ intL x.frm)]; exact hI8)
      have hb10 := hb8.trans hb9
      clear hI8 hb9 hI7 hb8
      go_wp2_with fail
      go_roundw
      case rel => exact ⟨k + 1, by omega, by go_num, hI9, hb10⟩
      case measure => simp [intOf]; omega
    · have k2 : ¬ (k : Int) < (m : Int) := by omega
      have hkm : k = m := by omega
      go_wp2_with fail
      have hne : uintL m ++ encS (R.take k) ≠ [] := fun h => uintL_ne m (List.append_eq_nil_iff.1 h).1
      refine (bldString_any g g _ wr hbd hne).mono ?_
      rintro e wz ⟨rfl, hbz⟩
      go_wp2_with fail
      go_ret
      have ht : R.take m = R := List.take_of_length_le (by have := HM.out; omega)
      refine ⟨R, HRes.out, ?_, B1.out.trans ((hb.trans hbz).mono (by have := B1.out.size; have := HG.out; omega))⟩
      show Ending.returned (.string ⟨(uintL m ++ encS (R.take m)).toArray⟩) = _
      rw [ht, encL, HM.out]
end Go.Proofs.YthncochjhbmceaaGreat
