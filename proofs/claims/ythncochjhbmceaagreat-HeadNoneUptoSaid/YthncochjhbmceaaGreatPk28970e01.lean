/- The reference's Of: the one list of the spans. Condition: the row is within the reach. slices.IndexFunc and slices.ContainsFunc at spans, whatever predicate: what they return. Condition: the predicate has a contract, the row is within the reach. spans.Has: does the time lie in one of them? Condition: the row is within the reach. What is asked of spans: Covers, Clip, and the reference's Has, Covers, Clip. Condition: the row is within the reach. slices.Clone at samples: a copy of the call's own. Condition: the row is within the reach. -/
import Derived.Test.YthncochjhbmceaaGreatPk539432f3
import Derived.Lib.QuietBelow
import Derived.Test.YthncochjhbmceaaGreatPkb5fb2d9c
import Derived.Test.YthncochjhbmceaaGreatPk4a1fa525
import Derived.Test.YthncochjhbmceaaGreatPk56b5c2ce
import Derived.Test.YthncochjhbmceaaGreatPk8f29ada1
namespace Go.Proofs.YthncochjhbmceaaGreat
set_option maxRecDepth 100000
open Go.RowKit Go.Shelf

/-- do two spans, the first one begun no later, make one? -/
def joinB (a b : Spn) : Bool := decide (b.frm ≤ a.til) || decide (b.frm - 1 = a.til)
theorem joinB_not {a b : Spn} : joinB a b = false ↔ (a.til < b.frm ∧ a.til < b.frm - 1) := by
  unfold joinB
  rw [Bool.or_eq_false_iff, decide_eq_false_iff_not, decide_eq_false_iff_not]
  omega
theorem own_tail_g {w : World} {base n : Nat} {T : TypeId} {v : Value} {l : List Spn} {xs : List Value} (h : w.ownsRow base T 2 v n xs) (he : xs = l.flatMap Spn.cells) (hn : 0 < n) :
    ∃ g cap rest, v = .slice (some ⟨g, 0, none⟩) n cap ∧ base ≤ g ∧ Whole1 w g T (l.flatMap Spn.cells ++ rest).toArray ∧ n ≤ cap ∧ cap ≤ maxLen ∧ (l.flatMap Spn.cells ++ rest).length = cap * 2 := by
  subst he
  obtain ⟨g, cap, rest, a, b, c, d, e, _, f⟩ := own_whole_g spnK h hn
  exact ⟨g, cap, rest, a, b, c, d, e, f⟩
theorem fullS_snoc (l : List Spn) (x : Spn) : fullS (l ++ [x]) = if x.til < x.frm then fullS l else fullS l ++ [x] := by
  unfold fullS
  rw [List.filter_append]
  by_cases h : x.til < x.frm
  · rw [if_pos h]; simp [h]
  · rw [if_neg h]; simp [h]
abbrev frmLt (a b : Spn) : Bool := decide (a.frm < b.frm)
theorem swo_frmLt : Go.Sort.SWO frmLt := ⟨fun x => by simp [frmLt], fun x y z h1 h2 => by simp only [frmLt, decide_eq_true_eq] at *; omega, fun x y z h1 h2 => by simp only [frmLt, decide_eq_false_iff_not] at *; omega⟩

theorem own_ins {w : World} {base g cap j : Nat} {T : TypeId} {R : List Spn} {x : Spn} {rest : List Value} (hg : base ≤ g) (hw : Whole1 w g T ((PutG.putAt j x R).flatMap Spn.cells ++ rest).toArray) (hnc : R.length + 1 ≤ cap) (hc : cap ≤ maxLen) (hj : j ≤ R.length) (hlr : ((R ++ [x]).flatMap Spn.cells ++ rest).length = cap * 2) :
    w.ownsRow base T 2 (.slice (some ⟨g, 0, none⟩) (R.length + 1) cap) (PutG.putAt j x R).length ((PutG.putAt j x R).flatMap Spn.cells) := by
  have hl := PutG.putAt_len j x R hj
  rw [hl]
  refine own_of_whole_g spnK hg hw hnc hc hl ?_
  rw [List.length_append, fm_len spnK] at hlr ⊢
  rw [hl]
  simpa using hlr

end Go.Proofs.YthncochjhbmceaaGreat

namespace Go.Proofs.YthncochjhbmceaaGreat.IdxSpn
set_option maxRecDepth 100000
open Go.RowKit

theorem hk (x : Spn) : x.cells.length = 2 := rfl

/-- what is asked of a predicate -/
def PredOk (f : FuncId) (cb : Array Value) (p : Spn → Bool) (l : List Spn) (ok : World → Prop) : Prop :=
  ∀ x ∈ l, ∀ W, ok W → Calls Tryz.prog f (#[.agg #[.int .i64 x.frm, .int .i64 x.til]] ++ cb) W fun e w2 => e = .returned (.bool (p x)) ∧ Below W.heap.size W w2
/-- where the first one is -/
def IdxRes (p : Spn → Bool) (l : List Spn) (r : Int) : Prop := (r = -1 ∧ ∀ x ∈ l, p x = false) ∨ ∃ (i : Nat) (x : Spn), r = i ∧ l[i]? = some x ∧ p x = true ∧ ∀ y ∈ l.take i, p y = false

set_option maxHeartbeats 1600000 in
theorem index_any (A : Option Addr) (n c : Nat) (l : List Spn) (f : FuncId) (cb : Array Value) (p : Spn → Bool) (w : World) (eg : ∀ args w, (callFunc f args).run Tryz.prog w = .ok (.enter f args) w) (hp : PredOk f cb p l (fun W => Below w.heap.size w W)) (hr : Row w w.heap.size 2 A n (l.flatMap Spn.cells)) (hl : l.length = n) (hn : n ≤ 4611686018427387904) :
    Calls Tryz.prog 115 #[.slice A n c, .func (.func f) #[] cb] w
      fun e w' => ∃ r : Int, e = .returned (.int .i64 r) ∧ IdxRes p l r ∧ Below w.heap.size w w' := by
  have hL := hidden hl
  have HR := hidden hr
  have HP := hidden hp
  clear hl hr hp
  go_enter Tryz.func115, Tryz.ntmps115
  go_wp2
  go_loopw [8] (fun i wr => ∃ k : Nat, k ≤ n ∧ i = .int .i64 k ∧ Hid (∀ y ∈ l.take k, p y = false) ∧ Below w.heap.size w wr) (fun i _ => n - (intOf i).toNat)
  case atStart => exact ⟨0, Nat.zero_le _, rfl, hidden (by simp), Below.refl _ _⟩
  case round =>
    obtain ⟨k, hk1, rfl, hall, hb⟩ := hrel
    by_cases hlt : k < n
    · obtain ⟨gs, o, x, rfl, hgs, hx, hcl⟩ := row_at hk (HR.out.below hb) hL.out k hlt
      have d0 : wr.cell? ⟨gs, o + k * 2, none⟩ = some (.int .i64 x.frm) := hcl 0 (by omega)
      have d1 : wr.cell? ⟨gs, o + k * 2 + 1, none⟩ = some (.int .i64 x.til) := hcl 1 (by omega)
      have hcon := HP.out x (List.mem_of_getElem? hx) wr hb
      have hT := hidden (take_snoc? hx)
      have HX := hidden hx
      have HCON := hidden hcon
      have hltz : (k : Int) < (n : Int) := by omega
      have hk0 : (0 : Int) ≤ (k : Int) := by omega
      clear hx hcl hcon
      go_wp2_with fail
      refine HCON.out.mono ?_
      rintro e w1 ⟨rfl, hb1⟩
      have hB1 := hb.trans (hb1.mono hb.size)
      clear HCON hb1 d0 d1
      obtain ⟨b, hv⟩ : ∃ b, p x = b := ⟨_, rfl⟩
      rw [hv]
      have HV := hidden hv
      clear hv
      cases b with
      | false =>
        go_wp2_with fail
        go_roundw
        case rel => exact ⟨k + 1, by omega, by go_num, hidden (by
          intro y hy
          rw [hT.out] at hy
          rcases List.mem_append.1 hy with h | h
          · exact hall.out y h
          · rw [List.mem_singleton.1 h]; exact HV.out), hB1⟩
        case measure => simp [intOf]; omega
      | true =>
        go_wp2_with fail
        go_ret
        exact ⟨_, rfl, .inr ⟨k, x, rfl, HX.out, HV.out, hall.out⟩, hB1⟩
    · obtain rfl : n = k := by omega
      have hall2 := hall.out
      rw [List.take_of_length_le (by rw [hL.out]; exact Nat.le_refl _)] at hall2
      have HA := hidden hall2
      clear hall2
      go_wp2
      go_ret
      exact ⟨-1, rfl, .inl ⟨rfl, HA.out⟩, hb⟩


set_option maxHeartbeats 1600000 in
theorem contains_any (A : Option Addr) (n c : Nat) (l : List Spn) (f : FuncId) (cb : Array Value) (p : Spn → Bool) (w : World) (eg : ∀ args w, (callFunc f args).run Tryz.prog w = .ok (.enter f args) w) (hp : PredOk f cb p l (fun W => Below w.heap.size w W)) (hr : Row w w.heap.size 2 A n (l.flatMap Spn.cells)) (hl : l.length = n) (hn : n ≤ 4611686018427387904) :
    Calls Tryz.prog 129 #[.slice A n c, .func (.func f) #[] cb] w
      fun e w' => e = .returned (.bool (l.any p)) ∧ Below w.heap.size w w' := by
  have S1 := hidden (index_any A n c l f cb p w eg hp hr hl hn)
  clear hp hr
  go_enter Tryz.func129, Tryz.ntmps129
  go_wp2_with fail
  refine S1.out.mono ?_
  rintro e w1 ⟨r, rfl, hres, hb⟩
  have HB := hidden hb
  have hd : l.any p = decide (0 ≤ r) := by
    rcases hres with ⟨rfl, h⟩ | ⟨i, x, rfl, hx, hpx, _⟩
    · rw [show decide ((0 : Int) ≤ -1) = false from rfl, List.any_eq_false]
      intro x hx
      rw [h x hx]; simp
    · rw [decide_eq_true (by omega), List.any_eq_true]
      exact ⟨x, List.mem_of_getElem? hx, hpx⟩
  have HD := hidden hd
  clear hb hres hd S1
  go_wp2_with fail
  go_ret
  exact ⟨ret_bool HD.out.symm, HB.out⟩
end Go.Proofs.YthncochjhbmceaaGreat.IdxSpn

namespace Go.Proofs.YthncochjhbmceaaGreat
set_option maxRecDepth 100000
open Go.RowKit Go.Shelf

theorem has1_any (s : Spn) (t : Int) (g : Nat) (W : World) (ht : W.cell? ⟨g, 0, none⟩ = some (.int .i64 t)) :
    Calls Tryz.prog 130 #[.agg #[.int .i64 s.frm, .int .i64 s.til], .pointer (some ⟨g, 0, none⟩)] W fun e W' => e = .returned (.bool (inSpn s t)) ∧ Below W.heap.size W W' := by
  have lg := World.block_lt_of_cell? W _ ht
  simp only at lg
  go_enter Tryz.func130, Tryz.ntmps130
  go_upto_region 1 with (fail)
  have hY := Whole1.new W 33 #[.int .i64 s.frm, .int .i64 s.til]
  have hB : Below W.heap.size W (W.alloc (.cells #[.int .i64 s.frm, .int .i64 s.til] 33)) := (Below.refl _ _).alloc (Nat.le_refl _) _
  generalize W.alloc (.cells #[.int .i64 s.frm, .int .i64 s.til] 33) = W2 at hY hB ⊢
  have t0 := (hB.cell (p := ⟨g, 0, none⟩) lg).trans ht
  have y0 := hY.cell 0
  have y1 := hY.cell 1
  have HB := hidden hB
  obtain ⟨X, hX⟩ : ∃ X, W.heap.size = X := ⟨_, rfl⟩
  rw [hX] at y0 y1 ⊢
  clear hY hX hB ht lg
  by_cases h1 : s.frm ≤ t
  · by_cases h2 : t ≤ s.til
    · have h3 := hidden (by simp [inSpn, h1, h2] : inSpn s t = true)
      go_wp2_with fail
      go_ret
      exact ⟨ret_bool h3.out.symm, HB.out⟩
    · have h3 := hidden (by simp [inSpn, h2] : inSpn s t = false)
      go_wp2_with fail
      go_ret
      exact ⟨ret_bool h3.out.symm, HB.out⟩
  · have h3 := hidden (by simp [inSpn, h1] : inSpn s t = false)
    go_wp2_with fail
    go_ret
    exact ⟨ret_bool h3.out.symm, HB.out⟩
set_option maxHeartbeats 800000 in
theorem hasSpn_any (A : Option Addr) (n c : Nat) (l : List Spn) (t : Int) (w : World) (hr : Row w w.heap.size 2 A n (spnCells l)) (hl : l.length = n) (hn : n ≤ 4611686018427387904) :
    Calls Tryz.prog 84 #[.slice A n c, .int .i64 t] w fun e w' => e = .returned (.bool (hasP l t)) ∧ Below w.heap.size w w' := by
  have e1 : ∀ args w, (callFunc 130 args).run Tryz.prog w = .ok (.enter 130 args) w := enters_of Tryz.func130 (by kernel_rfl) rfl
  have hB : Below w.heap.size w (w.alloc (.cells #[.int .i64 t] 2)) := (Below.refl _ _).alloc (Nat.le_refl _) _
  have h0 := Whole1.new w 2 #[.int .i64 t]
  have S1 := hidden (IdxSpn.contains_any A n c l 130 #[.pointer (some ⟨w.heap.size, 0, none⟩)] (fun s => inSpn s t) (w.alloc (.cells #[.int .i64 t] 2)) e1
    (fun s _ W hW => has1_any s t w.heap.size W ((h0.below hW h0.lt).cell 0)) ((hr.below hB).more hB.size) hl hn)
  have HB := hidden hB
  clear hr e1 hB h0
  go_enter Tryz.func84, Tryz.ntmps84
  go_wp2_with fail
  refine S1.out.mono ?_
  rintro e w' ⟨rfl, hb⟩
  have HB2 := hidden (HB.out.trans (hb.mono HB.out.size))
  clear hb S1
  go_wp2_with fail
  go_ret
  exact ⟨rfl, HB2.out⟩

end Go.Proofs.YthncochjhbmceaaGreat

namespace Go.Proofs.YthncochjhbmceaaGreat
set_option maxRecDepth 100000
open Go.RowKit Go.Shelf

/-! the reference's Has -/
theorem hasP_take {l : List Spn} {k : Nat} {x : Spn} (h : l[k]? = some x) (t : Int) : hasP (l.take (k + 1)) t = (hasP (l.take k) t || inSpn x t) := by
  rw [take_snoc? h, hasP_app]
  simp [hasP]
theorem hasP_yes {l : List Spn} {k : Nat} {x : Spn} (h : l[k]? = some x) {t : Int} (ht : inSpn x t = true) : hasP l t = true := by
  rw [hasP_iff]
  exact ⟨x, List.mem_of_getElem? h, inSpn_iff.1 ht⟩
/-! Covers -/
def covS (a b : Int) (s : Spn) : Bool := decide (s.frm ≤ a) && decide (b ≤ s.til)
def covP (l : List Spn) (a b : Int) : Bool := l.any (covS a b)
/-- there is the one list -/
theorem exists_of (l : List Spn) : ∃ R, OfRes l R := by
  have hm : ∀ (m : List Spn), ∃ S : List Spn, S.Perm m ∧ S.Pairwise fun a b => a.frm ≤ b.frm := by
    intro m
    refine ⟨m.mergeSort (fun a b => decide (a.frm ≤ b.frm)), List.mergeSort_perm m _, ?_⟩
    have := List.pairwise_mergeSort (le := fun a b : Spn => decide (a.frm ≤ b.frm)) (fun a b c h1 h2 => by simp at *; omega) (fun a b => by simp; omega) m
    exact this.imp fun h => by simpa using h
  obtain ⟨S, h1, h2⟩ := hm (fullS l)
  exact ⟨_, ofRes_join h1 h2⟩
def coversB (R : List Spn) (a b : Int) : Bool := decide (b < a) || covP R a b
end Go.Proofs.YthncochjhbmceaaGreat

namespace Go.Proofs.YthncochjhbmceaaGreat.ClnSmp
set_option maxRecDepth 100000
open Go.RowKit

theorem info : (Tryz.prog.info? 68).map (fun i => (i.zero, i.size, i.bytes)) = some (some (.agg #[.int .i64 0, .int .u64 0]), 2, 16) := by kernel_rfl
theorem cells_one (l : List Smp) : ∀ u ∈ l.flatMap Smp.cells, u.oneCell' = true := by
  intro u hu
  simp only [Smp.cells, List.mem_flatMap, List.mem_cons, List.not_mem_nil, or_false] at hu
  obtain ⟨s, _, rfl | rfl⟩ := hu <;> rfl

set_option maxHeartbeats 1600000 in
theorem cloneO_any (A : Option Addr) (n c : Nat) (l : List Smp) (w : World) (hr : Row w w.heap.size 2 A n (l.flatMap Smp.cells)) (hl : l.length = n) (hn : n * 16 ≤ 140737488351232) :
    Calls Tryz.prog 41 #[.slice A n c] w fun e w' => ∃ s : Sl Smp, e = .returned s.val ∧ s.l = l ∧ s.n = n ∧ s.At w' w'.heap.size 2 Smp.cells ∧ (∀ j, j < w.heap.size → s.Off (some j)) ∧ Below w.heap.size w w' ∧ (0 < n → w'.ownsRow w.heap.size 68 2 s.val n (l.flatMap Smp.cells)) := by
  obtain ⟨i0, hi, hz0, hz1, hz2⟩ := info_parts info
  have hL := hidden hl
  clear hl
  cases A with
  | none =>
    have hn0 : n = 0 := by
      rcases Nat.eq_zero_or_pos n with h | h
      · exact h
      · obtain ⟨_, _, h', _⟩ := hr.at_ h
        cases h'
    subst hn0
    have h1 := fun w : World => Lib.run_eql_slice_nil (P := Tryz.prog) w 63 68 none 0 c 0 0 Tryz.underlying63
    go_enter Tryz.func41, Tryz.ntmps41
    go_wp2
    go_ret
    exact ⟨⟨none, 0, 0, l⟩, rfl, rfl, rfl, ⟨Nat.le_refl _, hL.out, hr⟩, fun j _ hn => by simp at hn, Below.refl _ _, fun h => absurd h (by omega)⟩
  | some a =>
    have h1 := fun w : World => Lib.run_eql_slice_nil (P := Tryz.prog) w 63 68 (some a) n c 0 0 Tryz.underlying63
    go_enter Tryz.func41, Tryz.ntmps41
    go_wp2_with (at_builtin; refine wpList_clone _ rfl _ _ 63 rfl 68 i0 _ 2 16 Tryz.underlying63 hi hz0 hz1 hz2 rfl (by decide) _ rfl w.heap.size _ _ _ _ rfl (hr.alloc (Nat.le_refl _) _) (cells_one l) (by unfold maxLen; omega) (by omega) ?_; intro v1 w1 hg1 hown1)
    go_ret
    have hb1 : Below w.heap.size w w1 := ((Below.refl _ _).alloc (Nat.le_refl _) _).grown hg1 (by simp) (fun j hj => by cases hj)
    rcases hown1 with ⟨rfl, rfl⟩ | hown1
    · have hl0 : l = [] := List.eq_nil_of_length_eq_zero hL.out
      subst hl0
      exact ⟨⟨_, 0, 0, []⟩, rfl, rfl, rfl, ⟨Nat.le_refl _, rfl, ⟨rfl, fun h => absurd h (by simp)⟩⟩, fun j _ hn => by simp at hn, hb1, fun h => absurd h (by omega)⟩
    · obtain ⟨A1, c1, rfl, hc1, hr1⟩ := own_shape hown1
      exact ⟨⟨A1, n, c1, l⟩, rfl, rfl, rfl, ⟨hc1, hL.out, hr1⟩, fun j hj => Sl.off_own hown1 (by simp; omega), hb1, fun _ => ⟨hown1.1, hown1.2.imp id fun ⟨g, cap, cur, h1, h2, h3⟩ => ⟨g, cap, cur, h1, by simp at h2; omega, h3⟩⟩⟩
theorem clone_any (A : Option Addr) (n c : Nat) (l : List Smp) (w : World) (hr : Row w w.heap.size 2 A n (l.flatMap Smp.cells)) (hl : l.length = n) (hn : n * 16 ≤ 140737488351232) :
    Calls Tryz.prog 41 #[.slice A n c] w fun e w' => ∃ s : Sl Smp, e = .returned s.val ∧ s.l = l ∧ s.n = n ∧ s.At w' w'.heap.size 2 Smp.cells ∧ (∀ j, j < w.heap.size → s.Off (some j)) ∧ Below w.heap.size w w' := by
  refine (cloneO_any A n c l w hr hl hn).mono ?_
  rintro e w' ⟨s, h1, h2, h3, h4, h5, h6, _⟩
  exact ⟨s, h1, h2, h3, h4, h5, h6⟩
end Go.Proofs.YthncochjhbmceaaGreat.ClnSmp
