/- Spans, and times taken away, as they lie. No condition. slices.IndexFunc and slices.ContainsFunc at spans, whatever predicate: what they return. Condition: the predicate has a contract, the row is within the reach. spans.Has: does the time lie in one of them? Condition: the row is within the reach. slices.IndexFunc and slices.ContainsFunc at times taken away, whatever predicate: what they return. Condition: the predicate has a contract, the row is within the reach. spans.Has, and what merge.Strip asks of a time: what they return. Condition: the lists are within the reach. merge.Strip: what it returns. Condition: the lists are within the reach. -/
import Derived.Test.YtbijjjhfekkfaaaGreatPkc787b734
import Derived.Test.YtbijjjhfekkfaaaGreatBase
import Derived.Lib.QuietBelow
import Derived.Test.YtbijjjhfekkfaaaGreatPk71c4278d
namespace Go.Proofs.YtbijjjhfekkfaaaGreat
set_option maxRecDepth 100000
open Go.RowKit

structure Spn where
  frm : Int
  til : Int
instance : Inhabited Spn := ⟨⟨0, 0⟩⟩
def Spn.cells (x : Spn) : List Value := [.int .i64 x.frm, .int .i64 x.til]
def spnCells (l : List Spn) : List Value := l.flatMap Spn.cells
def Spn.ok (x : Spn) : Prop := -9223372036854775808 ≤ x.frm ∧ x.frm < 9223372036854775808 ∧ -9223372036854775808 ≤ x.til ∧ x.til < 9223372036854775808
/-- times taken away from a series -/
structure Gon where
  lab : Sl Lbl
  s0 : Sl Spn
  s1 : Sl Spn
  s2 : Sl Spn
instance : Inhabited Gon := ⟨⟨Sl.nil, Sl.nil, Sl.nil, Sl.nil⟩⟩
def Gon.cells (x : Gon) : List Value := [x.lab.val, x.s0.val, x.s1.val, x.s2.val]
def gonCells (l : List Gon) : List Value := l.flatMap Gon.cells
structure Gon.At (w : World) (B : Nat) (x : Gon) : Prop where
  lab : x.lab.At w B 2 Lbl.cells
  s0 : x.s0.At w B 2 Spn.cells
  s1 : x.s1.At w B 2 Spn.cells
  s2 : x.s2.At w B 2 Spn.cells
theorem Gon.At.below {w w' : World} {B : Nat} {x : Gon} (h : x.At w B) (hb : Below B w w') : x.At w' B := ⟨h.lab.below hb, h.s0.below hb, h.s1.below hb, h.s2.below hb⟩
theorem Gon.At.more {w : World} {B B' : Nat} {x : Gon} (h : x.At w B) (hB : B ≤ B') : x.At w B' := ⟨h.lab.more hB, h.s0.more hB, h.s1.more hB, h.s2.more hB⟩
/-- the spans of one resolution -/
def Gon.sp (x : Gon) (r : Int) : Sl Spn := if r = 0 then x.s0 else if r = 1 then x.s1 else x.s2
/-- does the time lie in one of them? -/
def inSpn (s : Spn) (t : Int) : Bool := decide (s.frm ≤ t) && decide (t ≤ s.til)
def hasP (l : List Spn) (t : Int) : Bool := l.any fun s => inSpn s t
end Go.Proofs.YtbijjjhfekkfaaaGreat

namespace Go.Proofs.YtbijjjhfekkfaaaGreat.IdxSpn
set_option maxRecDepth 100000
open Go.RowKit

theorem hk (x : Spn) : x.cells.length = 2 := rfl

/-- what is asked of a predicate -/
def PredOk (f : FuncId) (cb : Array Value) (p : Spn → Bool) (l : List Spn) (ok : World → Prop) : Prop :=
  ∀ x ∈ l, ∀ W, ok W → Calls Tryz.prog f (#[.agg #[.int .i64 x.frm, .int .i64 x.til]] ++ cb) W fun e w2 => e = .returned (.bool (p x)) ∧ Below W.heap.size W w2
/-- where the first one is -/
def IdxRes (p : Spn → Bool) (l : List Spn) (r : Int) : Prop := (r = -1 ∧ ∀ x ∈ l, p x = false) ∨ ∃ (i : Nat) (x : Spn), r = i ∧ l[i]? = some x ∧ p x = true ∧ ∀ y ∈ l.take i, p y = false

set_option maxHeartbeats 1600000 in
theorem index_any (A : Option Addr) (n c : Nat) (l : List Spn) (f : FuncId) (cb : Array Value) (p : Spn → Bool) (w : World) (eg : ∀ args w, (callFunc f args).run Tryz.prog w = .ok (.enter f args) w) (hp : PredOk f cb p l (fun W => Below w.heap.size w W)) (hr : Row w w.heap.size 2 A n (l.flatMap Spn.cells)) (hl : l.length = n) (hn : n ≤ 4611686018427387904) :
    Calls Tryz.prog 228 #[.slice A n c, .func (.func f) #[] cb] w
      fun e w' => ∃ r : Int, e = .returned (.int .i64 r) ∧ IdxRes p l r ∧ Below w.heap.size w w' := by
  have hL := hidden hl
  have HR := hidden hr
  have HP := hidden hp
  clear hl hr hp
  go_enter Tryz.func228, Tryz.ntmps228
  go_wp2
  go_loopw [8] (fun i wr => ∃ k : Nat, k ≤ n ∧ i = .int .i64 k ∧ Hid (∀ y ∈ l.take k, p y = false) ∧ Below w.heap.size w wr) (fun i _ => n - (intOf i).toNat)
  case atStart => exact ⟨0, Nat.zero_le _, rfl, hidden (by simp), Below.refl _ _⟩
  case round =>
    obtain ⟨k, hk1, rfl, hall, hb⟩ := hrel
    by_cases hlt : k < n
    · obtain ⟨gs, o, x, rfl, hgs, hx, hcl⟩ := row_at hk (HR.out.below hb) hL.out k hlt
      have d0 : wr.cell? ⟨gs, o + k * 2, none⟩ = some (.int .i64 x.frm) := hcl 0 (by omega)
      have d1 : wr.cell? ⟨gs, o + k * 2 + 1, none⟩ = some (.int .i64 x.til) := hcl 1 (by omega)
      have hcon := HP.out x (List.mem_of_getElem? hx) wr hb
      have hT := hidden (take_snoc? hx)
      have HX := hidden hx
      have HCON := hidden hcon
      have hltz : (k : Int) < (n : Int) := by omega
      have hk0 : (0 : Int) ≤ (k : Int) := by omega
      clear hx hcl hcon
      go_wp2_with fail
      refine HCON.out.mono ?_
      rintro e w1 ⟨rfl, hb1⟩
      have hB1 := hb.trans (hb1.mono hb.size)
      clear HCON hb1 d0 d1
      obtain ⟨b, hv⟩ : ∃ b, p x = b := ⟨_, rfl⟩
      rw [hv]
      have HV := hidden hv
      clear hv
      cases b with
      | false =>
        go_wp2_with fail
        go_roundw
        case rel => exact ⟨k + 1, by omega, by go_num, hidden (by
          intro y hy
          rw [hT.out] at hy
          rcases List.mem_append.1 hy with h | h
          · exact hall.out y h
          · rw [List.mem_singleton.1 h]; exact HV.out), hB1⟩
        case measure => simp [intOf]; omega
      | true =>
        go_wp2_with fail
        go_ret
        exact ⟨_, rfl, .inr ⟨k, x, rfl, HX.out, HV.out, hall.out⟩, hB1⟩
    · obtain rfl : n = k := by omega
      have hall2 := hall.out
      rw [List.take_of_length_le (by rw [hL.out]; exact Nat.le_refl _)] at hall2
      have HA := hidden hall2
      clear hall2
      go_wp2
      go_ret
      exact ⟨-1, rfl, .inl ⟨rfl, HA.out⟩, hb⟩


set_option maxHeartbeats 1600000 in
theorem contains_any (A : Option Addr) (n c : Nat) (l : List Spn) (f : FuncId) (cb : Array Value) (p : Spn → Bool) (w : World) (eg : ∀ args w, (callFunc f args).run Tryz.prog w = .ok (.enter f args) w) (hp : PredOk f cb p l (fun W => Below w.heap.size w W)) (hr : Row w w.heap.size 2 A n (l.flatMap Spn.cells)) (hl : l.length = n) (hn : n ≤ 4611686018427387904) :
    Calls Tryz.prog 230 #[.slice A n c, .func (.func f) #[] cb] w
      fun e w' => e = .returned (.bool (l.any p)) ∧ Below w.heap.size w w' := by
  have S1 := hidden (index_any A n c l f cb p w eg hp hr hl hn)
  clear hp hr
  go_enter Tryz.func230, Tryz.ntmps230
  go_wp2_with fail
  refine S1.out.mono ?_
  rintro e w1 ⟨r, rfl, hres, hb⟩
  have HB := hidden hb
  have hd : l.any p = decide (0 ≤ r) := by
    rcases hres with ⟨rfl, h⟩ | ⟨i, x, rfl, hx, hpx, _⟩
    · rw [show decide ((0 : Int) ≤ -1) = false from rfl, List.any_eq_false]
      intro x hx
      rw [h x hx]; simp
    · rw [decide_eq_true (by omega), List.any_eq_true]
      exact ⟨x, List.mem_of_getElem? hx, hpx⟩
  have HD := hidden hd
  clear hb hres hd S1
  go_wp2_with fail
  go_ret
  exact ⟨ret_bool HD.out.symm, HB.out⟩
end Go.Proofs.YtbijjjhfekkfaaaGreat.IdxSpn

namespace Go.Proofs.YtbijjjhfekkfaaaGreat
set_option maxRecDepth 100000
open Go.RowKit Go.Shelf

theorem has1_any (s : Spn) (t : Int) (g : Nat) (W : World) (ht : W.cell? ⟨g, 0, none⟩ = some (.int .i64 t)) :
    Calls Tryz.prog 231 #[.agg #[.int .i64 s.frm, .int .i64 s.til], .pointer (some ⟨g, 0, none⟩)] W fun e W' => e = .returned (.bool (inSpn s t)) ∧ Below W.heap.size W W' := by
  have lg := World.block_lt_of_cell? W _ ht
  simp only at lg
  go_enter Tryz.func231, Tryz.ntmps231
  go_upto_region 1 with (fail)
  have hY := Whole1.new W 83 #[.int .i64 s.frm, .int .i64 s.til]
  have hB : Below W.heap.size W (W.alloc (.cells #[.int .i64 s.frm, .int .i64 s.til] 83)) := (Below.refl _ _).alloc (Nat.le_refl _) _
  generalize W.alloc (.cells #[.int .i64 s.frm, .int .i64 s.til] 83) = W2 at hY hB ⊢
  have t0 := (hB.cell (p := ⟨g, 0, none⟩) lg).trans ht
  have y0 := hY.cell 0
  have y1 := hY.cell 1
  have HB := hidden hB
  obtain ⟨X, hX⟩ : ∃ X, W.heap.size = X := ⟨_, rfl⟩
  rw [hX] at y0 y1 ⊢
  clear hY hX hB ht lg
  by_cases h1 : s.frm ≤ t
  · by_cases h2 : t ≤ s.til
    · have h3 := hidden (by simp [inSpn, h1, h2] : inSpn s t = true)
      go_wp2_with fail
      go_ret
      exact ⟨ret_bool h3.out.symm, HB.out⟩
    · have h3 := hidden (by simp [inSpn, h2] : inSpn s t = false)
      go_wp2_with fail
      go_ret
      exact ⟨ret_bool h3.out.symm, HB.out⟩
  · have h3 := hidden (by simp [inSpn, h1] : inSpn s t = false)
    go_wp2_with fail
    go_ret
    exact ⟨ret_bool h3.out.symm, HB.out⟩
set_option maxHeartbeats 800000 in
theorem hasSpn_any (A : Option Addr) (n c : Nat) (l : List Spn) (t : Int) (w : World) (hr : Row w w.heap.size 2 A n (spnCells l)) (hl : l.length = n) (hn : n ≤ 4611686018427387904) :
    Calls Tryz.prog 177 #[.slice A n c, .int .i64 t] w fun e w' => e = .returned (.bool (hasP l t)) ∧ Below w.heap.size w w' := by
  have e1 : ∀ args w, (callFunc 231 args).run Tryz.prog w = .ok (.enter 231 args) w := enters_of Tryz.func231 (by kernel_rfl) rfl
  have hB : Below w.heap.size w (w.alloc (.cells #[.int .i64 t] 2)) := (Below.refl _ _).alloc (Nat.le_refl _) _
  have h0 := Whole1.new w 2 #[.int .i64 t]
  have S1 := hidden (IdxSpn.contains_any A n c l 231 #[.pointer (some ⟨w.heap.size, 0, none⟩)] (fun s => inSpn s t) (w.alloc (.cells #[.int .i64 t] 2)) e1
    (fun s _ W hW => has1_any s t w.heap.size W ((h0.below hW h0.lt).cell 0)) ((hr.below hB).more hB.size) hl hn)
  have HB := hidden hB
  clear hr e1 hB h0
  go_enter Tryz.func177, Tryz.ntmps177
  go_wp2_with fail
  refine S1.out.mono ?_
  rintro e w' ⟨rfl, hb⟩
  have HB2 := hidden (HB.out.trans (hb.mono HB.out.size))
  clear hb S1
  go_wp2_with fail
  go_ret
  exact ⟨rfl, HB2.out⟩

end Go.Proofs.YtbijjjhfekkfaaaGreat

namespace Go.Proofs.YtbijjjhfekkfaaaGreat.IdxGon
set_option maxRecDepth 100000
open Go.RowKit

theorem hk (x : Gon) : x.cells.length = 4 := rfl

/-- what is asked of a predicate -/
def PredOk (f : FuncId) (cb : Array Value) (p : Gon → Bool) (l : List Gon) (ok : World → Prop) : Prop :=
  ∀ x ∈ l, ∀ W, ok W → Calls Tryz.prog f (#[.agg #[.slice x.lab.A x.lab.n x.lab.c, .slice x.s0.A x.s0.n x.s0.c, .slice x.s1.A x.s1.n x.s1.c, .slice x.s2.A x.s2.n x.s2.c]] ++ cb) W fun e w2 => e = .returned (.bool (p x)) ∧ Below W.heap.size W w2
/-- where the first one is -/
def IdxRes (p : Gon → Bool) (l : List Gon) (r : Int) : Prop := (r = -1 ∧ ∀ x ∈ l, p x = false) ∨ ∃ (i : Nat) (x : Gon), r = i ∧ l[i]? = some x ∧ p x = true ∧ ∀ y ∈ l.take i, p y = false

set_option maxHeartbeats 1600000 in
theorem index_any (A : Option Addr) (n c : Nat) (l : List Gon) (f : FuncId) (cb : Array Value) (p : Gon → Bool) (w : World) (eg : ∀ args w, (callFunc f args).run Tryz.prog w = .ok (.enter f args) w) (hp : PredOk f cb p l (fun W => Below w.heap.size w W)) (hr : Row w w.heap.size 4 A n (l.flatMap Gon.cells)) (hl : l.length = n) (hn : n ≤ 4611686018427387904) :
    Calls Tryz.prog 253 #[.slice A n c, .func (.func f) #[] cb] w
      fun e w' => ∃ r : Int, e = .returned (.int .i64 r) ∧ IdxRes p l r ∧ Below w.heap.size w w' := by
  have hL := hidden hl
  have HR := hidden hr
  have HP := hidden hp
  clear hl hr hp
  go_enter Tryz.func253, Tryz.ntmps253
  go_wp2
  go_loopw [8] (fun i wr => ∃ k : Nat, k ≤ n ∧ i = .int .i64 k ∧ Hid (∀ y ∈ l.take k, p y = false) ∧ Below w.heap.size w wr) (fun i _ => n - (intOf i).toNat)
  case atStart => exact ⟨0, Nat.zero_le _, rfl, hidden (by simp), Below.refl _ _⟩
  case round =>
    obtain ⟨k, hk1, rfl, hall, hb⟩ := hrel
    by_cases hlt : k < n
    · obtain ⟨gs, o, x, rfl, hgs, hx, hcl⟩ := row_at hk (HR.out.below hb) hL.out k hlt
      have d0 : wr.cell? ⟨gs, o + k * 4, none⟩ = some (.slice x.lab.A x.lab.n x.lab.c) := hcl 0 (by omega)
      have d1 : wr.cell? ⟨gs, o + k * 4 + 1, none⟩ = some (.slice x.s0.A x.s0.n x.s0.c) := hcl 1 (by omega)
      have d2 : wr.cell? ⟨gs, o + k * 4 + 2, none⟩ = some (.slice x.s1.A x.s1.n x.s1.c) := hcl 2 (by omega)
      have d3 : wr.cell? ⟨gs, o + k * 4 + 3, none⟩ = some (.slice x.s2.A x.s2.n x.s2.c) := hcl 3 (by omega)
      have hcon := HP.out x (List.mem_of_getElem? hx) wr hb
      have hT := hidden (take_snoc? hx)
      have HX := hidden hx
      have HCON := hidden hcon
      have hltz : (k : Int) < (n : Int) := by omega
      have hk0 : (0 : Int) ≤ (k : Int) := by omega
      clear hx hcl hcon
      go_wp2_with fail
      refine HCON.out.mono ?_
      rintro e w1 ⟨rfl, hb1⟩
      have hB1 := hb.trans (hb1.mono hb.size)
      clear HCON hb1 d0 d1 d2 d3
      obtain ⟨b, hv⟩ : ∃ b, p x = b := ⟨_, rfl⟩
      rw [hv]
      have HV := hidden hv
      clear hv
      cases b with
      | false =>
        go_wp2_with fail
        go_roundw
        case rel => exact ⟨k + 1, by omega, by go_num, hidden (by
          intro y hy
          rw [hT.out] at hy
          rcases List.mem_append.1 hy with h | h
          · exact hall.out y h
          · rw [List.mem_singleton.1 h]; exact HV.out), hB1⟩
        case measure => simp [intOf]; omega
      | true =>
        go_wp2_with fail
        go_ret
        exact ⟨_, rfl, .inr ⟨k, x, rfl, HX.out, HV.out, hall.out⟩, hB1⟩
    · obtain rfl : n = k := by omega
      have hall2 := hall.out
      rw [List.take_of_length_le (by rw [hL.out]; exact Nat.le_refl _)] at hall2
      have HA := hidden hall2
      clear hall2
      go_wp2
      go_ret
      exact ⟨-1, rfl, .inl ⟨rfl, HA.out⟩, hb⟩


set_option maxHeartbeats 1600000 in
theorem contains_any (A : Option Addr) (n c : Nat) (l : List Gon) (f : FuncId) (cb : Array Value) (p : Gon → Bool) (w : World) (eg : ∀ args w, (callFunc f args).run Tryz.prog w = .ok (.enter f args) w) (hp : PredOk f cb p l (fun W => Below w.heap.size w W)) (hr : Row w w.heap.size 4 A n (l.flatMap Gon.cells)) (hl : l.length = n) (hn : n ≤ 4611686018427387904) :
    Calls Tryz.prog 204 #[.slice A n c, .func (.func f) #[] cb] w
      fun e w' => e = .returned (.bool (l.any p)) ∧ Below w.heap.size w w' := by
  have S1 := hidden (index_any A n c l f cb p w eg hp hr hl hn)
  clear hp hr
  go_enter Tryz.func204, Tryz.ntmps204
  go_wp2_with fail
  refine S1.out.mono ?_
  rintro e w1 ⟨r, rfl, hres, hb⟩
  have HB := hidden hb
  have hd : l.any p = decide (0 ≤ r) := by
    rcases hres with ⟨rfl, h⟩ | ⟨i, x, rfl, hx, hpx, _⟩
    · rw [show decide ((0 : Int) ≤ -1) = false from rfl, List.any_eq_false]
      intro x hx
      rw [h x hx]; simp
    · rw [decide_eq_true (by omega), List.any_eq_true]
      exact ⟨x, List.mem_of_getElem? hx, hpx⟩
  have HD := hidden hd
  clear hb hres hd S1
  go_wp2_with fail
  go_ret
  exact ⟨ret_bool HD.out.symm, HB.out⟩
end Go.Proofs.YtbijjjhfekkfaaaGreat.IdxGon

namespace Go.Proofs.YtbijjjhfekkfaaaGreat
set_option maxRecDepth 100000
open Go.RowKit Go.Shelf

/-- was the time taken away? -/
def tkOne (res : Int) (lab : List Lbl) (t : Int) (g : Gon) : Bool := decide (cmpLs g.lab.l lab = 0) && hasP (g.sp res).l t
def tk (gones : List Gon) (res : Int) (lab : List Lbl) (t : Int) : Bool := gones.any (tkOne res lab t)

set_option maxHeartbeats 3200000 in
theorem gonep_any (x : Gon) (lab : Sl Lbl) (res t : Int) (gs gr gt : Nat) (W : World) (b : Nat) (hx : x.At W b) (hlab : lab.At W b 2 Lbl.cells) (hb : b ≤ W.heap.size) (hs : W.cell? ⟨gs, 0, none⟩ = some (.slice lab.A lab.n lab.c)) (hr : W.cell? ⟨gr, 0, none⟩ = some (.int .i64 res)) (ht : W.cell? ⟨gt, 0, none⟩ = some (.int .i64 t)) (h0 : 0 ≤ res) (h3 : res < 3)
    (hxn : x.lab.n ≤ 4611686018427387904) (hln : lab.n ≤ 4611686018427387904) (hsn : x.s0.n ≤ 4611686018427387904 ∧ x.s1.n ≤ 4611686018427387904 ∧ x.s2.n ≤ 4611686018427387904) :
    Calls Tryz.prog 205 #[.agg #[.slice x.lab.A x.lab.n x.lab.c, .slice x.s0.A x.s0.n x.s0.c, .slice x.s1.A x.s1.n x.s1.c, .slice x.s2.A x.s2.n x.s2.c], .pointer (some ⟨gs, 0, none⟩), .pointer (some ⟨gr, 0, none⟩), .pointer (some ⟨gt, 0, none⟩)] W
      fun e W' => e = .returned (.bool (tkOne res lab.l t x)) ∧ Below W.heap.size W W' := by
  have l1 := World.block_lt_of_cell? W _ hs
  have l2 := World.block_lt_of_cell? W _ hr
  have l3 := World.block_lt_of_cell? W _ ht
  simp only at l1 l2 l3
  go_enter Tryz.func205, Tryz.ntmps205
  go_upto_region 1 with (fail)
  have hY := Whole1.new W 359 #[.slice x.lab.A x.lab.n x.lab.c, .slice x.s0.A x.s0.n x.s0.c, .slice x.s1.A x.s1.n x.s1.c, .slice x.s2.A x.s2.n x.s2.c]
  have hB : Below W.heap.size W (W.alloc (.cells #[.slice x.lab.A x.lab.n x.lab.c, .slice x.s0.A x.s0.n x.s0.c, .slice x.s1.A x.s1.n x.s1.c, .slice x.s2.A x.s2.n x.s2.c] 359)) := (Below.refl _ _).alloc (Nat.le_refl _) _
  generalize W.alloc (.cells #[.slice x.lab.A x.lab.n x.lab.c, .slice x.s0.A x.s0.n x.s0.c, .slice x.s1.A x.s1.n x.s1.c, .slice x.s2.A x.s2.n x.s2.c] 359) = W2 at hY hB ⊢
  have s0 := (hB.cell (p := ⟨gs, 0, none⟩) l1).trans hs
  have r0 := (hB.cell (p := ⟨gr, 0, none⟩) l2).trans hr
  have t0 := (hB.cell (p := ⟨gt, 0, none⟩) l3).trans ht
  have y0 := hY.cell 0
  have y1 := hY.cell 1
  have y2 := hY.cell 2
  have y3 := hY.cell 3
  have HB := hidden hB
  have hx2 := (hx.below (hB.mono hb)).more (by have := hB.size; omega : b ≤ W2.heap.size)
  have hl2 := (hlab.below (hB.mono hb)).more (by have := hB.size; omega : b ≤ W2.heap.size)
  have HX2 := hidden hx2
  have HL2 := hidden hl2
  have S1 : Hid (∀ D os, Calls Tryz.prog 68 #[.slice x.lab.A x.lab.n x.lab.c, .slice lab.A lab.n lab.c] (Sort.grow (redrawn W2 D) os) fun e w'' => e = .returned (.int .i64 (cmpLs x.lab.l lab.l)) ∧ ∃ p : Regrown, w'' = Sort.grow (redrawn W2 p.d) p.os) := hidden fun D os =>
    Calls.regrown_of ((lcompare_any _ _ _ _ _ _ x.lab.l lab.l _ W2.heap.size W2.heap.size (HX2.out.lab.2.2.below (below_regrown W2 D os)) (HL2.out.2.2.below (below_regrown W2 D os)) (below_regrown W2 D os).size (below_regrown W2 D os).size HX2.out.lab.2.1 HL2.out.2.1 hxn hln).mono fun e w' ⟨he, hG⟩ => ⟨he, hG.below⟩)
  have S2 : Hid (∀ D os, Calls Tryz.prog 177 #[.slice (x.sp res).A (x.sp res).n (x.sp res).c, .int .i64 t] (Sort.grow (redrawn W2 D) os) fun e w'' => e = .returned (.bool (hasP (x.sp res).l t)) ∧ ∃ p : Regrown, w'' = Sort.grow (redrawn W2 p.d) p.os) := hidden fun D os => by
    have hsp : (x.sp res).At W2 W2.heap.size 2 Spn.cells ∧ (x.sp res).n ≤ 4611686018427387904 := by
      unfold Gon.sp
      split
      · exact ⟨HX2.out.s0, hsn.1⟩
      · split
        · exact ⟨HX2.out.s1, hsn.2.1⟩
        · exact ⟨HX2.out.s2, hsn.2.2⟩
    exact Calls.regrown_of ((hasSpn_any _ _ _ (x.sp res).l t _ ((hsp.1.2.2.below (below_regrown W2 D os)).more (below_regrown W2 D os).size) hsp.1.2.1 hsp.2).mono fun e w' ⟨he, hG⟩ => ⟨he, hG⟩)
  obtain ⟨X, hX⟩ : ∃ X, W.heap.size = X := ⟨_, rfl⟩
  rw [hX] at y0 y1 y2 y3 ⊢
  clear hY hX hB ht hs hr l1 l2 l3 hx2 hl2 hx hlab
  have k0 := cell_regrown s0
  have k1 := cell_regrown r0
  have k2 := cell_regrown t0
  have k3 := cell_regrown y0
  have k4 := cell_regrown y1
  have k5 := cell_regrown y2
  have k6 := cell_regrown y3
  clear s0 r0 t0 y0 y1 y2 y3
  by_cases hc : cmpLs x.lab.l lab.l = 0
  · have hf : Hid (tkOne res lab.l t x = hasP (x.sp res).l t) := hidden (by simp [tkOne, hc])
    rw [hc] at S1
    clear hc
    rcases (by omega : res = 0 ∨ res = 1 ∨ res = 2) with rfl | rfl | rfl
    all_goals
      have S2b := S2.out
      simp only [Gon.sp] at S2b
      have hf2 := hf.out
      simp only [Gon.sp] at hf2
      have hf := hidden hf2
      clear hf2
      have S2c := hidden S2b
      clear S2b S2
      refine wp_region_quiet_below (by kernel_rfl) (by kernel_rfl) ?_
      repeat (first | go_big_quiet_step (first | exact S1.out _ _ | exact S2c.out _ _) | quiet_step (first | exact S1.out _ _ | exact S2c.out _ _))
      refine wpQuiet_nil ?_
      intro _ hw'
      obtain ⟨pq, hw''⟩ := hw'
      subst hw''
      have HB9 := hidden (HB.out.trans ((below_regrown W2 pq.d pq.os).mono HB.out.size))
      generalize Sort.grow (redrawn W2 pq.d) pq.os = w9 at HB9 ⊢
      clear k0 k1 k2 k3 k4 k5 k6
      go_wp2_with fail
      go_ret
      exact ⟨ret_bool hf.out.symm, HB9.out⟩
  · have hf : Hid (tkOne res lab.l t x = false) := hidden (by simp [tkOne, hc])
    have hcb : (cmpLs x.lab.l lab.l == 0) = false := by simpa using hc
    clear hc
    refine wp_region_quiet_below (by kernel_rfl) (by kernel_rfl) ?_
    repeat (first | go_big_quiet_step (exact S1.out _ _) | quiet_step (exact S1.out _ _))
    refine wpQuiet_nil ?_
    intro _ hw'
    obtain ⟨pq, hw''⟩ := hw'
    subst hw''
    have HB9 := hidden (HB.out.trans ((below_regrown W2 pq.d pq.os).mono HB.out.size))
    generalize Sort.grow (redrawn W2 pq.d) pq.os = w9 at HB9 ⊢
    clear k0 k1 k2 k3 k4 k5 k6
    go_wp2_with fail
    go_ret
    exact ⟨ret_bool hf.out.symm, HB9.out⟩
end Go.Proofs.YtbijjjhfekkfaaaGreat

namespace Go.Proofs.YtbijjjhfekkfaaaGreat
set_option maxRecDepth 100000
open Go.RowKit Go.Shelf

/-- what lies there of the times taken away -/
structure GonsAt (w : World) (G : Option Addr) (gn : Nat) (gones : List Gon) : Prop where
  row : Row w w.heap.size 4 G gn (gonCells gones)
  len : gones.length = gn
  at_ : ∀ x ∈ gones, x.At w w.heap.size
  few : gn ≤ 4611686018427387904
  small : ∀ x ∈ gones, x.lab.n ≤ 4611686018427387904 ∧ x.s0.n ≤ 4611686018427387904 ∧ x.s1.n ≤ 4611686018427387904 ∧ x.s2.n ≤ 4611686018427387904
theorem GonsAt.on {w w' : World} {G : Option Addr} {gn : Nat} {gones : List Gon} (h : GonsAt w G gn gones) (hb : Below w.heap.size w w') : GonsAt w' G gn gones :=
  ⟨(h.row.below hb).more hb.size, h.len, fun x hx => ((h.at_ x hx).below hb).more hb.size, h.few, h.small⟩

set_option maxHeartbeats 1600000 in
theorem taken_any (s : Ser) (t res : Int) (G : Option Addr) (gn gc pg pr : Nat) (gones : List Gon) (W : World) (hG : GonsAt W G gn gones) (hlab : s.lab.At W W.heap.size 2 Lbl.cells) (hpg : W.cell? ⟨pg, 0, none⟩ = some (.slice G gn gc)) (hpr : W.cell? ⟨pr, 0, none⟩ = some (.int .i64 res)) (h0 : 0 ≤ res) (h3 : res < 3) (hln : s.lab.n ≤ 4611686018427387904) :
    Calls Tryz.prog 203 #[.agg #[.slice s.lab.A s.lab.n s.lab.c, .slice s.smp.A s.smp.n s.smp.c, .slice s.win.A s.win.n s.win.c], .int .i64 t, .pointer (some ⟨pg, 0, none⟩), .pointer (some ⟨pr, 0, none⟩)] W
      fun e W' => e = .returned (.bool (tk gones res s.lab.l t)) ∧ Below W.heap.size W W' := by
  have l1 := World.block_lt_of_cell? W _ hpg
  have l2 := World.block_lt_of_cell? W _ hpr
  simp only at l1 l2
  go_enter Tryz.func203, Tryz.ntmps203
  go_upto_region 1 with (fail)
  have hB : Below W.heap.size W ((W.alloc (.cells #[.slice s.lab.A s.lab.n s.lab.c, .slice s.smp.A s.smp.n s.smp.c, .slice s.win.A s.win.n s.win.c] 57)).alloc (.cells #[.int .i64 t] 2)) := ((Below.refl _ _).alloc (Nat.le_refl _) _).alloc (by simp) _
  have hS := (Whole1.new W 57 #[.slice s.lab.A s.lab.n s.lab.c, .slice s.smp.A s.smp.n s.smp.c, .slice s.win.A s.win.n s.win.c]).alloc (.cells #[.int .i64 t] 2)
  have hT := Whole1.new (W.alloc (.cells #[.slice s.lab.A s.lab.n s.lab.c, .slice s.smp.A s.smp.n s.smp.c, .slice s.win.A s.win.n s.win.c] 57)) 2 #[.int .i64 t]
  rw [World.size_alloc] at hT
  generalize (W.alloc (.cells #[.slice s.lab.A s.lab.n s.lab.c, .slice s.smp.A s.smp.n s.smp.c, .slice s.win.A s.win.n s.win.c] 57)).alloc (.cells #[.int .i64 t] 2) = W2 at hB hS hT ⊢
  have c1 := (hB.cell (p := ⟨pg, 0, none⟩) l1).trans hpg
  have c2 := (hB.cell (p := ⟨pr, 0, none⟩) l2).trans hpr
  have HB := hidden hB
  have e1 : ∀ args w, (callFunc 205 args).run Tryz.prog w = .ok (.enter 205 args) w := enters_of Tryz.func205 (by kernel_rfl) rfl
  have hG2 := hG.on hB
  have hl2 := (hlab.below hB).more hB.size
  have S1 := hidden (IdxGon.contains_any G gn gc gones 205 #[.pointer (some ⟨W.heap.size, 0, none⟩), .pointer (some ⟨pr, 0, none⟩), .pointer (some ⟨W.heap.size + 1, 0, none⟩)] (tkOne res s.lab.l t) W2 e1
    (fun x hx V hV => gonep_any x s.lab res t W.heap.size pr (W.heap.size + 1) V W2.heap.size ((hG2.at_ x hx).below hV) (hl2.below hV) hV.size ((hS.below hV hS.lt).cell 0) ((hV.cell (p := ⟨pr, 0, none⟩) (World.block_lt_of_cell? W2 _ c2)).trans c2) ((hT.below hV hT.lt).cell 0) h0 h3 (hG2.small x hx).1 hln (hG2.small x hx).2) hG2.row hG2.len hG2.few)
  clear e1 hG2 hl2 hS hT hB hpg hpr l1 l2 c2 hG hlab
  go_wp2_with fail
  refine S1.out.mono ?_
  rintro e w' ⟨rfl, hb⟩
  have HB2 := hidden (HB.out.trans (hb.mono HB.out.size))
  clear hb S1
  go_wp2_with fail
  go_ret
  exact ⟨rfl, HB2.out⟩

def stripS (gones : List Gon) (res : Int) (x : Ser) (y : Smp) : Bool := decide (res = 0) && !tk gones res x.lab.l y.t
def stripW (gones : List Gon) (res : Int) (x : Ser) (y : Win) : Bool := decide (res ≠ 0) && !tk gones res x.lab.l y.start

set_option maxHeartbeats 1600000 in
theorem stripS_any (s : Ser) (y : Smp) (res : Int) (G : Option Addr) (gn gc pg pr pt : Nat) (gones : List Gon) (W : World) (hG : GonsAt W G gn gones) (hlab : s.lab.At W W.heap.size 2 Lbl.cells) (hpg : W.cell? ⟨pg, 0, none⟩ = some (.slice G gn gc)) (hpr : W.cell? ⟨pr, 0, none⟩ = some (.int .i64 res)) (hpt : W.cell? ⟨pt, 0, none⟩ = some (.func (.func 203) #[] #[.pointer (some ⟨pg, 0, none⟩), .pointer (some ⟨pr, 0, none⟩)])) (h0 : 0 ≤ res) (h3 : res < 3) (hln : s.lab.n ≤ 4611686018427387904) :
    Calls Tryz.prog 206 #[.agg #[.slice s.lab.A s.lab.n s.lab.c, .slice s.smp.A s.smp.n s.smp.c, .slice s.win.A s.win.n s.win.c], .agg #[.int .i64 y.t, .int .u64 ((y.v : Nat) : Int)], .pointer (some ⟨pr, 0, none⟩), .pointer (some ⟨pt, 0, none⟩)] W
      fun e W' => e = .returned (.bool (stripS gones res s y)) ∧ Below W.heap.size W W' := by
  have l1 := World.block_lt_of_cell? W _ hpg
  have l2 := World.block_lt_of_cell? W _ hpr
  have l3 := World.block_lt_of_cell? W _ hpt
  simp only at l1 l2 l3
  go_enter Tryz.func206, Tryz.ntmps206
  go_upto_region 1 with (fail)
  have hB : Below W.heap.size W ((W.alloc (.cells #[.slice s.lab.A s.lab.n s.lab.c, .slice s.smp.A s.smp.n s.smp.c, .slice s.win.A s.win.n s.win.c] 57)).alloc (.cells #[.int .i64 y.t, .int .u64 (y.v : Nat)] 112)) := ((Below.refl _ _).alloc (Nat.le_refl _) _).alloc (by simp) _
  have hS := (Whole1.new W 57 #[.slice s.lab.A s.lab.n s.lab.c, .slice s.smp.A s.smp.n s.smp.c, .slice s.win.A s.win.n s.win.c]).alloc (.cells #[.int .i64 y.t, .int .u64 (y.v : Nat)] 112)
  have hT := Whole1.new (W.alloc (.cells #[.slice s.lab.A s.lab.n s.lab.c, .slice s.smp.A s.smp.n s.smp.c, .slice s.win.A s.win.n s.win.c] 57)) 112 #[.int .i64 y.t, .int .u64 (y.v : Nat)]
  rw [World.size_alloc] at hT
  generalize (W.alloc (.cells #[.slice s.lab.A s.lab.n s.lab.c, .slice s.smp.A s.smp.n s.smp.c, .slice s.win.A s.win.n s.win.c] 57)).alloc (.cells #[.int .i64 y.t, .int .u64 (y.v : Nat)] 112) = W2 at hB hS hT ⊢
  have c1 := (hB.cell (p := ⟨pg, 0, none⟩) l1).trans hpg
  have c2 := (hB.cell (p := ⟨pr, 0, none⟩) l2).trans hpr
  have c3 := (hB.cell (p := ⟨pt, 0, none⟩) l3).trans hpt
  have HB := hidden hB
  have S1 := hidden (taken_any s y.t res G gn gc pg pr gones W2 (hG.on hB) ((hlab.below hB).more hB.size) c1 c2 h0 h3 hln)
  have x0 := hS.cell 0
  have x1 := hS.cell 1
  have x2 := hS.cell 2
  have y0 := hT.cell 0
  obtain ⟨X, hX⟩ : ∃ X, W.heap.size = X := ⟨_, rfl⟩
  rw [hX] at x0 x1 x2 y0 ⊢
  clear hS hT hB hpg hpr hpt l1 l2 l3 hG hlab hX c1
  by_cases hr : res = 0
  · subst hr
    have hf := hidden (by simp [stripS] : stripS gones 0 s y = !tk gones 0 s.lab.l y.t)
    go_wp2_with fail
    refine S1.out.mono ?_
    rintro e w' ⟨rfl, hb⟩
    have HB2 := hidden (HB.out.trans (hb.mono HB.out.size))
    clear hb S1
    go_wp2_with fail
    go_ret
    exact ⟨ret_bool hf.out.symm, HB2.out⟩
  · have hf := hidden (by simp [stripS, hr] : stripS gones res s y = false)
    have hrb : (res == 0) = false := by simpa using hr
    clear hr S1
    go_wp2_with fail
    go_ret
    exact ⟨ret_bool hf.out.symm, HB.out⟩
set_option maxHeartbeats 1600000 in
theorem stripW_any (s : Ser) (y : Win) (res : Int) (G : Option Addr) (gn gc pg pr pt : Nat) (gones : List Gon) (W : World) (hG : GonsAt W G gn gones) (hlab : s.lab.At W W.heap.size 2 Lbl.cells) (hpg : W.cell? ⟨pg, 0, none⟩ = some (.slice G gn gc)) (hpr : W.cell? ⟨pr, 0, none⟩ = some (.int .i64 res)) (hpt : W.cell? ⟨pt, 0, none⟩ = some (.func (.func 203) #[] #[.pointer (some ⟨pg, 0, none⟩), .pointer (some ⟨pr, 0, none⟩)])) (h0 : 0 ≤ res) (h3 : res < 3) (hln : s.lab.n ≤ 4611686018427387904) :
    Calls Tryz.prog 207 #[.agg #[.slice s.lab.A s.lab.n s.lab.c, .slice s.smp.A s.smp.n s.smp.c, .slice s.win.A s.win.n s.win.c], .agg #[.int .i64 y.start, .int .i64 y.count, .int .u64 ((y.sum : Nat) : Int), .int .u64 ((y.min : Nat) : Int), .int .u64 ((y.max : Nat) : Int), .int .u64 ((y.last : Nat) : Int)], .pointer (some ⟨pr, 0, none⟩), .pointer (some ⟨pt, 0, none⟩)] W
      fun e W' => e = .returned (.bool (stripW gones res s y)) ∧ Below W.heap.size W W' := by
  have l1 := World.block_lt_of_cell? W _ hpg
  have l2 := World.block_lt_of_cell? W _ hpr
  have l3 := World.block_lt_of_cell? W _ hpt
  simp only at l1 l2 l3
  go_enter Tryz.func207, Tryz.ntmps207
  go_upto_region 1 with (fail)
  have hB : Below W.heap.size W ((W.alloc (.cells #[.slice s.lab.A s.lab.n s.lab.c, .slice s.smp.A s.smp.n s.smp.c, .slice s.win.A s.win.n s.win.c] 57)).alloc (.cells #[.int .i64 y.start, .int .i64 y.count, .int .u64 (y.sum : Nat), .int .u64 (y.min : Nat), .int .u64 (y.max : Nat), .int .u64 (y.last : Nat)] 159)) := ((Below.refl _ _).alloc (Nat.le_refl _) _).alloc (by simp) _
  have hS := (Whole1.new W 57 #[.slice s.lab.A s.lab.n s.lab.c, .slice s.smp.A s.smp.n s.smp.c, .slice s.win.A s.win.n s.win.c]).alloc (.cells #[.int .i64 y.start, .int .i64 y.count, .int .u64 (y.sum : Nat), .int .u64 (y.min : Nat), .int .u64 (y.max : Nat), .int .u64 (y.last : Nat)] 159)
  have hT := Whole1.new (W.alloc (.cells #[.slice s.lab.A s.lab.n s.lab.c, .slice s.smp.A s.smp.n s.smp.c, .slice s.win.A s.win.n s.win.c] 57)) 159 #[.int .i64 y.start, .int .i64 y.count, .int .u64 (y.sum : Nat), .int .u64 (y.min : Nat), .int .u64 (y.max : Nat), .int .u64 (y.last : Nat)]
  rw [World.size_alloc] at hT
  generalize (W.alloc (.cells #[.slice s.lab.A s.lab.n s.lab.c, .slice s.smp.A s.smp.n s.smp.c, .slice s.win.A s.win.n s.win.c] 57)).alloc (.cells #[.int .i64 y.start, .int .i64 y.count, .int .u64 (y.sum : Nat), .int .u64 (y.min : Nat), .int .u64 (y.max : Nat), .int .u64 (y.last : Nat)] 159) = W2 at hB hS hT ⊢
  have c1 := (hB.cell (p := ⟨pg, 0, none⟩) l1).trans hpg
  have c2 := (hB.cell (p := ⟨pr, 0, none⟩) l2).trans hpr
  have c3 := (hB.cell (p := ⟨pt, 0, none⟩) l3).trans hpt
  have HB := hidden hB
  have S1 := hidden (taken_any s y.start res G gn gc pg pr gones W2 (hG.on hB) ((hlab.below hB).more hB.size) c1 c2 h0 h3 hln)
  have x0 := hS.cell 0
  have x1 := hS.cell 1
  have x2 := hS.cell 2
  have y0 := hT.cell 0
  obtain ⟨X, hX⟩ : ∃ X, W.heap.size = X := ⟨_, rfl⟩
  rw [hX] at x0 x1 x2 y0 ⊢
  clear hS hT hB hpg hpr hpt l1 l2 l3 hG hlab hX c1
  by_cases hr : res = 0
  · subst hr
    have hf := hidden (by simp [stripW] : stripW gones 0 s y = false)
    clear S1
    go_wp2_with fail
    go_ret
    exact ⟨ret_bool hf.out.symm, HB.out⟩
  · have hf := hidden (by simp [stripW, hr] : stripW gones res s y = !tk gones res s.lab.l y.start)
    have hrb : (res == 0) = false := by simpa using hr
    have hrc : (res != 0) = true := by simpa using hr
    clear hr
    go_wp2_with fail
    refine S1.out.mono ?_
    rintro e w' ⟨rfl, hb⟩
    have HB2 := hidden (HB.out.trans (hb.mono HB.out.size))
    clear hb S1
    go_wp2_with fail
    go_ret
    exact ⟨ret_bool hf.out.symm, HB2.out⟩

/-- what of the series wasn't taken away -/
def stripAll (res : Int) (gones : List Gon) (l : List Ser) : List SK := if res < 0 ∨ 3 ≤ res then [] else keptAll (stripS gones res) (stripW gones res) l
set_option maxHeartbeats 1600000 in
theorem strip_any (res : Int) (A : Option Addr) (n c : Nat) (ss : List Ser) (G : Option Addr) (gn gc : Nat) (gones : List Gon) (w : World) (hr : Row w w.heap.size 3 A n (serCells ss)) (hl : ss.length = n) (hat : ∀ x ∈ ss, x.At w w.heap.size) (hs : ∀ x ∈ ss, x.Fit) (hn : n * 72 ≤ 140737488351232) (hG : GonsAt w G gn gones) :
    Calls Tryz.prog 133 #[.int .i64 res, .slice A n c, .slice G gn gc] w (KeptRes w (stripAll res gones ss)) := by
  have HR := hidden hr
  have HL := hidden hl
  have HAT := hidden hat
  have HS := hidden hs
  have HG := hidden hG
  clear hr hl hat hs hG
  have hsf := fun (a : Addr) (c : Array Value) (w : World) => run_store Tryz.prog w a (.func (.func 203) #[] c) .plain rfl
  by_cases hres : res < 0 ∨ 3 ≤ res
  · have hf := hidden (by simp [stripAll, hres] : stripAll res gones ss = [])
    rcases hres with h | h
    all_goals
      go_enter Tryz.func133, Tryz.ntmps133
      go_wp2_with fail
      go_ret
      rw [hf.out]
      exact ⟨_, [], rfl, MOut.nil _ _, rfl, ((Below.refl _ _).alloc (Nat.le_refl _) _).alloc (by simp) _, by simp⟩
  · have hf := hidden (by simp [stripAll, hres] : stripAll res gones ss = keptAll (stripS gones res) (stripW gones res) ss)
    have h0 : 0 ≤ res := by omega
    have h3 : res < 3 := by omega
    clear hres
    go_enter Tryz.func133, Tryz.ntmps133
    go_upto_region 4 with (fail)
    have hB : Below w.heap.size w (((w.alloc (.cells #[.int .i64 res] 3)).alloc (.cells #[.slice G gn gc] 39)).alloc (.cells #[.func (.func 203) #[] #[.pointer (some ⟨w.heap.size + 1, 0, none⟩), .pointer (some ⟨w.heap.size, 0, none⟩)]] 361)) := (((Below.refl _ _).alloc (Nat.le_refl _) _).alloc (by simp) _).alloc (by simp; omega) _
    have h1 : Whole1 (((w.alloc (.cells #[.int .i64 res] 3)).alloc (.cells #[.slice G gn gc] 39)).alloc (.cells #[.func (.func 203) #[] #[.pointer (some ⟨w.heap.size + 1, 0, none⟩), .pointer (some ⟨w.heap.size, 0, none⟩)]] 361)) w.heap.size 3 #[.int .i64 res] := ((Whole1.new w _ _).alloc _).alloc _
    have h2 : Whole1 (((w.alloc (.cells #[.int .i64 res] 3)).alloc (.cells #[.slice G gn gc] 39)).alloc (.cells #[.func (.func 203) #[] #[.pointer (some ⟨w.heap.size + 1, 0, none⟩), .pointer (some ⟨w.heap.size, 0, none⟩)]] 361)) (w.heap.size + 1) 39 #[.slice G gn gc] := by
      have := (Whole1.new (w.alloc (.cells #[.int .i64 res] 3)) 39 #[.slice G gn gc]).alloc (.cells #[.func (.func 203) #[] #[.pointer (some ⟨w.heap.size + 1, 0, none⟩), .pointer (some ⟨w.heap.size, 0, none⟩)]] 361)
      rwa [World.size_alloc] at this
    have h4 : Whole1 (((w.alloc (.cells #[.int .i64 res] 3)).alloc (.cells #[.slice G gn gc] 39)).alloc (.cells #[.func (.func 203) #[] #[.pointer (some ⟨w.heap.size + 1, 0, none⟩), .pointer (some ⟨w.heap.size, 0, none⟩)]] 361)) (w.heap.size + 1 + 1) 361 #[.func (.func 203) #[] #[.pointer (some ⟨w.heap.size + 1, 0, none⟩), .pointer (some ⟨w.heap.size, 0, none⟩)]] := by
      have := Whole1.new ((w.alloc (.cells #[.int .i64 res] 3)).alloc (.cells #[.slice G gn gc] 39)) 361 #[.func (.func 203) #[] #[.pointer (some ⟨w.heap.size + 1, 0, none⟩), .pointer (some ⟨w.heap.size, 0, none⟩)]]
      rwa [World.size_alloc, World.size_alloc] at this
    generalize (((w.alloc (.cells #[.int .i64 res] 3)).alloc (.cells #[.slice G gn gc] 39)).alloc (.cells #[.func (.func 203) #[] #[.pointer (some ⟨w.heap.size + 1, 0, none⟩), .pointer (some ⟨w.heap.size, 0, none⟩)]] 361)) = wX at hB h1 h2 h4 ⊢
    have hs := hB.size
    have HB := hidden hB
    have H1 := hidden h1
    have H2 := hidden h2
    have H4 := hidden h4
    have e2 : ∀ args w, (callFunc 206 args).run Tryz.prog w = .ok (.enter 206 args) w := enters_of Tryz.func206 (by kernel_rfl) rfl
    have e3 : ∀ args w, (callFunc 207 args).run Tryz.prog w = .ok (.enter 207 args) w := enters_of Tryz.func207 (by kernel_rfl) rfl
    have S1 := hidden (kept_any A n c ss 206 207 #[.pointer (some ⟨w.heap.size, 0, none⟩), .pointer (some ⟨w.heap.size + 1 + 1, 0, none⟩)] #[.pointer (some ⟨w.heap.size, 0, none⟩), .pointer (some ⟨w.heap.size + 1 + 1, 0, none⟩)] (stripS gones res) (stripW gones res) wX e2 e3 ((HR.out.below hB).more hs) HL.out (fun x hx => ((HAT.out x hx).below hB).more hs) HS.out hn
      (fun x hx y _ W hW => stripS_any x y res G gn gc (w.heap.size + 1) w.heap.size (w.heap.size + 1 + 1) gones W ((HG.out.on HB.out).on hW) ((((HAT.out x hx).below HB.out).more hs).lab.below hW |>.more hW.size) ((H2.out.below hW H2.out.lt).cell 0) ((H1.out.below hW H1.out.lt).cell 0) ((H4.out.below hW H4.out.lt).cell 0) h0 h3 (by have := (HS.out x hx).labn; simp only [reachBytes] at this; omega))
      (fun x hx y _ W hW => stripW_any x y res G gn gc (w.heap.size + 1) w.heap.size (w.heap.size + 1 + 1) gones W ((HG.out.on HB.out).on hW) ((((HAT.out x hx).below HB.out).more hs).lab.below hW |>.more hW.size) ((H2.out.below hW H2.out.lt).cell 0) ((H1.out.below hW H1.out.lt).cell 0) ((H4.out.below hW H4.out.lt).cell 0) h0 h3 (by have := (HS.out x hx).labn; simp only [reachBytes] at this; omega)))
    clear hB h1 h2 h4 e2 e3 hsf hs
    go_wp2_with fail
    refine S1.out.mono ?_
    rintro e w9 ⟨v, L, rfl, h1, h2, h3, h4⟩
    have HF := hidden (KeptRes.on (w := wX) ⟨v, L, rfl, h1, h2, h3, h4⟩ HB.out : KeptRes w (keptAll (stripS gones res) (stripW gones res) ss) (.returned v) w9)
    clear h1 h2 h3 h4 S1
    go_wp2_with fail
    go_ret
    rw [hf.out]
    exact HF.out
end Go.Proofs.YtbijjjhfekkfaaaGreat
