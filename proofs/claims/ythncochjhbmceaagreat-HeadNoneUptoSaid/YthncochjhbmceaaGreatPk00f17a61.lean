/- Comparing labels, plainly. No condition. strings.Compare, labels.Compare: what they return. Condition: the lists are not too long. almanacref04.Compare: the order of two lists of labels. Condition: the lists are not too long. Sets of labels, plainly: what is a name, a value, which error a list has, its sorted list. No program is walked here. Labels as they lie. No condition. The lists of an index (by name and value) as they lie. No program is walked here. -/
import Derived.Test.YthncochjhbmceaaGreatPk8f29ada1
import Derived.Lib.Bytealg
import Derived.Sort.Statements
import Derived.Test.YthncochjhbmceaaGreatPkb5fb2d9c
import Derived.Shelf.Small.Strs
import Derived.Deep.RegionHeld3
import Derived.Test.YthncochjhbmceaaGreatPke4234c21
namespace Go.Proofs.YthncochjhbmceaaGreat
set_option maxRecDepth 100000
open Go.RowKit Go.Sort

def cmpB (a b : ByteArray) : Int := Lib.compareBytes a.data.toList b.data.toList
theorem cmpBytes_cases : ∀ (a b : List UInt8), (Op.bytesLess a b = true ∧ Op.bytesLess b a = false ∧ a ≠ b ∧ Lib.compareBytes a b = -1) ∨ (a = b ∧ Op.bytesLess a b = false ∧ Lib.compareBytes a b = 0) ∨ (Op.bytesLess b a = true ∧ Op.bytesLess a b = false ∧ a ≠ b ∧ Lib.compareBytes a b = 1)
  | [], [] => .inr (.inl ⟨rfl, rfl, rfl⟩)
  | [], _ :: _ => .inl ⟨rfl, rfl, by simp, rfl⟩
  | _ :: _, [] => .inr (.inr ⟨rfl, rfl, by simp, rfl⟩)
  | x :: a, y :: b => by
    rcases Nat.lt_trichotomy x.toNat y.toNat with h | h | h
    · have h1 : x < y := UInt8.lt_iff_toNat_lt.2 h
      have h2 : ¬ y < x := fun h3 => by have := UInt8.lt_iff_toNat_lt.1 h3; omega
      have h3 : ¬ y = x := fun e => by rw [e] at h; omega
      refine .inl ⟨by simp [Op.bytesLess, h1], by simp [Op.bytesLess, h2, h3], fun e => h3 (by injection e with e _; exact e.symm), by simp [Lib.compareBytes, h1]⟩
    · have h1 : x = y := UInt8.toNat_inj.1 h
      subst h1
      have h2 : ¬ x < x := UInt8.lt_irrefl x
      rcases cmpBytes_cases a b with ⟨c1, c2, c3, c4⟩ | ⟨c1, c2, c3⟩ | ⟨c1, c2, c3, c4⟩
      · exact .inl ⟨by simp [Op.bytesLess, c1], by simp [Op.bytesLess, c2], by simpa using c3, by simp [Lib.compareBytes, c4]⟩
      · exact .inr (.inl ⟨by rw [c1], by simp [Op.bytesLess, c2], by simp [Lib.compareBytes, c3]⟩)
      · exact .inr (.inr ⟨by simp [Op.bytesLess, c1], by simp [Op.bytesLess, c2], by simpa using c3, by simp [Lib.compareBytes, c4]⟩)
    · have h1 : y < x := UInt8.lt_iff_toNat_lt.2 h
      have h2 : ¬ x < y := fun h3 => by have := UInt8.lt_iff_toNat_lt.1 h3; omega
      have h3 : ¬ x = y := fun e => by rw [e] at h; omega
      exact .inr (.inr ⟨by simp [Op.bytesLess, h1], by simp [Op.bytesLess, h2, h3], fun e => h3 (by injection e), by simp [Lib.compareBytes, h1, h2]⟩)
theorem bytes_eq {a b : ByteArray} (h : a.data.toList = b.data.toList) : a = b := by
  cases a; cases b
  congr
  exact Array.toList_inj.1 h
theorem bl_trans : ∀ (a b c : List UInt8), Op.bytesLess a b = true → Op.bytesLess b c = true → Op.bytesLess a c = true
  | _, _, [], _, h => by simp [Op.bytesLess] at h
  | _, [], _ :: _, h, _ => by simp [Op.bytesLess] at h
  | [], _ :: _, _ :: _, _, _ => rfl
  | x :: a, y :: b, z :: c, h1, h2 => by
    simp only [Op.bytesLess, Bool.or_eq_true, decide_eq_true_eq, Bool.and_eq_true, beq_iff_eq] at h1 h2 ⊢
    rcases h1 with h1 | ⟨rfl, h1⟩
    · rcases h2 with h2 | ⟨rfl, h2⟩
      · exact .inl (UInt8.lt_trans h1 h2)
      · exact .inl h1
    · rcases h2 with h2 | ⟨rfl, h2⟩
      · exact .inl h2
      · exact .inr ⟨rfl, bl_trans a b c h1 h2⟩

/-- one label against another -/
def cmpLb (x y : Lbl) : Int := if cmpB x.name y.name ≠ 0 then cmpB x.name y.name else cmpB x.value y.value
/-- a list of labels against another -/
def cmpLs : List Lbl → List Lbl → Int
  | [], [] => 0
  | [], _ :: _ => -1
  | _ :: _, [] => 1
  | x :: r, y :: s => if cmpLb x y ≠ 0 then cmpLb x y else cmpLs r s

/-- Three-way comparisons that are orders. -/
structure Tri {α : Type} (f : α → α → Int) : Prop where
  range : ∀ x y, f x y = -1 ∨ f x y = 0 ∨ f x y = 1
  turn : ∀ x y, f y x = - f x y
  zero : ∀ x y, f x y = 0 ↔ x = y
  trans : ∀ x y z, f x y = -1 → f y z = -1 → f x z = -1
theorem Tri.swo {α : Type} {f : α → α → Int} (h : Tri f) : SWO fun x y => decide (f x y < 0) where
  irrefl x := by simp [(h.zero x x).2 rfl]
  trans x y z h1 h2 := by
    simp only [decide_eq_true_eq] at *
    have a := h.range x y
    have b := h.range y z
    have := h.trans x y z (by omega) (by omega)
    omega
  ntrans x y z h1 h2 := by
    simp only [decide_eq_false_iff_not] at *
    intro h3
    have a := h.range x y
    have b := h.range y z
    have c := h.range x z
    have t1 := h.turn x y
    have t2 := h.turn y z
    have t3 := h.turn x z
    rcases a with a | a | a
    · omega
    · have e := (h.zero x y).1 a
      subst e
      omega
    · rcases b with b | b | b
      · omega
      · have e := (h.zero y z).1 b
        subst e
        omega
      · have := h.trans z y x (by omega) (by omega)
        omega
theorem tri_bytes : Tri Lib.compareBytes where
  range x y := by rcases cmpBytes_cases x y with ⟨_, _, _, h⟩ | ⟨_, _, h⟩ | ⟨_, _, _, h⟩ <;> rw [h] <;> simp
  turn x y := by
    rcases cmpBytes_cases x y with ⟨a, b, c, h⟩ | ⟨a, b, h⟩ | ⟨a, b, c, h⟩ <;> rcases cmpBytes_cases y x with ⟨a', b', c', h'⟩ | ⟨a', b', h'⟩ | ⟨a', b', c', h'⟩ <;> rw [h, h'] <;> simp_all
  zero x y := by
    rcases cmpBytes_cases x y with ⟨a, b, c, h⟩ | ⟨a, b, h⟩ | ⟨a, b, c, h⟩ <;> rw [h] <;> simp_all
  trans x y z h1 h2 := by
    rcases cmpBytes_cases x y with ⟨a, b, c, h⟩ | ⟨a, b, h⟩ | ⟨a, b, c, h⟩ <;> rw [h] at h1 <;> simp at h1
    rcases cmpBytes_cases y z with ⟨a', b', c', h'⟩ | ⟨a', b', h'⟩ | ⟨a', b', c', h'⟩ <;> rw [h'] at h2 <;> simp at h2
    have t := bl_trans x y z a a'
    rcases cmpBytes_cases x z with ⟨_, _, _, h''⟩ | ⟨_, e, _⟩ | ⟨_, e, _, _⟩
    · exact h''
    · rw [t] at e; cases e
    · rw [t] at e; cases e
theorem tri_B : Tri cmpB where
  range x y := tri_bytes.range _ _
  turn x y := tri_bytes.turn _ _
  zero x y := ⟨fun h => bytes_eq ((tri_bytes.zero _ _).1 h), fun h => by rw [h]; exact (tri_bytes.zero _ _).2 rfl⟩
  trans x y z := tri_bytes.trans _ _ _
theorem tri_Lb : Tri cmpLb where
  range x y := by
    unfold cmpLb
    split
    · exact tri_B.range _ _
    · exact tri_B.range _ _
  turn x y := by
    unfold cmpLb
    rw [tri_B.turn x.name y.name, tri_B.turn x.value y.value]
    by_cases h : cmpB x.name y.name = 0
    · simp [h]
    · rw [if_pos h, if_pos (by omega)]
  zero x y := by
    unfold cmpLb
    constructor
    · intro h
      by_cases h1 : cmpB x.name y.name = 0
      · rw [if_neg (by omega)] at h
        have e1 := (tri_B.zero _ _).1 h1
        have e2 := (tri_B.zero _ _).1 h
        cases x; cases y
        simp only at e1 e2
        rw [e1, e2]
      · rw [if_pos h1] at h
        exact absurd h h1
    · rintro rfl
      rw [(tri_B.zero x.name x.name).2 rfl, (tri_B.zero x.value x.value).2 rfl]; rfl
  trans x y z h1 h2 := by
    unfold cmpLb at *
    by_cases a : cmpB x.name y.name = 0
    · rw [if_neg (by omega)] at h1
      have e := (tri_B.zero _ _).1 a
      rw [e]
      by_cases b : cmpB y.name z.name = 0
      · rw [if_neg (by omega)] at h2 ⊢
        exact tri_B.trans _ _ _ h1 h2
      · rw [if_pos b] at h2 ⊢
        exact h2
    · rw [if_pos a] at h1
      by_cases b : cmpB y.name z.name = 0
      · have e := (tri_B.zero _ _).1 b
        rw [← e, if_pos a]
        exact h1
      · rw [if_pos b] at h2
        have := tri_B.trans _ _ _ h1 h2
        rw [if_pos (by omega)]
        exact this
theorem cmpLs_range : ∀ x y : List Lbl, cmpLs x y = -1 ∨ cmpLs x y = 0 ∨ cmpLs x y = 1
  | [], [] => by simp [cmpLs]
  | [], _ :: _ => by simp [cmpLs]
  | _ :: _, [] => by simp [cmpLs]
  | x :: r, y :: s => by
    rw [cmpLs]
    split
    · exact tri_Lb.range _ _
    · exact cmpLs_range r s
theorem cmpLs_turn : ∀ x y : List Lbl, cmpLs y x = - cmpLs x y
  | [], [] => rfl
  | [], _ :: _ => rfl
  | _ :: _, [] => rfl
  | x :: r, y :: s => by
    rw [cmpLs, cmpLs, tri_Lb.turn x y, cmpLs_turn r s]
    by_cases h : cmpLb x y = 0
    · simp [h]
    · rw [if_pos h, if_pos (by omega)]
theorem cmpLs_zero : ∀ x y : List Lbl, cmpLs x y = 0 ↔ x = y
  | [], [] => by simp [cmpLs]
  | [], _ :: _ => by simp [cmpLs]
  | _ :: _, [] => by simp [cmpLs]
  | x :: r, y :: s => by
    rw [cmpLs]
    constructor
    · intro h
      by_cases h1 : cmpLb x y = 0
      · rw [if_neg (by omega)] at h
        rw [(tri_Lb.zero _ _).1 h1, (cmpLs_zero r s).1 h]
      · rw [if_pos h1] at h
        exact absurd h h1
    · intro h
      injection h with h1 h2
      subst h1 h2
      rw [(tri_Lb.zero x x).2 rfl, (cmpLs_zero r r).2 rfl]; rfl
theorem cmpLs_trans : ∀ x y z : List Lbl, cmpLs x y = -1 → cmpLs y z = -1 → cmpLs x z = -1
  | _, _, [], _, h => by
    rename_i x y _
    cases y <;> simp [cmpLs] at h
  | _, [], _ :: _, h, _ => by
    rename_i x _ _ _
    cases x <;> simp [cmpLs] at h
  | [], _ :: _, _ :: _, _, _ => rfl
  | x :: r, y :: s, z :: t, h1, h2 => by
    rw [cmpLs] at *
    by_cases a : cmpLb x y = 0
    · rw [if_neg (by omega)] at h1
      have e := (tri_Lb.zero _ _).1 a
      rw [e]
      by_cases b : cmpLb y z = 0
      · rw [if_neg (by omega)] at h2 ⊢
        exact cmpLs_trans _ _ _ h1 h2
      · rw [if_pos b] at h2 ⊢
        exact h2
    · rw [if_pos a] at h1
      by_cases b : cmpLb y z = 0
      · have e := (tri_Lb.zero _ _).1 b
        rw [← e, if_pos a]
        exact h1
      · rw [if_pos b] at h2
        have := tri_Lb.trans _ _ _ h1 h2
        rw [if_pos (by omega)]
        exact this
theorem tri_Ls : Tri cmpLs where
  range := cmpLs_range
  turn := cmpLs_turn
  zero := cmpLs_zero
  trans := cmpLs_trans
end Go.Proofs.YthncochjhbmceaaGreat

namespace Go.Proofs.YthncochjhbmceaaGreat
set_option maxRecDepth 100000
open Go.RowKit Go.Shelf

set_option maxHeartbeats 1000000 in
theorem bcompare_any (a b : ByteArray) (w : World) : Calls Tryz.prog 141 #[.string a, .string b] w fun e w' => e = .returned (.int .i64 (cmpB a b)) ∧ w = w' := by
  go_enter Tryz.func141, Tryz.ntmps141
  go_wp2
  rw [run_callFunc_extern Tryz.func172 (by kernel_rfl) (by kernel_rfl) (by kernel_rfl) (e := Extern.BytealgCompare.compare) (by kernel_rfl), Lib.run_compareString]
  simp only [Result.andThen]
  rw [Oper.upon_value]
  go_wp2
  go_ret
  exact ⟨rfl, rfl⟩
theorem scompare_any (a b : ByteArray) (w : World) : Calls Tryz.prog 91 #[.string a, .string b] w fun e w' => e = .returned (.int .i64 (cmpB a b)) ∧ w = w' := by
  go_enter Tryz.func91, Tryz.ntmps91
  go_wp2_with fail
  refine (bcompare_any a b _).mono ?_
  rintro e w' ⟨rfl, rfl⟩
  go_wp2
  go_ret
  exact ⟨rfl, rfl⟩
theorem byName_any (x y : Lbl) (w : World) : Calls Tryz.prog 90 #[.agg #[.string x.name, .string x.value], .agg #[.string y.name, .string y.value]] w fun e w' => e = .returned (.int .i64 (cmpB x.name y.name)) ∧ Gr w w' := by
  go_enter Tryz.func90, Tryz.ntmps90
  go_wp2_with fail
  refine (scompare_any x.name y.name _).mono ?_
  rintro e w' ⟨rfl, rfl⟩
  go_wp2
  go_ret
  exact ⟨rfl, ((Gr.refl _).alloc _).alloc _⟩

/-! cmp.Or of two -/
def or2 (x y : Int) : Int := if x ≠ 0 then x else y
set_option maxHeartbeats 1600000 in
theorem or2_any (x y : Int) (g : Nat) (w : World) (h0 : w.cell? ⟨g, 0, none⟩ = some (.int .i64 x)) (h1 : w.cell? ⟨g, 1, none⟩ = some (.int .i64 y)) :
    Calls Tryz.prog 89 #[.slice (some ⟨g, 0, none⟩) 2 2] w fun e w' => e = .returned (.int .i64 (or2 x y)) ∧ w = w' := by
  by_cases hx : x = 0
  · subst hx
    by_cases hy : y = 0
    · subst hy
      have n1 : (((0 : Int) != 0) : Bool) = false := rfl
      go_enter Tryz.func89, Tryz.ntmps89
      go_wp2_with fail
      refine wp_loop_rounds 3 ?_
      rw [rounds_succ]
      go_wp2_with fail
      rw [rounds_succ]
      go_wp2_with fail
      rw [rounds_succ]
      go_wp2_with fail
      go_ret
      exact ⟨rfl, rfl⟩
    · have n1 : (((0 : Int) != 0) : Bool) = false := rfl
      have n2 : ((y != 0) : Bool) = true := by simpa using hy
      have ho := hidden (show or2 0 y = y from rfl)
      clear hy
      go_enter Tryz.func89, Tryz.ntmps89
      go_wp2_with fail
      refine wp_loop_rounds 3 ?_
      rw [rounds_succ]
      go_wp2_with fail
      rw [rounds_succ]
      go_wp2_with fail
      go_ret
      exact ⟨ret_int ho.out.symm, rfl⟩
  · have n2 : ((x != 0) : Bool) = true := by simpa using hx
    have ho := hidden (show or2 x y = x from if_pos hx)
    clear hx
    go_enter Tryz.func89, Tryz.ntmps89
    go_wp2_with fail
    refine wp_loop_rounds 3 ?_
    rw [rounds_succ]
    go_wp2_with fail
    go_ret
    exact ⟨ret_int ho.out.symm, rfl⟩

set_option maxHeartbeats 3200000 in
theorem cmpLb_any (x y : Lbl) (w : World) : Calls Tryz.prog 88 #[.agg #[.string x.name, .string x.value], .agg #[.string y.name, .string y.value]] w fun e w' => e = .returned (.int .i64 (cmpLb x y)) ∧ Gr w w' := by
  go_enter Tryz.func88, Tryz.ntmps88
  go_wp2_with fail
  have hX := (Whole1.new w 70 #[.string x.name, .string x.value]).alloc (.cells #[.string y.name, .string y.value] 70)
  have hY := Whole1.new (w.alloc (.cells #[.string x.name, .string x.value] 70)) 70 #[.string y.name, .string y.value]
  rw [World.size_alloc] at hY
  have hG : Gr w ((w.alloc (.cells #[.string x.name, .string x.value] 70)).alloc (.cells #[.string y.name, .string y.value] 70)) := ((Gr.refl _).alloc _).alloc _
  generalize (w.alloc (.cells #[.string x.name, .string x.value] 70)).alloc (.cells #[.string y.name, .string y.value] 70) = w2 at hX hY hG ⊢
  obtain ⟨X, hXe⟩ : ∃ X, w.heap.size = X := ⟨_, rfl⟩
  rw [hXe] at hX hY ⊢
  have x0 : w2.cell? ⟨X, 0, none⟩ = some (.string x.name) := hX.cell 0
  have x1 : w2.cell? ⟨X, 1, none⟩ = some (.string x.value) := hX.cell 1
  have y0 : w2.cell? ⟨X + 1, 0, none⟩ = some (.string y.name) := hY.cell 0
  have y1 : w2.cell? ⟨X + 1, 1, none⟩ = some (.string y.value) := hY.cell 1
  have hXl := hX.lt
  have hYl := hY.lt
  have HG := hidden hG
  clear hX hY hG hXe
  go_cut [4] (fun v wx => v = .int .i64 (or2 (cmpB x.name y.name) (cmpB x.value y.value)) ∧ Gr w2 wx)
  case first =>
    have hg0 : Gr w2 w2.drew := (Gr.refl _).drew
    go_region_held3 (fun w' => w'.cell? ⟨X, 0, none⟩ = some (.string x.name) ∧ w'.cell? ⟨X, 1, none⟩ = some (.string x.value) ∧ w'.cell? ⟨X + 1, 0, none⟩ = some (.string y.name) ∧ w'.cell? ⟨X + 1, 1, none⟩ = some (.string y.value) ∧ Gr w2 w') ((go_split_ands; refine ⟨?_, ?_, ?_, ?_, ?_⟩ <;> first | assumption | (refine gr_cell (by assumption) ?_; assumption) | (refine Gr.trans ?_ (by assumption); assumption) | (refine gr_alloc_cell _ ?_; assumption) | (refine Gr.alloc ?_ _; assumption)))
      (first | (go_at_call 90; refine (byName_any x y _).mono ?_; rintro e w' ⟨rfl, hGn⟩) | (go_at_call 91; refine (scompare_any _ _ _).mono ?_; rintro e w' ⟨rfl, rfl⟩) | (go_at_call 89; refine (or2_any (cmpB x.name y.name) (cmpB x.value y.value) _ _ ((Whole1.new _ _ _).cell 0) ((Whole1.new _ _ _).cell 1)).mono ?_; rintro e w' ⟨rfl, rfl⟩))
    all_goals
      go_wp2_with fail
      go_meet
      exact ⟨rfl, (hg0.trans (by assumption)).alloc _⟩
  case rest =>
    obtain ⟨rfl, hG2⟩ := hcut
    go_wp2_with fail
    go_ret
    exact ⟨rfl, HG.out.trans hG2⟩

theorem drop_at {α : Type} {l : List α} {k : Nat} {x : α} (h : l[k]? = some x) : l.drop k = x :: l.drop (k + 1) := by
  obtain ⟨h1, h2⟩ := List.getElem?_eq_some_iff.1 h
  rw [List.drop_eq_getElem_cons h1, h2]

set_option maxHeartbeats 3200000 in
theorem compareF_any (A B : Option Addr) (n m c c2 : Nat) (l l2 : List Lbl) (w : World) (b1 b2 : Nat) (hr : Row w b1 2 A n (lblCells l)) (hr2 : Row w b2 2 B m (lblCells l2)) (hb1 : b1 ≤ w.heap.size) (hb2 : b2 ≤ w.heap.size) (hl : l.length = n) (hl2 : l2.length = m) (hn : n ≤ 4611686018427387904) (_hm : m ≤ 4611686018427387904) :
    Calls Tryz.prog 87 #[.slice A n c, .slice B m c2, .func (.func 88) #[] #[]] w fun e w' => e = .returned (.int .i64 (cmpLs l l2)) ∧ Gr w w' := by
  have hL := hidden hl
  have hM := hidden hl2
  have HR := hidden hr
  have HR2 := hidden hr2
  clear hl hl2 hr hr2
  go_enter Tryz.func87, Tryz.ntmps87
  go_wp2
  go_loopw [13] (fun i wr => ∃ k : Nat, i = .int .i64 k ∧ k ≤ n ∧ k ≤ m ∧ Hid (cmpLs (l.drop k) (l2.drop k) = cmpLs l l2) ∧ Gr w wr) (fun i _ => n - (intOf i).toNat)
  case atStart => exact ⟨0, rfl, Nat.zero_le _, Nat.zero_le _, hidden (by simp), Gr.refl _⟩
  case round =>
    obtain ⟨k, rfl, hkn, hkm, hgo, hG⟩ := hrel
    have hBw := hG.below
    by_cases hlt : k < n
    · obtain ⟨gs, o, rfl, _, x, hx, d0, d1⟩ := lbl_cells_at (HR.out.more hb1) hL.out hBw k hlt
      have hkz : (k : Int) < (n : Int) := by omega
      have hk0 : (0 : Int) ≤ (k : Int) := by omega
      by_cases hlm : k < m
      · obtain ⟨gt, p, rfl, _, y, hy, e0, e1⟩ := lbl_cells_at (HR2.out.more hb2) hM.out hBw k hlm
        have hmz : ¬ (m : Int) ≤ (k : Int) := by omega
        have hmz2 : (k : Int) < (m : Int) := by omega
        have hst := hgo.out
        rw [drop_at hx, drop_at hy, cmpLs] at hst
        have HST := hidden hst
        have hXl := World.block_lt_of_cell? wr _ e0
        have hXl2 : gt < wr.heap.size := hXl
        have hne : gt ≠ wr.heap.size := by omega
        have e0a := gr_alloc_cell (.cells #[.string x.name, .string x.value] 70) e0
        have e1a := gr_alloc_cell (.cells #[.string x.name, .string x.value] 70) e1
        clear hst hx hy hgo
        go_wp2_with fail
        refine (cmpLb_any x y _).mono ?_
        rintro e w1 ⟨rfl, hG1⟩
        have hG2 := ((hG.alloc _).alloc _).trans hG1
        obtain ⟨c0, hc0⟩ : ∃ c0, cmpLb x y = c0 := ⟨_, rfl⟩
        have hst := HST.out
        rw [hc0] at hst ⊢
        clear d0 d1 e0 e1 e0a e1a hG1 hc0 HST
        by_cases hz : c0 = 0
        · subst hz
          have t1 : (((0 : Int) != 0) : Bool) = false := rfl
          rw [if_neg (by simp)] at hst
          have HST := hidden hst
          clear hst
          go_wp2_with fail
          go_roundw
          case rel => exact ⟨k + 1, by go_num, by omega, by omega, HST, hG2⟩
          case measure => simp [intOf]; omega
        · have t1 : ((c0 != 0) : Bool) = true := by simpa using hz
          rw [if_pos hz] at hst
          have HST := hidden hst
          clear hst hz
          go_wp2_with fail
          go_ret
          exact ⟨ret_int HST.out, hG2⟩
      · have hmz : (m : Int) ≤ (k : Int) := by omega
        have hst := hgo.out
        rw [drop_at hx, List.drop_eq_nil_of_le (show l2.length ≤ k by rw [hM.out]; omega)] at hst
        have HST := hidden (show 1 = cmpLs l l2 from hst)
        clear hst hx hgo
        go_wp2_with fail
        go_ret
        exact ⟨ret_int HST.out, hG.alloc _⟩
    · obtain rfl : k = n := by omega
      have hkz : ¬ (k : Int) < (k : Int) := by omega
      have hst := hgo.out
      rw [List.drop_eq_nil_of_le (by rw [hL.out]; exact Nat.le_refl _)] at hst
      by_cases hlm : k < m
      · have hmz : (k : Int) < (m : Int) := by omega
        have hd : l2.drop k = l2[k]'(by rw [hM.out]; exact hlm) :: l2.drop (k + 1) := List.drop_eq_getElem_cons _
        rw [hd] at hst
        have HST := hidden (show -1 = cmpLs l l2 from hst)
        clear hst hgo hd
        go_wp2_with fail
        go_ret
        exact ⟨ret_int HST.out, hG⟩
      · have hmz : ¬ (k : Int) < (m : Int) := by omega
        rw [List.drop_eq_nil_of_le (show l2.length ≤ k by rw [hM.out]; omega)] at hst
        have HST := hidden (show 0 = cmpLs l l2 from hst)
        clear hst hgo
        go_wp2_with fail
        go_ret
        exact ⟨ret_int HST.out, hG⟩

/-- labels.Compare -/
theorem lcompare_any (A B : Option Addr) (n m c c2 : Nat) (l l2 : List Lbl) (w : World) (b1 b2 : Nat) (hr : Row w b1 2 A n (lblCells l)) (hr2 : Row w b2 2 B m (lblCells l2)) (hb1 : b1 ≤ w.heap.size) (hb2 : b2 ≤ w.heap.size) (hl : l.length = n) (hl2 : l2.length = m) (hn : n ≤ 4611686018427387904) (hm : m ≤ 4611686018427387904) :
    Calls Tryz.prog 53 #[.slice A n c, .slice B m c2] w fun e w' => e = .returned (.int .i64 (cmpLs l l2)) ∧ Gr w w' := by
  have hcon := hidden (compareF_any A B n m c c2 l l2 w b1 b2 hr hr2 hb1 hb2 hl hl2 hn hm)
  clear hr hr2 hl hl2
  go_enter Tryz.func53, Tryz.ntmps53
  go_wp2_with fail
  refine hcon.out.mono ?_
  rintro e w' ⟨rfl, hG⟩
  go_wp2
  go_ret
  exact ⟨rfl, hG⟩
end Go.Proofs.YthncochjhbmceaaGreat

namespace Go.Proofs.YthncochjhbmceaaGreat
set_option maxRecDepth 100000
open Go.RowKit Go.Shelf

/-- how one string stands to another, in the walk's spelling -/
theorem str_cases (a b : ByteArray) : (Op.bytesLess a.toList b.toList = true ∧ Op.bytesLess b.toList a.toList = false ∧ cmpB a b = -1) ∨ (a = b ∧ Op.bytesLess a.toList b.toList = false ∧ Op.bytesLess b.toList a.toList = false ∧ cmpB a b = 0) ∨ (Op.bytesLess b.toList a.toList = true ∧ Op.bytesLess a.toList b.toList = false ∧ (a.toList == b.toList) = false ∧ cmpB a b = 1) := by
  have := cmpBytes_cases a.data.toList b.data.toList
  rw [Lib.toList_data, Lib.toList_data]
  rcases this with ⟨h1, h2, _, h4⟩ | ⟨h1, h2, h3⟩ | ⟨h1, h2, h5, h4⟩
  · exact .inl ⟨h1, h2, h4⟩
  · exact .inr (.inl ⟨bytes_eq h1, h2, by rw [← h1] at h2 ⊢; exact h2, h3⟩)
  · exact .inr (.inr ⟨h1, h2, by simpa using h5, h4⟩)
theorem cmpLs_at {l l2 : List Lbl} {k : Nat} {x y : Lbl} (h : cmpLs l l2 = cmpLs (l.drop k) (l2.drop k)) (hx : l[k]? = some x) (hy : l2[k]? = some y) : cmpLs l l2 = if cmpLb x y ≠ 0 then cmpLb x y else cmpLs (l.drop (k + 1)) (l2.drop (k + 1)) := by
  rw [h, drop_at hx, drop_at hy]; rfl

set_option maxHeartbeats 6400000 in
theorem rcompare_any (A B : Option Addr) (n m c1 c2 : Nat) (l l2 : List Lbl) (w : World) (b1 b2 : Nat) (hr : Row w b1 2 A n (lblCells l)) (hr2 : Row w b2 2 B m (lblCells l2)) (hl : l.length = n) (hl2 : l2.length = m) (hn : n ≤ 4611686018427387904) :
    Calls Tryz.prog 54 #[.slice A n c1, .slice B m c2] w fun e w' => e = .returned (.int .i64 (cmpLs l l2)) ∧ ∃ q, w' = w.drewN q := by
  have hL := hidden hl
  have hL2 := hidden hl2
  clear hl hl2
  go_enter Tryz.func54, Tryz.ntmps54
  go_wp2
  go_loopw [5] (fun i wr => ∃ k : Nat, k ≤ n ∧ k ≤ m ∧ i = .int .i64 k ∧ Hid (cmpLs l l2 = cmpLs (l.drop k) (l2.drop k)) ∧ ∃ q, wr = w.drewN q) (fun i _ => n - (intOf i).toNat)
  case atStart => exact ⟨0, Nat.zero_le _, Nat.zero_le _, rfl, hidden rfl, 0, rfl⟩
  case round =>
    obtain ⟨k, hk, hkm, rfl, hcm, q, rfl⟩ := hrel
    by_cases hlt : k < n ∧ k < m
    · obtain ⟨gs, o, rfl, _, x, hx, d0, d1⟩ := lbl_cells_at hr hL.out (Below.refl b1 w) k hlt.1
      obtain ⟨gt, p, rfl, _, y, hy, e0, e1⟩ := lbl_cells_at hr2 hL2.out (Below.refl b2 w) k hlt.2
      have hat := hidden (cmpLs_at hcm.out hx hy)
      obtain ⟨x0, x1⟩ := x
      obtain ⟨y0, y1⟩ := y
      simp only at d0 d1 e0 e1
      have h1 : (k : Int) < (n : Int) := by omega
      have h2 : (k : Int) < (m : Int) := by omega
      have hk0 : (0 : Int) ≤ (k : Int) := by omega
      have hkb : k < 4611686018427387904 := by omega
      have hmea : n - (k + 1) < n - k := by omega
      have hk1 : k + 1 ≤ n ∧ k + 1 ≤ m := by omega
      clear hx hy hr hr2 hcm hlt
      rcases str_cases x0 y0 with ⟨a1, a2, a3⟩ | ⟨rfl, a1, a2, a3⟩ | ⟨a1, a2, a4, a3⟩
      · have hf : Hid (cmpLs l l2 = -1) := hidden (by rw [hat.out]; unfold cmpLb; simp [a3])
        have HA := hidden a3
        clear a3 hat
        go_wp2_with fail
        go_quiet (fail)
        go_wp2_with fail
        go_ret
        exact ⟨ret_int hf.out.symm, _, World.drewN_drewN _ _ _⟩
      · rcases str_cases x1 y1 with ⟨c1, c2, c3⟩ | ⟨rfl, c1, c2, c3⟩ | ⟨c1, c2, c4, c3⟩
        · have hf : Hid (cmpLs l l2 = -1) := hidden (by rw [hat.out]; unfold cmpLb; simp [a3, c3])
          clear a3 c3 hat
          go_wp2_with fail
          go_quiet (fail)
          go_wp2_with fail
          go_quiet (fail)
          go_wp2_with fail
          go_quiet (fail)
          go_wp2_with fail
          go_ret
          exact ⟨ret_int hf.out.symm, by first | exact ⟨_, rfl⟩ | (simp only [World.drewN_drewN]; exact ⟨_, rfl⟩)⟩
        · have hf : Hid (cmpLs l l2 = cmpLs (l.drop (k + 1)) (l2.drop (k + 1))) := hidden (by rw [hat.out]; unfold cmpLb; simp [a3, c3])
          clear a3 c3 hat
          go_wp2_with fail
          go_quiet (fail)
          go_wp2_with fail
          go_quiet (fail)
          go_wp2_with fail
          go_quiet (fail)
          go_wp2_with fail
          go_quiet (fail)
          go_wp2_with fail
          go_roundw
          case rel => exact ⟨k + 1, hk1.1, hk1.2, by go_num, hf, _, rfl⟩
          case measure => simp [intOf]; omega
        · have hf : Hid (cmpLs l l2 = 1) := hidden (by rw [hat.out]; unfold cmpLb; simp [a3, c3])
          clear a3 c3 hat
          go_wp2_with fail
          go_quiet (fail)
          go_wp2_with fail
          go_quiet (fail)
          go_wp2_with fail
          go_quiet (fail)
          go_wp2_with fail
          go_quiet (fail)
          go_wp2_with fail
          go_ret
          exact ⟨ret_int hf.out.symm, by first | exact ⟨_, rfl⟩ | (simp only [World.drewN_drewN]; exact ⟨_, rfl⟩)⟩
      · have hf : Hid (cmpLs l l2 = 1) := hidden (by rw [hat.out]; unfold cmpLb; simp [a3])
        clear a3 hat
        go_wp2_with fail
        go_quiet (fail)
        go_wp2_with fail
        go_quiet (fail)
        go_wp2_with fail
        go_ret
        exact ⟨ret_int hf.out.symm, by first | exact ⟨_, rfl⟩ | (simp only [World.drewN_drewN]; exact ⟨_, rfl⟩)⟩
    · have hend : Hid (cmpLs l l2 = if n < m then -1 else if m < n then 1 else 0) := hidden (by
        rw [hcm.out]
        have e1 : (l.drop k).length = n - k := by rw [List.length_drop, hL.out]
        have e2 : (l2.drop k).length = m - k := by rw [List.length_drop, hL2.out]
        revert e1 e2
        cases l.drop k <;> cases l2.drop k <;> intro e1 e2 <;> simp only [List.length_nil, List.length_cons] at e1 e2 <;> simp only [cmpLs]
        · rw [if_neg (by omega), if_neg (by omega)]
        · rw [if_pos (by omega)]
        · rw [if_neg (by omega), if_pos (by omega)]
        · omega)
      clear hr hr2 hcm
      by_cases h1 : n < m
      · have hf : Hid (cmpLs l l2 = -1) := hidden (by rw [hend.out, if_pos h1])
        have g1 : ¬ k < n ∨ ¬ k < m := by omega
        clear hend
        have b1 : (n : Int) < (m : Int) := by omega
        by_cases g2 : k < n
        · exact absurd g2 (by omega)
        · go_wp2_with fail
          go_ret
          exact ⟨ret_int hf.out.symm, by first | exact ⟨_, rfl⟩ | (simp only [World.drewN_drewN]; exact ⟨_, rfl⟩)⟩
      · by_cases h2 : m < n
        · have hf : Hid (cmpLs l l2 = 1) := hidden (by rw [hend.out, if_neg h1, if_pos h2])
          clear hend
          have b1 : (m : Int) < (n : Int) := by omega
          have b2 : ¬ (n : Int) < (m : Int) := by omega
          have g2 : k < n := by omega
          have g3 : ¬ k < m := by omega
          go_wp2_with fail
          go_ret
          exact ⟨ret_int hf.out.symm, by first | exact ⟨_, rfl⟩ | (simp only [World.drewN_drewN]; exact ⟨_, rfl⟩)⟩
        · have hf : Hid (cmpLs l l2 = 0) := hidden (by rw [hend.out, if_neg h1, if_neg h2])
          clear hend
          have g2 : ¬ k < n := by omega
          go_wp2_with fail
          go_ret
          exact ⟨ret_int hf.out.symm, by first | exact ⟨_, rfl⟩ | (simp only [World.drewN_drewN]; exact ⟨_, rfl⟩)⟩
end Go.Proofs.YthncochjhbmceaaGreat

namespace Go.Proofs.YthncochjhbmceaaGreat
set_option maxRecDepth 100000
open Go.RowKit

def digitB (b : UInt8) : Bool := decide (48 ≤ b.toNat) && decide (b.toNat ≤ 57)
def letterB (b : UInt8) : Bool := (decide (97 ≤ b.toNat) && decide (b.toNat ≤ 122)) || (decide (65 ≤ b.toNat) && decide (b.toNat ≤ 90)) || decide (b.toNat = 95)
/-- may b stand at place i of a name? -/
def nameB (i : Nat) (b : UInt8) : Bool := letterB b || (digitB b && decide (i ≠ 0))
def namesUpto (s : List UInt8) (k : Nat) : Prop := ∀ i b, i < k → s[i]? = some b → nameB i b = true
def nameAll (s : List UInt8) : Bool := (List.range s.length).all fun i => match s[i]? with
  | some b => nameB i b
  | none => true
def fitN (s : ByteArray) : Bool := nameAll s.data.toList && (decide (1 ≤ s.size) && decide (s.size ≤ 32))
theorem nameAll_iff (s : List UInt8) : nameAll s = true ↔ namesUpto s s.length := by
  unfold nameAll namesUpto
  rw [List.all_eq_true]
  constructor
  · intro h i b hi hb
    have := h i (List.mem_range.2 hi)
    rw [hb] at this
    exact this
  · intro h i hi
    cases hb : s[i]? with
    | none => rfl
    | some b => exact h i b (List.mem_range.1 hi) hb
theorem size_list (s : ByteArray) : s.data.toList.length = s.size := rfl
def fitV (s : ByteArray) : Bool := decide (1 ≤ s.size ∧ s.size ≤ 64)
theorem namesUpto_zero (s : List UInt8) : namesUpto s 0 := fun _ _ h => absurd h (Nat.not_lt_zero _)
theorem namesUpto_succ {s : List UInt8} {k : Nat} {b : UInt8} (h : namesUpto s k) (hb : s[k]? = some b) (hn : nameB k b = true) : namesUpto s (k + 1) := fun i c hi hc => by
  by_cases e : i = k
  · subst e; have := hc.symm.trans hb; cases this; exact hn
  · exact h i c (by omega) hc
theorem fitN_no {s : ByteArray} {k : Nat} {b : UInt8} (hk : k < s.size) (hb : s.data.toList[k]? = some b) (hn : nameB k b = false) : fitN s = false := by
  have h : nameAll s.data.toList = false := by
    cases h : nameAll s.data.toList with
    | false => rfl
    | true =>
      have := (nameAll_iff _).1 h k b (by rw [size_list]; exact hk) hb
      rw [hn] at this; cases this
  rw [fitN, h, Bool.false_and]
theorem fitN_end {s : ByteArray} (h : namesUpto s.data.toList s.size) : fitN s = (decide (1 ≤ s.size) && decide (s.size ≤ 32)) := by
  rw [fitN, (nameAll_iff _).2 (by rw [size_list]; exact h), Bool.true_and]

/-- the error that the label at place i has -/
def errAt (l : List Lbl) (i : Nat) : Nat :=
  match l[i]? with
  | none => 0
  | some x => if fitN x.name = false then 40 else if fitV x.value = false then 41 else if (∃ y ∈ l.take i, y.name = x.name) then 42 else 0
def errUpto (l : List Lbl) : Nat → Nat
  | 0 => 0
  | k + 1 => if errUpto l k = 0 then errAt l k else errUpto l k
def makeErr (l : List Lbl) : Nat := if l.length = 0 then 43 else if 8 < l.length then 44 else errUpto l l.length
theorem errUpto_stop {l : List Lbl} {k : Nat} (h : errUpto l k = 0) (he : errAt l k ≠ 0) : ∀ m, k + 1 ≤ m → errUpto l m = errAt l k
  | 0, hm => absurd hm (by omega)
  | m + 1, hm => by
    by_cases e : m = k
    · subst e; rw [errUpto, if_pos h]
    · have := errUpto_stop h he m (by omega)
      rw [errUpto, if_neg (by rw [this]; exact he), this]
theorem errUpto_next {l : List Lbl} {k : Nat} (h : errUpto l k = 0) (he : errAt l k = 0) : errUpto l (k + 1) = 0 := by rw [errUpto, if_pos h, he]
theorem errUpto_le {l : List Lbl} : ∀ {m k : Nat}, errUpto l m = 0 → k ≤ m → errUpto l k = 0
  | 0, k, h, hk => by have : k = 0 := by omega
                      subst this; exact h
  | m + 1, k, h, hk => by
    rw [errUpto] at h
    split at h
    · rename_i h2
      by_cases e : k = m + 1
      · subst e; rw [errUpto, if_pos h2, h]
      · exact errUpto_le h2 (by omega)
    · rename_i h2; exact absurd h h2
theorem errAt_zero {l : List Lbl} {m k : Nat} (h : errUpto l m = 0) (hk : k < m) : errAt l k = 0 := by
  have h1 := errUpto_le h (show k + 1 ≤ m by omega)
  have h2 := errUpto_le h (show k ≤ m by omega)
  rwa [errUpto, if_pos h2] at h1
theorem errAt_of {l : List Lbl} {k : Nat} {x : Lbl} (hx : l[k]? = some x) : errAt l k = if fitN x.name = false then 40 else if fitV x.value = false then 41 else if (∃ y ∈ l.take k, y.name = x.name) then 42 else 0 := by rw [errAt, hx]
theorem errAt_ok {l : List Lbl} {k : Nat} {x : Lbl} (hx : l[k]? = some x) (h : errAt l k = 0) : fitN x.name = true ∧ fitV x.value = true ∧ ∀ y ∈ l.take k, y.name ≠ x.name := by
  rw [errAt_of hx] at h
  split at h
  · cases h
  · split at h
    · cases h
    · split at h
      · cases h
      · rename_i h1 h2 h3
        exact ⟨by simpa using h1, by simpa using h2, fun y hy e => h3 ⟨y, hy, e⟩⟩
theorem makeErr_ok {l : List Lbl} (h : makeErr l = 0) : 0 < l.length ∧ l.length ≤ 8 ∧ errUpto l l.length = 0 := by
  unfold makeErr at h
  split at h
  · cases h
  · split at h
    · cases h
    · exact ⟨by omega, by omega, h⟩
/-- no name twice -/
theorem make_apart {l : List Lbl} (h : errUpto l l.length = 0) : l.Pairwise fun x y => x.name ≠ y.name := by
  rw [List.pairwise_iff_getElem]
  intro i j hi hj hij e
  have hx : l[j]? = some l[j] := List.getElem?_eq_getElem hj
  refine (errAt_ok hx (errAt_zero h hj)).2.2 l[i] ?_ e
  refine List.mem_iff_getElem?.2 ⟨i, ?_⟩
  rw [List.getElem?_take_of_lt hij]
  exact List.getElem?_eq_getElem hi
theorem make_fits {l : List Lbl} (h : errUpto l l.length = 0) : ∀ x ∈ l, fitN x.name = true ∧ fitV x.value = true := fun x hx => by
  obtain ⟨i, hi⟩ := List.mem_iff_getElem?.1 hx
  have hl := (List.getElem?_eq_some_iff.1 hi).1
  have := errAt_ok hi (errAt_zero h hl)
  exact ⟨this.1, this.2.1⟩

/-! in the order of the names -/
def ltN (x y : Lbl) : Prop := cmpB x.name y.name < 0
def upN (l : List Lbl) : Prop := l.Pairwise ltN
theorem ltN_irr (x : Lbl) : ¬ ltN x x := fun h => by
  have h0 := (tri_B.zero x.name x.name).2 rfl
  unfold ltN at h; omega
theorem ltN_trans {x y z : Lbl} (h : ltN x y) (k : ltN y z) : ltN x z := by
  unfold ltN at *
  have a := tri_B.range x.name y.name
  have b := tri_B.range y.name z.name
  have := tri_B.trans x.name y.name z.name (by omega) (by omega)
  omega
theorem up_unique : ∀ {a b : List Lbl}, upN a → upN b → a.Perm b → a = b
  | [], b, _, _, h => (List.Perm.nil_eq h)
  | x :: a, [], _, _, h => absurd h.length_eq (by simp)
  | x :: a, y :: b, ha, hb, h => by
    obtain ⟨a1, a2⟩ := List.pairwise_cons.1 ha
    obtain ⟨b1, b2⟩ := List.pairwise_cons.1 hb
    have hxy : x = y := by
      rcases List.mem_cons.1 (h.mem_iff.1 (List.mem_cons_self ..)) with e | hx
      · exact e
      · rcases List.mem_cons.1 (h.mem_iff.2 (List.mem_cons_self ..)) with e | hy
        · exact e.symm
        · have h1 := b1 x hx
          have h2 := a1 y hy
          have h3 := tri_B.turn x.name y.name
          unfold ltN at h1 h2
          omega
    subst hxy
    rw [up_unique a2 b2 (List.Perm.cons_inv h)]
theorem leN_trans (a b c : Lbl) (h1 : cmpB a.name b.name ≤ 0) (h2 : cmpB b.name c.name ≤ 0) : cmpB a.name c.name ≤ 0 := by
  rcases tri_B.range a.name b.name with h | h | h
  · rcases tri_B.range b.name c.name with k | k | k
    · have := tri_B.trans _ _ _ h k; omega
    · rw [← (tri_B.zero _ _).1 k]; omega
    · omega
  · rw [(tri_B.zero _ _).1 h]; exact h2
  · omega
/-- the list in the order of its names -/
def sortN (l : List Lbl) : List Lbl := l.mergeSort fun x y => decide (cmpB x.name y.name ≤ 0)
theorem sortN_perm (l : List Lbl) : (sortN l).Perm l := List.mergeSort_perm l _
theorem sortN_up {l : List Lbl} (h : l.Pairwise fun x y => x.name ≠ y.name) : upN (sortN l) := by
  have h1 : (sortN l).Pairwise fun x y => decide (cmpB x.name y.name ≤ 0) = true := List.pairwise_mergeSort (fun a b c h1 h2 => by
    simp only [decide_eq_true_eq] at *
    exact leN_trans a b c h1 h2) (fun a b => by
    have := tri_B.turn a.name b.name
    simp; omega) l
  have h2 : (sortN l).Pairwise fun x y => x.name ≠ y.name := (sortN_perm l).symm.pairwise h fun h e => h e.symm
  refine (h1.and h2).imp ?_
  rintro x y ⟨a, b⟩
  simp only [decide_eq_true_eq] at a
  unfold ltN
  rcases tri_B.range x.name y.name with h | h | h
  · omega
  · exact absurd ((tri_B.zero _ _).1 h) b
  · omega
theorem sortN_uniq {l E : List Lbl} (h : l.Pairwise fun x y => x.name ≠ y.name) (hE : upN E) (hp : E.Perm l) : E = sortN l :=
  up_unique hE (sortN_up h) (hp.trans (sortN_perm l).symm)
/-- what Make answers -/
def makeL (l : List Lbl) : List Lbl := if makeErr l = 0 then sortN l else []
def validP (l : List Lbl) : Prop := makeErr l = 0 ∧ upN l
theorem makeL_len {l : List Lbl} : (makeL l).length ≤ 8 := by
  unfold makeL
  split
  · rename_i h
    rw [(sortN_perm l).length_eq]
    exact (makeErr_ok h).2.1
  · exact Nat.zero_le _
theorem up_apart {l : List Lbl} (h : upN l) : l.Pairwise fun x y => x.name ≠ y.name := h.imp fun {x y} h e => by
  have := (tri_B.zero x.name y.name).2 e
  unfold ltN at h; omega
/-- a list that is fit in every place has no error -/
theorem errUpto_fit {l : List Lbl} (hf : ∀ x ∈ l, fitN x.name = true ∧ fitV x.value = true) (ha : l.Pairwise fun x y => x.name ≠ y.name) : ∀ k, errUpto l k = 0
  | 0 => rfl
  | k + 1 => by
    refine errUpto_next (errUpto_fit hf ha k) ?_
    cases hx : l[k]? with
    | none => rw [errAt, hx]
    | some x =>
      obtain ⟨h1, h2⟩ := hf x (List.mem_of_getElem? hx)
      rw [errAt_of hx, h1, h2, if_neg (by simp), if_neg (by simp), if_neg]
      rintro ⟨y, hy, e⟩
      obtain ⟨i, hi⟩ := List.mem_iff_getElem?.1 hy
      have hil := (List.getElem?_eq_some_iff.1 hi).1
      have hik : i < k := by rw [List.length_take] at hil; omega
      rw [List.getElem?_take_of_lt hik] at hi
      obtain ⟨hi1, hi2⟩ := List.getElem?_eq_some_iff.1 hi
      obtain ⟨hx1, hx2⟩ := List.getElem?_eq_some_iff.1 hx
      exact List.pairwise_iff_getElem.1 ha i k hi1 hx1 hik (by rw [hi2, hx2]; exact e)
/-- the sorted list of a fit list is fit -/
theorem sortN_valid {l : List Lbl} (h : makeErr l = 0) : validP (sortN l) := by
  obtain ⟨h1, h2, h3⟩ := makeErr_ok h
  have hp := sortN_perm l
  have ha := make_apart h3
  refine ⟨?_, sortN_up ha⟩
  unfold makeErr
  rw [hp.length_eq, if_neg (by omega), if_neg (by omega)]
  exact errUpto_fit (fun x hx => make_fits h3 x (hp.mem_iff.1 hx)) (up_apart (sortN_up ha)) _
end Go.Proofs.YthncochjhbmceaaGreat

namespace Go.Proofs.YthncochjhbmceaaGreat
set_option maxRecDepth 100000
open Go.RowKit

/-- labels as they lie -/
structure LbF (w : World) (A : Option Addr) (n : Nat) (l : List Lbl) : Prop where
  row : Row w w.heap.size 2 A n (l.flatMap Lbl.cells)
  len : l.length = n
  fit : n * 32 ≤ 140737488351232
  sz : ∀ x ∈ l, x.name.size ≤ 140737488355328 ∧ x.value.size ≤ 140737488355328
theorem LbF.on {w w' : World} {A : Option Addr} {n : Nat} {l : List Lbl} (h : LbF w A n l) (hb : Below w.heap.size w w') : LbF w' A n l := ⟨(h.row.below hb).more hb.size, h.len, h.fit, h.sz⟩
theorem lb_cells {w : World} {A : Option Addr} {n : Nat} {l : List Lbl} (h : LbF w A n l) {k : Nat} (hk : k < n) : ∃ g o x, A = some ⟨g, o, none⟩ ∧ g < w.heap.size ∧ l[k]? = some x ∧ w.cell? ⟨g, o + k * 2, none⟩ = some (.string x.name) ∧ w.cell? ⟨g, o + k * 2 + 1, none⟩ = some (.string x.value) ∧ x ∈ l := by
  obtain ⟨g, o, x, hA, hg, hx, hc⟩ := row_at (enc := Lbl.cells) (k := 2) (fun _ => rfl) h.row h.len k hk
  exact ⟨g, o, x, hA, hg, hx, hc 0 (by omega), hc 1 (by omega), List.mem_of_getElem? hx⟩
theorem take_lb : ∀ (l : List Lbl) (k : Nat), (l.flatMap Lbl.cells).take (k * 2) = (l.take k).flatMap Lbl.cells
  | [], k => by simp
  | x :: l, 0 => by simp
  | x :: l, k + 1 => by
    rw [show (k + 1) * 2 = k * 2 + 2 by omega, List.flatMap_cons, List.take_succ_cons, List.flatMap_cons, ← take_lb l k]
    rfl
theorem LbF.first {w : World} {A : Option Addr} {n : Nat} {l : List Lbl} (h : LbF w A n l) {k : Nat} (hk : k ≤ n) : Row w w.heap.size 2 A k ((l.take k).flatMap Lbl.cells) := by
  have hl := h.row.len
  rw [← take_lb]
  refine ⟨by rw [List.length_take]; omega, fun hn => ?_⟩
  obtain ⟨g, o, e, hb, hc⟩ := h.row.at_ (by omega)
  exact ⟨g, o, e, hb, fun j hj => by rw [hc j (by omega), List.getElem?_take_of_lt (by omega)]⟩
theorem str_eq (a b : ByteArray) : (a.toList == b.toList) = decide (a = b) := by
  rw [Lib.toList_data, Lib.toList_data]
  by_cases h : a = b
  · subst h; simp
  · rw [decide_eq_false h]
    exact beq_eq_false_iff_ne.2 fun e => h (bytes_eq e)
end Go.Proofs.YthncochjhbmceaaGreat

namespace Go.Proofs.YthncochjhbmceaaGreat
set_option maxRecDepth 100000
open Go.RowKit

open Classical in
/-- the numbers that were laid at this name and value -/
noncomputable def ixs (G : List (Int × Lbl)) (x : Lbl) : List Int := (G.filter fun y => decide (y.2 = x)).map (·.1)
theorem ixs_same (G : List (Int × Lbl)) (n : Int) (x : Lbl) : ixs (G ++ [(n, x)]) x = ixs G x ++ [n] := by simp [ixs]
theorem ixs_other (G : List (Int × Lbl)) (n : Int) {x y : Lbl} (h : x ≠ y) : ixs (G ++ [(n, x)]) y = ixs G y := by simp [ixs, h]
theorem ixs_none {G : List (Int × Lbl)} {x : Lbl} (h : ∀ y ∈ G, y.2 ≠ x) : ixs G x = [] := by
  simp only [ixs, List.map_eq_nil_iff, List.filter_eq_nil_iff, decide_eq_true_eq]
  exact h
theorem ixs_len (G : List (Int × Lbl)) (x : Lbl) : (ixs G x).length ≤ G.length := by
  rw [ixs, List.length_map]; exact List.length_filter_le _ _

/-- the map of one name's values -/
structure Inner (w : World) (base : Nat) (oI : Nat → Option Lbl) (mi : List (Value × Value)) (G : List (Int × Lbl)) (nm : ByteArray) : Prop where
  miss : ∀ vl, atV mi (.string vl) = none → ∀ y ∈ G, y.2 ≠ ⟨nm, vl⟩
  hit : ∀ vl u, atV mi (.string vl) = some u → (∃ y ∈ G, y.2 = ⟨nm, vl⟩) ∧ w.ownsRow base 3 1 u (ixs G ⟨nm, vl⟩).length ((ixs G ⟨nm, vl⟩).map (Value.int .i64)) ∧ ∀ g, u.ownBlock = some g → oI g = some ⟨nm, vl⟩
/-- the map of names -/
structure ListsG (w : World) (base bl : Nat) (ml : List (Value × Value)) (oM : Nat → Option ByteArray) (oI : Nat → Option Lbl) (N : ByteArray → Prop) (G : List (Int × Lbl)) : Prop where
  map : MapV IsStr w bl ml
  old : base ≤ bl
  miss : ∀ nm, atV ml (.string nm) = none → ¬ N nm
  hit : ∀ nm v, atV ml (.string nm) = some v → N nm ∧ ∃ bi mi, v = .map (some bi) ∧ base ≤ bi ∧ bi ≠ bl ∧ oM bi = some nm ∧ MapV IsStr w bi mi ∧ Inner w base oI mi G nm
  all : ∀ y ∈ G, N y.2.name

theorem Inner.turn {w w' : World} {base b : Nat} {ts : List TypeId} {mp : Bool} {oI : Nat → Option Lbl} {mi : List (Value × Value)} {G : List (Int × Lbl)} {nm : ByteArray} (h : Inner w base oI mi G nm) (k : Turn b ts mp w w') (hn : 3 ∉ ts) : Inner w' base oI mi G nm :=
  ⟨h.miss, fun vl u hu => by
    obtain ⟨h1, h2, h3⟩ := h.hit vl u hu
    exact ⟨h1, k.own h2 (.inl hn), h3⟩⟩
theorem Inner.below {w w' : World} {base : Nat} {oI : Nat → Option Lbl} {mi : List (Value × Value)} {G : List (Int × Lbl)} {nm : ByteArray} (h : Inner w base oI mi G nm) (k : Below w.heap.size w w') : Inner w' base oI mi G nm :=
  ⟨h.miss, fun vl u hu => by
    obtain ⟨h1, h2, h3⟩ := h.hit vl u hu
    exact ⟨h1, own_below h2 k (Nat.le_refl _), h3⟩⟩
/-- a map was written: rows stay -/
theorem Inner.store {w w' : World} {base b : Nat} {m : List (Value × Value)} {oI : Nat → Option Lbl} {mi : List (Value × Value)} {G : List (Int × Lbl)} {nm : ByteArray} (h : Inner w base oI mi G nm) (hm : MapV IsStr w b m) (hg : w.grownBy w' (some b)) : Inner w' base oI mi G nm :=
  h.turn (Turn.of_map (base := 0) (ts := []) hm (Nat.zero_le _) hg) (by simp)

theorem ListsG.turn {w w' : World} {base b bl : Nat} {ts : List TypeId} {ml : List (Value × Value)} {oM : Nat → Option ByteArray} {oI : Nat → Option Lbl} {N : ByteArray → Prop} {G : List (Int × Lbl)} (h : ListsG w base bl ml oM oI N G) (k : Turn b ts false w w') (hn : 3 ∉ ts) : ListsG w' base bl ml oM oI N G :=
  ⟨k.mapV h.map (.inr rfl), h.old, h.miss, fun nm v hv => by
    obtain ⟨h1, bi, mi, h2, h3, h4, h5, h6, h7⟩ := h.hit nm v hv
    exact ⟨h1, bi, mi, h2, h3, h4, h5, k.mapV h6 (.inr rfl), h7.turn k hn⟩, h.all⟩
theorem ListsG.below {w w' : World} {base bl : Nat} {ml : List (Value × Value)} {oM : Nat → Option ByteArray} {oI : Nat → Option Lbl} {N : ByteArray → Prop} {G : List (Int × Lbl)} (h : ListsG w base bl ml oM oI N G) (k : Below w.heap.size w w') : ListsG w' base bl ml oM oI N G :=
  h.turn (Turn.of_below k w.heap.size [] false) (by simp)
/-- another map was written -/
theorem ListsG.store {w w' : World} {base b bl : Nat} {m ml : List (Value × Value)} {oM : Nat → Option ByteArray} {oI : Nat → Option Lbl} {N : ByteArray → Prop} {G : List (Int × Lbl)} (h : ListsG w base bl ml oM oI N G) (hm : MapV IsStr w b m) (hg : w.grownBy w' (some b)) (hb : b ≠ bl) (hM : oM b = none) : ListsG w' base bl ml oM oI N G :=
  ⟨h.map.kept (hg.block bl h.map.lt (by simpa using Ne.symm hb)), h.old, h.miss, fun nm v hv => by
    obtain ⟨h1, bi, mi, h2, h3, h4, h5, h6, h7⟩ := h.hit nm v hv
    exact ⟨h1, bi, mi, h2, h3, h4, h5, h6.kept (hg.block bi h6.lt fun e => by cases e; rw [hM] at h5; cases h5), h7.store hm hg⟩, h.all⟩

theorem listsG_new {w : World} {base bl : Nat} (h : MapV IsStr w bl []) (hb : base ≤ bl) : ListsG w base bl [] (fun _ => none) (fun _ => none) (fun _ => False) [] :=
  ⟨h, hb, fun _ _ => id, fun nm v hv => by simp [atV] at hv, by simp⟩

open Classical in
/-- a new name: an empty map was made and laid in -/
theorem ListsG.made {w w2 : World} {base bl : Nat} {ml : List (Value × Value)} {oM : Nat → Option ByteArray} {oI : Nat → Option Lbl} {N : ByteArray → Prop} {G : List (Int × Lbl)} {nm : ByteArray} (h : ListsG w base bl ml oM oI N G) (h0 : atV ml (.string nm) = none) (hB : base ≤ w.heap.size)
    (hst : MapV IsStr w2 bl (putV ml (.string nm) (.map (some w.heap.size)))) (hg : (w.alloc (.map #[] 0)).grownBy w2 (some bl)) :
    ListsG w2 base bl (putV ml (.string nm) (.map (some w.heap.size))) (fun g => if g = w.heap.size then some nm else oM g) oI (fun x => N x ∨ x = nm) G := by
  have hlt := h.map.lt
  have hnew : MapV IsStr w2 w.heap.size [] := (mapV_made IsStr w).kept (hg.block _ (by simp) (by simp; omega))
  have hal : Below w.heap.size w (w.alloc (.map #[] 0)) := (Below.refl _ _).alloc (Nat.le_refl _) _
  have ha := h.below hal
  refine ⟨hst, h.old, fun nm' hn => ?_, fun nm' v hv => ?_, fun y hy => .inl (h.all y hy)⟩
  · by_cases e : nm' = nm
    · subst e
      rw [atV_put_same] at hn
      cases hn
    · rw [atV_put_other _ _ _ (by simpa using e)] at hn
      rintro (h1 | h1)
      · exact h.miss nm' hn h1
      · exact e h1
  · by_cases e : nm' = nm
    · subst e
      rw [atV_put_same] at hv
      cases hv
      refine ⟨.inr rfl, w.heap.size, [], rfl, hB, by omega, by simp, hnew, fun vl _ y hy e => h.miss nm' h0 (by have := h.all y hy; rwa [e] at this), fun vl u hu => by simp [atV] at hu⟩
    · rw [atV_put_other _ _ _ (by simpa using e)] at hv
      obtain ⟨h1, bi, mi, h2, h3, h4, h5, h6, h7⟩ := ha.hit nm' v hv
      have h6' : bi < w.heap.size := by
        obtain ⟨_, bi2, mi2, k2, _, _, _, k6, _⟩ := h.hit nm' v hv
        rw [h2] at k2
        cases k2
        exact k6.lt
      refine ⟨.inl h1, bi, mi, h2, h3, h4, by rw [if_neg (by omega)]; exact h5, h6.kept (hg.block bi h6.lt (by simpa using h4)), h7.store ha.map hg⟩

open Classical in
/-- one more number at a name and a value -/
theorem ListsG.added {w w1 w2 w3 : World} {base bl bi k : Nat} {ml mi : List (Value × Value)} {oM : Nat → Option ByteArray} {oI : Nat → Option Lbl} {N : ByteArray → Prop} {G : List (Int × Lbl)} {x : Lbl} {n : Int} {u v' : Value} (h : ListsG w base bl ml oM oI N G)
    (ho : atV ml (.string x.name) = some (.map (some bi))) (hmi : MapV IsStr w bi mi) (hu : (atV mi (.string x.value)).getD (.slice none 0 0) = u)
    (hb1 : Below w.heap.size w w1) (hown : w2.ownsRow base 3 1 v' k ((ixs G x ++ [n]).map (Value.int .i64))) (hg2 : w1.grownBy w2 u.ownBlock) (hv : v'.ownBlock = u.ownBlock ∨ v'.ownBlock = some w1.heap.size)
    (hst : MapV IsStr w3 bi (putV mi (.string x.value) v')) (hg3 : w2.grownBy w3 (some bi)) :
    ListsG w3 base bl ml oM (fun g => if v'.ownBlock = some g then some x else oI g) N (G ++ [(n, x)]) := by
  obtain ⟨hNx, bi', mi', e1, hbi, hbne, hoM, hm', hI⟩ := h.hit _ _ ho
  cases e1
  -- the map's entries are told by its block
  have hat : ∀ vl, atV mi' (.string vl) = atV mi (.string vl) := fun vl => by
    obtain ⟨⟨es, clock, hb, _, q⟩, _⟩ := hmi
    obtain ⟨⟨es', clock', hb', _, q'⟩, _⟩ := hm'
    rw [hb] at hb'
    cases hb'
    rw [← q, ← q']
  have hlt := h.map.lt
  have hk : k = (ixs G x).length + 1 := by
    have := hown.1
    simp at this
    omega
  -- the row's block, if it has one, was this name's and value's
  have hug : ∀ g, u.ownBlock = some g → g < w.heap.size ∧ oI g = some x ∧ ∃ cs, Whole1 w g 3 cs := fun g hg => by
    cases ha : atV mi (.string x.value) with
    | none => rw [ha] at hu; rw [← hu] at hg; cases hg
    | some u' =>
      rw [ha] at hu
      simp only [Option.getD_some] at hu
      subst hu
      obtain ⟨_, q1, q2⟩ := hI.hit _ _ ((hat _).trans ha)
      refine ⟨(q1.lt g hg).2, q2 g hg, ?_⟩
      rcases q1.2 with ⟨h1, _⟩ | ⟨g', cap, cur, h1, h2, h3, _⟩
      · rw [h1] at hg; cases hg
      · rw [h1] at hg; cases hg; exact ⟨cur, h3⟩
  have hb2 : ∀ b m, MapV IsStr w b m → MapV IsStr w2 b m := fun b m hm => by
    have hm1 : MapV IsStr w1 b m := hm.kept (hb1.block b hm.lt)
    refine hm1.kept (hg2.block b hm1.lt fun e => ?_)
    obtain ⟨q1, _, cs, q3⟩ := hug b e.symm
    exact map_off hm q3 rfl
  have hb3 : ∀ b m, MapV IsStr w b m → b ≠ bi → MapV IsStr w3 b m := fun b m hm hne => by
    have hm2 := hb2 b m hm
    exact hm2.kept (hg3.block b hm2.lt (by simpa using hne))
  have hrow : ∀ (y : Lbl) (z : Value) (j : Nat) (xs : List Value), y ≠ x → w.ownsRow base 3 1 z j xs → (∀ g, z.ownBlock = some g → oI g = some y) → w3.ownsRow base 3 1 z j xs ∧ ∀ g, z.ownBlock = some g → v'.ownBlock ≠ some g := fun y z j xs hne q1 q2 => by
    have off : ∀ g, z.ownBlock = some g → u.ownBlock ≠ some g := fun g hg hu => by
      have q3 := (hug g hu).2.1
      rw [q2 g hg] at q3
      exact hne (Option.some.inj q3)
    have r1 : w1.ownsRow base 3 1 z j xs := own_below q1 hb1 (Nat.le_refl _)
    have r2 : w2.ownsRow base 3 1 z j xs := by
      refine r1.kept hg2 ?_
      cases hz : z.ownBlock with
      | none => exact .inl rfl
      | some g => exact .inr fun e => off g hz e.symm
    have r3 : w3.ownsRow base 3 1 z j xs := (Turn.of_map (base := 0) (ts := []) (hb2 _ _ hmi) (Nat.zero_le _) hg3).own r2 (.inl (by simp))
    refine ⟨r3, fun g hg e => ?_⟩
    rcases hv with hv | hv
    · rw [hv] at e
      exact off g hg e
    · rw [hv] at e
      cases e
      have := (q1.lt _ hg).2
      have := hb1.size
      omega
  have hown3 : w3.ownsRow base 3 1 v' k ((ixs G x ++ [n]).map (Value.int .i64)) := (Turn.of_map (base := 0) (ts := []) (hb2 _ _ hmi) (Nat.zero_le _) hg3).own hown (.inl (by simp))
  refine ⟨hb3 bl ml h.map (Ne.symm hbne), h.old, h.miss, fun nm v hv' => ?_, fun y hy => ?_⟩
  · by_cases e : nm = x.name
    · subst e
      rw [ho] at hv'
      cases hv'
      refine ⟨hNx, bi, _, rfl, hbi, hbne, hoM, hst, fun vl hn y hy => ?_, fun vl z hz => ?_⟩
      · by_cases ev : vl = x.value
        · subst ev; rw [atV_put_same] at hn; cases hn
        · rw [atV_put_other _ _ _ (by simpa using ev), ← hat] at hn
          rcases List.mem_append.1 hy with hy | hy
          · exact hI.miss vl hn y hy
          · simp at hy
            rw [hy]
            intro e
            exact ev (by rw [show x = (⟨x.name, vl⟩ : Lbl) from e])
      · by_cases ev : vl = x.value
        · subst ev
          rw [atV_put_same] at hz
          cases hz
          refine ⟨⟨(n, x), by simp, rfl⟩, ?_, fun g hg => by rw [if_pos hg]⟩
          show w3.ownsRow base 3 1 v' (ixs (G ++ [(n, x)]) x).length ((ixs (G ++ [(n, x)]) x).map (Value.int .i64))
          rw [ixs_same, List.length_append, List.length_singleton, ← hk]
          exact hown3
        · rw [atV_put_other _ _ _ (by simpa using ev), ← hat] at hz
          obtain ⟨⟨y, hy, q0⟩, q1, q2⟩ := hI.hit vl z hz
          have hne : (⟨x.name, vl⟩ : Lbl) ≠ x := fun e => ev (by rw [← e])
          obtain ⟨r1, r2⟩ := hrow ⟨x.name, vl⟩ z _ _ hne q1 q2
          refine ⟨⟨y, List.mem_append_left _ hy, q0⟩, ?_, fun g hg => by rw [if_neg (r2 g hg)]; exact q2 g hg⟩
          rw [ixs_other _ _ (Ne.symm hne)]
          exact r1
    · obtain ⟨k1, bj, mj, k2, k3, k4, k5, k6, k7⟩ := h.hit nm v hv'
      have hne : bj ≠ bi := fun e1 => by
        rw [e1, hoM] at k5
        exact e (Option.some.inj k5).symm
      refine ⟨k1, bj, mj, k2, k3, k4, k5, hb3 bj mj k6 hne, fun vl hn y hy => ?_, fun vl z hz => ?_⟩
      · rcases List.mem_append.1 hy with hy | hy
        · exact k7.miss vl hn y hy
        · simp at hy
          rw [hy]
          intro e2
          exact e (by rw [show x = (⟨nm, vl⟩ : Lbl) from e2])
      · obtain ⟨⟨y, hy, q0⟩, q1, q2⟩ := k7.hit vl z hz
        have hne : (⟨nm, vl⟩ : Lbl) ≠ x := fun e2 => e (by rw [← e2])
        obtain ⟨r1, r2⟩ := hrow ⟨nm, vl⟩ z _ _ hne q1 q2
        refine ⟨⟨y, List.mem_append_left _ hy, q0⟩, ?_, fun g hg => by rw [if_neg (r2 g hg)]; exact q2 g hg⟩
        rw [ixs_other _ _ (Ne.symm hne)]
        exact r1
  · rcases List.mem_append.1 hy with hy | hy
    · exact h.all y hy
    · simp at hy
      rw [hy]
      exact hNx
end Go.Proofs.YthncochjhbmceaaGreat
