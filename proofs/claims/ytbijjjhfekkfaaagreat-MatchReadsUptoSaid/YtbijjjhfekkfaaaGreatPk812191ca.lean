/- Comparing labels, plainly. No condition. strings.Compare, labels.Compare: what they return. Condition: the lists are not too long. almanacref04.Compare: the order of two lists of labels. Condition: the lists are not too long. -/
import Derived.Test.YtbijjjhfekkfaaaGreatPkc787b734
import Derived.Lib.Bytealg
import Derived.Sort.Statements
import Derived.Test.YtbijjjhfekkfaaaGreatBase
import Derived.Shelf.Small.Strs
import Derived.Deep.RegionHeld3
namespace Go.Proofs.YtbijjjhfekkfaaaGreat
set_option maxRecDepth 100000
open Go.RowKit Go.Sort

def cmpB (a b : ByteArray) : Int := Lib.compareBytes a.data.toList b.data.toList
theorem cmpBytes_cases : ∀ (a b : List UInt8), (Op.bytesLess a b = true ∧ Op.bytesLess b a = false ∧ a ≠ b ∧ Lib.compareBytes a b = -1) ∨ (a = b ∧ Op.bytesLess a b = false ∧ Lib.compareBytes a b = 0) ∨ (Op.bytesLess b a = true ∧ Op.bytesLess a b = false ∧ a ≠ b ∧ Lib.compareBytes a b = 1)
  | [], [] => .inr (.inl ⟨rfl, rfl, rfl⟩)
  | [], _ :: _ => .inl ⟨rfl, rfl, by simp, rfl⟩
  | _ :: _, [] => .inr (.inr ⟨rfl, rfl, by simp, rfl⟩)
  | x :: a, y :: b => by
    rcases Nat.lt_trichotomy x.toNat y.toNat with h | h | h
    · have h1 : x < y := UInt8.lt_iff_toNat_lt.2 h
      have h2 : ¬ y < x := fun h3 => by have := UInt8.lt_iff_toNat_lt.1 h3; omega
      have h3 : ¬ y = x := fun e => by rw [e] at h; omega
      refine .inl ⟨by simp [Op.bytesLess, h1], by simp [Op.bytesLess, h2, h3], fun e => h3 (by injection e with e _; exact e.symm), by simp [Lib.compareBytes, h1]⟩
    · have h1 : x = y := UInt8.toNat_inj.1 h
      subst h1
      have h2 : ¬ x < x := UInt8.lt_irrefl x
      rcases cmpBytes_cases a b with ⟨c1, c2, c3, c4⟩ | ⟨c1, c2, c3⟩ | ⟨c1, c2, c3, c4⟩
      · exact .inl ⟨by simp [Op.bytesLess, c1], by simp [Op.bytesLess, c2], by simpa using c3, by simp [Lib.compareBytes, c4]⟩
      · exact .inr (.inl ⟨by rw [c1], by simp [Op.bytesLess, c2], by simp [Lib.compareBytes, c3]⟩)
      · exact .inr (.inr ⟨by simp [Op.bytesLess, c1], by simp [Op.bytesLess, c2], by simpa using c3, by simp [Lib.compareBytes, c4]⟩)
    · have h1 : y < x := UInt8.lt_iff_toNat_lt.2 h
      have h2 : ¬ x < y := fun h3 => by have := UInt8.lt_iff_toNat_lt.1 h3; omega
      have h3 : ¬ x = y := fun e => by rw [e] at h; omega
      exact .inr (.inr ⟨by simp [Op.bytesLess, h1], by simp [Op.bytesLess, h2, h3], fun e => h3 (by injection e), by simp [Lib.compareBytes, h1, h2]⟩)
theorem bytes_eq {a b : ByteArray} (h : a.data.toList = b.data.toList) : a = b := by
  cases a; cases b
  congr
  exact Array.toList_inj.1 h
theorem bl_trans : ∀ (a b c : List UInt8), Op.bytesLess a b = true → Op.bytesLess b c = true → Op.bytesLess a c = true
  | _, _, [], _, h => by simp [Op.bytesLess] at h
  | _, [], _ :: _, h, _ => by simp [Op.bytesLess] at h
  | [], _ :: _, _ :: _, _, _ => rfl
  | x :: a, y :: b, z :: c, h1, h2 => by
    simp only [Op.bytesLess, Bool.or_eq_true, decide_eq_true_eq, Bool.and_eq_true, beq_iff_eq] at h1 h2 ⊢
    rcases h1 with h1 | ⟨rfl, h1⟩
    · rcases h2 with h2 | ⟨rfl, h2⟩
      · exact .inl (UInt8.lt_trans h1 h2)
      · exact .inl h1
    · rcases h2 with h2 | ⟨rfl, h2⟩
      · exact .inl h2
      · exact .inr ⟨rfl, bl_trans a b c h1 h2⟩

/-- one label against another -/
def cmpLb (x y : Lbl) : Int := if cmpB x.name y.name ≠ 0 then cmpB x.name y.name else cmpB x.value y.value
/-- a list of labels against another -/
def cmpLs : List Lbl → List Lbl → Int
  | [], [] => 0
  | [], _ :: _ => -1
  | _ :: _, [] => 1
  | x :: r, y :: s => if cmpLb x y ≠ 0 then cmpLb x y else cmpLs r s

/-- Three-way comparisons that are orders. -/
structure Tri {α : Type} (f : α → α → Int) : Prop where
  range : ∀ x y, f x y = -1 ∨ f x y = 0 ∨ f x y = 1
  turn : ∀ x y, f y x = - f x y
  zero : ∀ x y, f x y = 0 ↔ x = y
  trans : ∀ x y z, f x y = -1 → f y z = -1 → f x z = -1
theorem Tri.swo {α : Type} {f : α → α → Int} (h : Tri f) : SWO fun x y => decide (f x y < 0) where
  irrefl x := by simp [(h.zero x x).2 rfl]
  trans x y z h1 h2 := by
    simp only [decide_eq_true_eq] at *
    have a := h.range x y
    have b := h.range y z
    have := h.trans x y z (by omega) (by omega)
    omega
  ntrans x y z h1 h2 := by
    simp only [decide_eq_false_iff_not] at *
    intro h3
    have a := h.range x y
    have b := h.range y z
    have c := h.range x z
    have t1 := h.turn x y
    have t2 := h.turn y z
    have t3 := h.turn x z
    rcases a with a | a | a
    · omega
    · have e := (h.zero x y).1 a
      subst e
      omega
    · rcases b with b | b | b
      · omega
      · have e := (h.zero y z).1 b
        subst e
        omega
      · have := h.trans z y x (by omega) (by omega)
        omega
theorem tri_bytes : Tri Lib.compareBytes where
  range x y := by rcases cmpBytes_cases x y with ⟨_, _, _, h⟩ | ⟨_, _, h⟩ | ⟨_, _, _, h⟩ <;> rw [h] <;> simp
  turn x y := by
    rcases cmpBytes_cases x y with ⟨a, b, c, h⟩ | ⟨a, b, h⟩ | ⟨a, b, c, h⟩ <;> rcases cmpBytes_cases y x with ⟨a', b', c', h'⟩ | ⟨a', b', h'⟩ | ⟨a', b', c', h'⟩ <;> rw [h, h'] <;> simp_all
  zero x y := by
    rcases cmpBytes_cases x y with ⟨a, b, c, h⟩ | ⟨a, b, h⟩ | ⟨a, b, c, h⟩ <;> rw [h] <;> simp_all
  trans x y z h1 h2 := by
    rcases cmpBytes_cases x y with ⟨a, b, c, h⟩ | ⟨a, b, h⟩ | ⟨a, b, c, h⟩ <;> rw [h] at h1 <;> simp at h1
    rcases cmpBytes_cases y z with ⟨a', b', c', h'⟩ | ⟨a', b', h'⟩ | ⟨a', b', c', h'⟩ <;> rw [h'] at h2 <;> simp at h2
    have t := bl_trans x y z a a'
    rcases cmpBytes_cases x z with ⟨_, _, _, h''⟩ | ⟨_, e, _⟩ | ⟨_, e, _, _⟩
    · exact h''
    · rw [t] at e; cases e
    · rw [t] at e; cases e
theorem tri_B : Tri cmpB where
  range x y := tri_bytes.range _ _
  turn x y := tri_bytes.turn _ _
  zero x y := ⟨fun h => bytes_eq ((tri_bytes.zero _ _).1 h), fun h => by rw [h]; exact (tri_bytes.zero _ _).2 rfl⟩
  trans x y z := tri_bytes.trans _ _ _
theorem tri_Lb : Tri cmpLb where
  range x y := by
    unfold cmpLb
    split
    · exact tri_B.range _ _
    · exact tri_B.range _ _
  turn x y := by
    unfold cmpLb
    rw [tri_B.turn x.name y.name, tri_B.turn x.value y.value]
    by_cases h : cmpB x.name y.name = 0
    · simp [h]
    · rw [if_pos h, if_pos (by omega)]
  zero x y := by
    unfold cmpLb
    constructor
    · intro h
      by_cases h1 : cmpB x.name y.name = 0
      · rw [if_neg (by omega)] at h
        have e1 := (tri_B.zero _ _).1 h1
        have e2 := (tri_B.zero _ _).1 h
        cases x; cases y
        simp only at e1 e2
        rw [e1, e2]
      · rw [if_pos h1] at h
        exact absurd h h1
    · rintro rfl
      rw [(tri_B.zero x.name x.name).2 rfl, (tri_B.zero x.value x.value).2 rfl]; rfl
  trans x y z h1 h2 := by
    unfold cmpLb at *
    by_cases a : cmpB x.name y.name = 0
    · rw [if_neg (by omega)] at h1
      have e := (tri_B.zero _ _).1 a
      rw [e]
      by_cases b : cmpB y.name z.name = 0
      · rw [if_neg (by omega)] at h2 ⊢
        exact tri_B.trans _ _ _ h1 h2
      · rw [if_pos b] at h2 ⊢
        exact h2
    · rw [if_pos a] at h1
      by_cases b : cmpB y.name z.name = 0
      · have e := (tri_B.zero _ _).1 b
        rw [← e, if_pos a]
        exact h1
      · rw [if_pos b] at h2
        have := tri_B.trans _ _ _ h1 h2
        rw [if_pos (by omega)]
        exact this
theorem cmpLs_range : ∀ x y : List Lbl, cmpLs x y = -1 ∨ cmpLs x y = 0 ∨ cmpLs x y = 1
  | [], [] => by simp [cmpLs]
  | [], _ :: _ => by simp [cmpLs]
  | _ :: _, [] => by simp [cmpLs]
  | x :: r, y :: s => by
    rw [cmpLs]
    split
    · exact tri_Lb.range _ _
    · exact cmpLs_range r s
theorem cmpLs_turn : ∀ x y : List Lbl, cmpLs y x = - cmpLs x y
  | [], [] => rfl
  | [], _ :: _ => rfl
  | _ :: _, [] => rfl
  | x :: r, y :: s => by
    rw [cmpLs, cmpLs, tri_Lb.turn x y, cmpLs_turn r s]
    by_cases h : cmpLb x y = 0
    · simp [h]
    · rw [if_pos h, if_pos (by omega)]
theorem cmpLs_zero : ∀ x y : List Lbl, cmpLs x y = 0 ↔ x = y
  | [], [] => by simp [cmpLs]
  | [], _ :: _ => by simp [cmpLs]
  | _ :: _, [] => by simp [cmpLs]
  | x :: r, y :: s => by
    rw [cmpLs]
    constructor
    · intro h
      by_cases h1 : cmpLb x y = 0
      · rw [if_neg (by omega)] at h
        rw [(tri_Lb.zero _ _).1 h1, (cmpLs_zero r s).1 h]
      · rw [if_pos h1] at h
        exact absurd h h1
    · intro h
      injection h with h1 h2
      subst h1 h2
      rw [(tri_Lb.zero x x).2 rfl, (cmpLs_zero r r).2 rfl]; rfl
theorem cmpLs_trans : ∀ x y z : List Lbl, cmpLs x y = -1 → cmpLs y z = -1 → cmpLs x z = -1
  | _, _, [], _, h => by
    rename_i x y _
    cases y <;> simp [cmpLs] at h
  | _, [], _ :: _, h, _ => by
    rename_i x _ _ _
    cases x <;> simp [cmpLs] at h
  | [], _ :: _, _ :: _, _, _ => rfl
  | x :: r, y :: s, z :: t, h1, h2 => by
    rw [cmpLs] at *
    by_cases a : cmpLb x y = 0
    · rw [if_neg (by omega)] at h1
      have e := (tri_Lb.zero _ _).1 a
      rw [e]
      by_cases b : cmpLb y z = 0
      · rw [if_neg (by omega)] at h2 ⊢
        exact cmpLs_trans _ _ _ h1 h2
      · rw [if_pos b] at h2 ⊢
        exact h2
    · rw [if_pos a] at h1
      by_cases b : cmpLb y z = 0
      · have e := (tri_Lb.zero _ _).1 b
        rw [← e, if_pos a]
        exact h1
      · rw [if_pos b] at h2
        have := tri_Lb.trans _ _ _ h1 h2
        rw [if_pos (by omega)]
        exact this
theorem tri_Ls : Tri cmpLs where
  range := cmpLs_range
  turn := cmpLs_turn
  zero := cmpLs_zero
  trans := cmpLs_trans
end Go.Proofs.YtbijjjhfekkfaaaGreat

namespace Go.Proofs.YtbijjjhfekkfaaaGreat
set_option maxRecDepth 100000
open Go.RowKit Go.Shelf

set_option maxHeartbeats 1000000 in
theorem bcompare_any (a b : ByteArray) (w : World) : Calls Tryz.prog 210 #[.string a, .string b] w fun e w' => e = .returned (.int .i64 (cmpB a b)) ∧ w = w' := by
  go_enter Tryz.func210, Tryz.ntmps210
  go_wp2
  rw [run_callFunc_extern Tryz.func255 (by kernel_rfl) (by kernel_rfl) (by kernel_rfl) (e := Extern.BytealgCompare.compare) (by kernel_rfl), Lib.run_compareString]
  simp only [Result.andThen]
  rw [Oper.upon_value]
  go_wp2
  go_ret
  exact ⟨rfl, rfl⟩
theorem scompare_any (a b : ByteArray) (w : World) : Calls Tryz.prog 141 #[.string a, .string b] w fun e w' => e = .returned (.int .i64 (cmpB a b)) ∧ w = w' := by
  go_enter Tryz.func141, Tryz.ntmps141
  go_wp2_with fail
  refine (bcompare_any a b _).mono ?_
  rintro e w' ⟨rfl, rfl⟩
  go_wp2
  go_ret
  exact ⟨rfl, rfl⟩
theorem byName_any (x y : Lbl) (w : World) : Calls Tryz.prog 140 #[.agg #[.string x.name, .string x.value], .agg #[.string y.name, .string y.value]] w fun e w' => e = .returned (.int .i64 (cmpB x.name y.name)) ∧ Gr w w' := by
  go_enter Tryz.func140, Tryz.ntmps140
  go_wp2_with fail
  refine (scompare_any x.name y.name _).mono ?_
  rintro e w' ⟨rfl, rfl⟩
  go_wp2
  go_ret
  exact ⟨rfl, ((Gr.refl _).alloc _).alloc _⟩

/-! cmp.Or of two -/
def or2 (x y : Int) : Int := if x ≠ 0 then x else y
set_option maxHeartbeats 1600000 in
theorem or2_any (x y : Int) (g : Nat) (w : World) (h0 : w.cell? ⟨g, 0, none⟩ = some (.int .i64 x)) (h1 : w.cell? ⟨g, 1, none⟩ = some (.int .i64 y)) :
    Calls Tryz.prog 139 #[.slice (some ⟨g, 0, none⟩) 2 2] w fun e w' => e = .returned (.int .i64 (or2 x y)) ∧ w = w' := by
  by_cases hx : x = 0
  · subst hx
    by_cases hy : y = 0
    · subst hy
      have n1 : (((0 : Int) != 0) : Bool) = false := rfl
      go_enter Tryz.func139, Tryz.ntmps139
      go_wp2_with fail
      refine wp_loop_rounds 3 ?_
      rw [rounds_succ]
      go_wp2_with fail
      rw [rounds_succ]
      go_wp2_with fail
      rw [rounds_succ]
      go_wp2_with fail
      go_ret
      exact ⟨rfl, rfl⟩
    · have n1 : (((0 : Int) != 0) : Bool) = false := rfl
      have n2 : ((y != 0) : Bool) = true := by simpa using hy
      have ho := hidden (show or2 0 y = y from rfl)
      clear hy
      go_enter Tryz.func139, Tryz.ntmps139
      go_wp2_with fail
      refine wp_loop_rounds 3 ?_
      rw [rounds_succ]
      go_wp2_with fail
      rw [rounds_succ]
      go_wp2_with fail
      go_ret
      exact ⟨ret_int ho.out.symm, rfl⟩
  · have n2 : ((x != 0) : Bool) = true := by simpa using hx
    have ho := hidden (show or2 x y = x from if_pos hx)
    clear hx
    go_enter Tryz.func139, Tryz.ntmps139
    go_wp2_with fail
    refine wp_loop_rounds 3 ?_
    rw [rounds_succ]
    go_wp2_with fail
    go_ret
    exact ⟨ret_int ho.out.symm, rfl⟩

set_option maxHeartbeats 3200000 in
theorem cmpLb_any (x y : Lbl) (w : World) : Calls Tryz.prog 138 #[.agg #[.string x.name, .string x.value], .agg #[.string y.name, .string y.value]] w fun e w' => e = .returned (.int .i64 (cmpLb x y)) ∧ Gr w w' := by
  go_enter Tryz.func138, Tryz.ntmps138
  go_wp2_with fail
  have hX := (Whole1.new w 114 #[.string x.name, .string x.value]).alloc (.cells #[.string y.name, .string y.value] 114)
  have hY := Whole1.new (w.alloc (.cells #[.string x.name, .string x.value] 114)) 114 #[.string y.name, .string y.value]
  rw [World.size_alloc] at hY
  have hG : Gr w ((w.alloc (.cells #[.string x.name, .string x.value] 114)).alloc (.cells #[.string y.name, .string y.value] 114)) := ((Gr.refl _).alloc _).alloc _
  generalize (w.alloc (.cells #[.string x.name, .string x.value] 114)).alloc (.cells #[.string y.name, .string y.value] 114) = w2 at hX hY hG ⊢
  obtain ⟨X, hXe⟩ : ∃ X, w.heap.size = X := ⟨_, rfl⟩
  rw [hXe] at hX hY ⊢
  have x0 : w2.cell? ⟨X, 0, none⟩ = some (.string x.name) := hX.cell 0
  have x1 : w2.cell? ⟨X, 1, none⟩ = some (.string x.value) := hX.cell 1
  have y0 : w2.cell? ⟨X + 1, 0, none⟩ = some (.string y.name) := hY.cell 0
  have y1 : w2.cell? ⟨X + 1, 1, none⟩ = some (.string y.value) := hY.cell 1
  have hXl := hX.lt
  have hYl := hY.lt
  have HG := hidden hG
  clear hX hY hG hXe
  go_cut [4] (fun v wx => v = .int .i64 (or2 (cmpB x.name y.name) (cmpB x.value y.value)) ∧ Gr w2 wx)
  case first =>
    have hg0 : Gr w2 w2.drew := (Gr.refl _).drew
    go_region_held3 (fun w' => w'.cell? ⟨X, 0, none⟩ = some (.string x.name) ∧ w'.cell? ⟨X, 1, none⟩ = some (.string x.value) ∧ w'.cell? ⟨X + 1, 0, none⟩ = some (.string y.name) ∧ w'.cell? ⟨X + 1, 1, none⟩ = some (.string y.value) ∧ Gr w2 w') ((go_split_ands; refine ⟨?_, ?_, ?_, ?_, ?_⟩ <;> first | assumption | (refine gr_cell (by assumption) ?_; assumption) | (refine Gr.trans ?_ (by assumption); assumption) | (refine gr_alloc_cell _ ?_; assumption) | (refine Gr.alloc ?_ _; assumption)))
      (first | (go_at_call 140; refine (byName_any x y _).mono ?_; rintro e w' ⟨rfl, hGn⟩) | (go_at_call 141; refine (scompare_any _ _ _).mono ?_; rintro e w' ⟨rfl, rfl⟩) | (go_at_call 139; refine (or2_any (cmpB x.name y.name) (cmpB x.value y.value) _ _ ((Whole1.new _ _ _).cell 0) ((Whole1.new _ _ _).cell 1)).mono ?_; rintro e w' ⟨rfl, rfl⟩))
    all_goals
      go_wp2_with fail
      go_meet
      exact ⟨rfl, (hg0.trans (by assumption)).alloc _⟩
  case rest =>
    obtain ⟨rfl, hG2⟩ := hcut
    go_wp2_with fail
    go_ret
    exact ⟨rfl, HG.out.trans hG2⟩

theorem drop_at {α : Type} {l : List α} {k : Nat} {x : α} (h : l[k]? = some x) : l.drop k = x :: l.drop (k + 1) := by
  obtain ⟨h1, h2⟩ := List.getElem?_eq_some_iff.1 h
  rw [List.drop_eq_getElem_cons h1, h2]

set_option maxHeartbeats 3200000 in
theorem compareF_any (A B : Option Addr) (n m c c2 : Nat) (l l2 : List Lbl) (w : World) (b1 b2 : Nat) (hr : Row w b1 2 A n (lblCells l)) (hr2 : Row w b2 2 B m (lblCells l2)) (hb1 : b1 ≤ w.heap.size) (hb2 : b2 ≤ w.heap.size) (hl : l.length = n) (hl2 : l2.length = m) (hn : n ≤ 4611686018427387904) (_hm : m ≤ 4611686018427387904) :
    Calls Tryz.prog 137 #[.slice A n c, .slice B m c2, .func (.func 138) #[] #[]] w fun e w' => e = .returned (.int .i64 (cmpLs l l2)) ∧ Gr w w' := by
  have hL := hidden hl
  have hM := hidden hl2
  have HR := hidden hr
  have HR2 := hidden hr2
  clear hl hl2 hr hr2
  go_enter Tryz.func137, Tryz.ntmps137
  go_wp2
  go_loopw [13] (fun i wr => ∃ k : Nat, i = .int .i64 k ∧ k ≤ n ∧ k ≤ m ∧ Hid (cmpLs (l.drop k) (l2.drop k) = cmpLs l l2) ∧ Gr w wr) (fun i _ => n - (intOf i).toNat)
  case atStart => exact ⟨0, rfl, Nat.zero_le _, Nat.zero_le _, hidden (by simp), Gr.refl _⟩
  case round =>
    obtain ⟨k, rfl, hkn, hkm, hgo, hG⟩ := hrel
    have hBw := hG.below
    by_cases hlt : k < n
    · obtain ⟨gs, o, rfl, _, x, hx, d0, d1⟩ := lbl_cells_at (HR.out.more hb1) hL.out hBw k hlt
      have hkz : (k : Int) < (n : Int) := by omega
      have hk0 : (0 : Int) ≤ (k : Int) := by omega
      by_cases hlm : k < m
      · obtain ⟨gt, p, rfl, _, y, hy, e0, e1⟩ := lbl_cells_at (HR2.out.more hb2) hM.out hBw k hlm
        have hmz : ¬ (m : Int) ≤ (k : Int) := by omega
        have hmz2 : (k : Int) < (m : Int) := by omega
        have hst := hgo.out
        rw [drop_at hx, drop_at hy, cmpLs] at hst
        have HST := hidden hst
        have hXl := World.block_lt_of_cell? wr _ e0
        have hXl2 : gt < wr.heap.size := hXl
        have hne : gt ≠ wr.heap.size := by omega
        have e0a := gr_alloc_cell (.cells #[.string x.name, .string x.value] 114) e0
        have e1a := gr_alloc_cell (.cells #[.string x.name, .string x.value] 114) e1
        clear hst hx hy hgo
        go_wp2_with fail
        refine (cmpLb_any x y _).mono ?_
        rintro e w1 ⟨rfl, hG1⟩
        have hG2 := ((hG.alloc _).alloc _).trans hG1
        obtain ⟨c0, hc0⟩ : ∃ c0, cmpLb x y = c0 := ⟨_, rfl⟩
        have hst := HST.out
        rw [hc0] at hst ⊢
        clear d0 d1 e0 e1 e0a e1a hG1 hc0 HST
        by_cases hz : c0 = 0
        · subst hz
          have t1 : (((0 : Int) != 0) : Bool) = false := rfl
          rw [if_neg (by simp)] at hst
          have HST := hidden hst
          clear hst
          go_wp2_with fail
          go_roundw
          case rel => exact ⟨k + 1, by go_num, by omega, by omega, HST, hG2⟩
          case measure => simp [intOf]; omega
        · have t1 : ((c0 != 0) : Bool) = true := by simpa using hz
          rw [if_pos hz] at hst
          have HST := hidden hst
          clear hst hz
          go_wp2_with fail
          go_ret
          exact ⟨ret_int HST.out, hG2⟩
      · have hmz : (m : Int) ≤ (k : Int) := by omega
        have hst := hgo.out
        rw [drop_at hx, List.drop_eq_nil_of_le (show l2.length ≤ k by rw [hM.out]; omega)] at hst
        have HST := hidden (show 1 = cmpLs l l2 from hst)
        clear hst hx hgo
        go_wp2_with fail
        go_ret
        exact ⟨ret_int HST.out, hG.alloc _⟩
    · obtain rfl : k = n := by omega
      have hkz : ¬ (k : Int) < (k : Int) := by omega
      have hst := hgo.out
      rw [List.drop_eq_nil_of_le (by rw [hL.out]; exact Nat.le_refl _)] at hst
      by_cases hlm : k < m
      · have hmz : (k : Int) < (m : Int) := by omega
        have hd : l2.drop k = l2[k]'(by rw [hM.out]; exact hlm) :: l2.drop (k + 1) := List.drop_eq_getElem_cons _
        rw [hd] at hst
        have HST := hidden (show -1 = cmpLs l l2 from hst)
        clear hst hgo hd
        go_wp2_with fail
        go_ret
        exact ⟨ret_int HST.out, hG⟩
      · have hmz : ¬ (k : Int) < (m : Int) := by omega
        rw [List.drop_eq_nil_of_le (show l2.length ≤ k by rw [hM.out]; omega)] at hst
        have HST := hidden (show 0 = cmpLs l l2 from hst)
        clear hst hgo
        go_wp2_with fail
        go_ret
        exact ⟨ret_int HST.out, hG⟩

/-- labels.Compare -/
theorem lcompare_any (A B : Option Addr) (n m c c2 : Nat) (l l2 : List Lbl) (w : World) (b1 b2 : Nat) (hr : Row w b1 2 A n (lblCells l)) (hr2 : Row w b2 2 B m (lblCells l2)) (hb1 : b1 ≤ w.heap.size) (hb2 : b2 ≤ w.heap.size) (hl : l.length = n) (hl2 : l2.length = m) (hn : n ≤ 4611686018427387904) (hm : m ≤ 4611686018427387904) :
    Calls Tryz.prog 68 #[.slice A n c, .slice B m c2] w fun e w' => e = .returned (.int .i64 (cmpLs l l2)) ∧ Gr w w' := by
  have hcon := hidden (compareF_any A B n m c c2 l l2 w b1 b2 hr hr2 hb1 hb2 hl hl2 hn hm)
  clear hr hr2 hl hl2
  go_enter Tryz.func68, Tryz.ntmps68
  go_wp2_with fail
  refine hcon.out.mono ?_
  rintro e w' ⟨rfl, hG⟩
  go_wp2
  go_ret
  exact ⟨rfl, hG⟩
end Go.Proofs.YtbijjjhfekkfaaaGreat

namespace Go.Proofs.YtbijjjhfekkfaaaGreat
set_option maxRecDepth 100000
open Go.RowKit Go.Shelf

/-- how one string stands to another, in the walk's spelling -/
theorem str_cases (a b : ByteArray) : (Op.bytesLess a.toList b.toList = true ∧ Op.bytesLess b.toList a.toList = false ∧ cmpB a b = -1) ∨ (a = b ∧ Op.bytesLess a.toList b.toList = false ∧ Op.bytesLess b.toList a.toList = false ∧ cmpB a b = 0) ∨ (Op.bytesLess b.toList a.toList = true ∧ Op.bytesLess a.toList b.toList = false ∧ (a.toList == b.toList) = false ∧ cmpB a b = 1) := by
  have := cmpBytes_cases a.data.toList b.data.toList
  rw [Lib.toList_data, Lib.toList_data]
  rcases this with ⟨h1, h2, _, h4⟩ | ⟨h1, h2, h3⟩ | ⟨h1, h2, h5, h4⟩
  · exact .inl ⟨h1, h2, h4⟩
  · exact .inr (.inl ⟨bytes_eq h1, h2, by rw [← h1] at h2 ⊢; exact h2, h3⟩)
  · exact .inr (.inr ⟨h1, h2, by simpa using h5, h4⟩)
theorem cmpLs_at {l l2 : List Lbl} {k : Nat} {x y : Lbl} (h : cmpLs l l2 = cmpLs (l.drop k) (l2.drop k)) (hx : l[k]? = some x) (hy : l2[k]? = some y) : cmpLs l l2 = if cmpLb x y ≠ 0 then cmpLb x y else cmpLs (l.drop (k + 1)) (l2.drop (k + 1)) := by
  rw [h, drop_at hx, drop_at hy]; rfl

set_option maxHeartbeats 6400000 in
theorem rcompare_any (A B : Option Addr) (n m c1 c2 : Nat) (l l2 : List Lbl) (w : World) (b1 b2 : Nat) (hr : Row w b1 2 A n (lblCells l)) (hr2 : Row w b2 2 B m (lblCells l2)) (hl : l.length = n) (hl2 : l2.length = m) (hn : n ≤ 4611686018427387904) :
    Calls Tryz.prog 63 #[.slice A n c1, .slice B m c2] w fun e w' => e = .returned (.int .i64 (cmpLs l l2)) ∧ ∃ q, w' = w.drewN q := by
  have hL := hidden hl
  have hL2 := hidden hl2
  clear hl hl2
  go_enter Tryz.func63, Tryz.ntmps63
  go_wp2
  go_loopw [5] (fun i wr => ∃ k : Nat, k ≤ n ∧ k ≤ m ∧ i = .int .i64 k ∧ Hid (cmpLs l l2 = cmpLs (l.drop k) (l2.drop k)) ∧ ∃ q, wr = w.drewN q) (fun i _ => n - (intOf i).toNat)
  case atStart => exact ⟨0, Nat.zero_le _, Nat.zero_le _, rfl, hidden rfl, 0, rfl⟩
  case round =>
    obtain ⟨k, hk, hkm, rfl, hcm, q, rfl⟩ := hrel
    by_cases hlt : k < n ∧ k < m
    · obtain ⟨gs, o, rfl, _, x, hx, d0, d1⟩ := lbl_cells_at hr hL.out (Below.refl b1 w) k hlt.1
      obtain ⟨gt, p, rfl, _, y, hy, e0, e1⟩ := lbl_cells_at hr2 hL2.out (Below.refl b2 w) k hlt.2
      have hat := hidden (cmpLs_at hcm.out hx hy)
      obtain ⟨x0, x1⟩ := x
      obtain ⟨y0, y1⟩ := y
      simp only at d0 d1 e0 e1
      have h1 : (k : Int) < (n : Int) := by omega
      have h2 : (k : Int) < (m : Int) := by omega
      have hk0 : (0 : Int) ≤ (k : Int) := by omega
      have hkb : k < 4611686018427387904 := by omega
      have hmea : n - (k + 1) < n - k := by omega
      have hk1 : k + 1 ≤ n ∧ k + 1 ≤ m := by omega
      clear hx hy hr hr2 hcm hlt
      rcases str_cases x0 y0 with ⟨a1, a2, a3⟩ | ⟨rfl, a1, a2, a3⟩ | ⟨a1, a2, a4, a3⟩
      · have hf : Hid (cmpLs l l2 = -1) := hidden (by rw [hat.out]; unfold cmpLb; simp [a3])
        have HA := hidden a3
        clear a3 hat
        go_wp2_with fail
        go_quiet (fail)
        go_wp2_with fail
        go_ret
        exact ⟨ret_int hf.out.symm, _, World.drewN_drewN _ _ _⟩
      · rcases str_cases x1 y1 with ⟨c1, c2, c3⟩ | ⟨rfl, c1, c2, c3⟩ | ⟨c1, c2, c4, c3⟩
        · have hf : Hid (cmpLs l l2 = -1) := hidden (by rw [hat.out]; unfold cmpLb; simp [a3, c3])
          clear a3 c3 hat
          go_wp2_with fail
          go_quiet (fail)
          go_wp2_with fail
          go_quiet (fail)
          go_wp2_with fail
          go_quiet (fail)
          go_wp2_with fail
          go_ret
          exact ⟨ret_int hf.out.symm, by first | exact ⟨_, rfl⟩ | (simp only [World.drewN_drewN]; exact ⟨_, rfl⟩)⟩
        · have hf : Hid (cmpLs l l2 = cmpLs (l.drop (k + 1)) (l2.drop (k + 1))) := hidden (by rw [hat.out]; unfold cmpLb; simp [a3, c3])
          clear a3 c3 hat
          go_wp2_with fail
          go_quiet (fail)
          go_wp2_with fail
          go_quiet (fail)
          go_wp2_with fail
          go_quiet (fail)
          go_wp2_with fail
          go_quiet (fail)
          go_wp2_with fail
          go_roundw
          case rel => exact ⟨k + 1, hk1.1, hk1.2, by go_num, hf, _, rfl⟩
          case measure => simp [intOf]; omega
        · have hf : Hid (cmpLs l l2 = 1) := hidden (by rw [hat.out]; unfold cmpLb; simp [a3, c3])
          clear a3 c3 hat
          go_wp2_with fail
          go_quiet (fail)
          go_wp2_with fail
          go_quiet (fail)
          go_wp2_with fail
          go_quiet (fail)
          go_wp2_with fail
          go_quiet (fail)
          go_wp2_with fail
          go_ret
          exact ⟨ret_int hf.out.symm, by first | exact ⟨_, rfl⟩ | (simp only [World.drewN_drewN]; exact ⟨_, rfl⟩)⟩
      · have hf : Hid (cmpLs l l2 = 1) := hidden (by rw [hat.out]; unfold cmpLb; simp [a3])
        clear a3 hat
        go_wp2_with fail
        go_quiet (fail)
        go_wp2_with fail
        go_quiet (fail)
        go_wp2_with fail
        go_ret
        exact ⟨ret_int hf.out.symm, by first | exact ⟨_, rfl⟩ | (simp only [World.drewN_drewN]; exact ⟨_, rfl⟩)⟩
    · have hend : Hid (cmpLs l l2 = if n < m then -1 else if m < n then 1 else 0) := hidden (by
        rw [hcm.out]
        have e1 : (l.drop k).length = n - k := by rw [List.length_drop, hL.out]
        have e2 : (l2.drop k).length = m - k := by rw [List.length_drop, hL2.out]
        revert e1 e2
        cases l.drop k <;> cases l2.drop k <;> intro e1 e2 <;> simp only [List.length_nil, List.length_cons] at e1 e2 <;> simp only [cmpLs]
        · rw [if_neg (by omega), if_neg (by omega)]
        · rw [if_pos (by omega)]
        · rw [if_neg (by omega), if_pos (by omega)]
        · omega)
      clear hr hr2 hcm
      by_cases h1 : n < m
      · have hf : Hid (cmpLs l l2 = -1) := hidden (by rw [hend.out, if_pos h1])
        have g1 : ¬ k < n ∨ ¬ k < m := by omega
        clear hend
        have b1 : (n : Int) < (m : Int) := by omega
        by_cases g2 : k < n
        · exact absurd g2 (by omega)
        · go_wp2_with fail
          go_ret
          exact ⟨ret_int hf.out.symm, by first | exact ⟨_, rfl⟩ | (simp only [World.drewN_drewN]; exact ⟨_, rfl⟩)⟩
      · by_cases h2 : m < n
        · have hf : Hid (cmpLs l l2 = 1) := hidden (by rw [hend.out, if_neg h1, if_pos h2])
          clear hend
          have b1 : (m : Int) < (n : Int) := by omega
          have b2 : ¬ (n : Int) < (m : Int) := by omega
          have g2 : k < n := by omega
          have g3 : ¬ k < m := by omega
          go_wp2_with fail
          go_ret
          exact ⟨ret_int hf.out.symm, by first | exact ⟨_, rfl⟩ | (simp only [World.drewN_drewN]; exact ⟨_, rfl⟩)⟩
        · have hf : Hid (cmpLs l l2 = 0) := hidden (by rw [hend.out, if_neg h1, if_neg h2])
          clear hend
          have g2 : ¬ k < n := by omega
          go_wp2_with fail
          go_ret
          exact ⟨ret_int hf.out.symm, by first | exact ⟨_, rfl⟩ | (simp only [World.drewN_drewN]; exact ⟨_, rfl⟩)⟩
end Go.Proofs.YtbijjjhfekkfaaaGreat
