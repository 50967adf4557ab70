/- Comparing labels, plainly. No condition. strings.Compare, labels.Compare: what they return. Condition: the lists are not too long. almanacref04.Compare: the order of two lists of labels. Condition: the lists are not too long. -/
import Derived.Test.YtalnndenncnbdaaSerMem
import Derived.Lib.Bytealg
import Derived.Sort.Statements
import Derived.Test.YtalnndenncnbdaaBase
import Derived.Test.YtalnndenncnbdaaRSeries
import Derived.Shelf.Small.Strs
import Derived.Deep.RegionHeld3
namespace Go.Proofs.Ytalnndenncnbdaa
set_option maxRecDepth 100000
open Go.RowKit Go.Sort

def cmpB (a b : ByteArray) : Int := Lib.compareBytes a.data.toList b.data.toList
theorem cmpBytes_cases : ∀ (a b : List UInt8), (Op.bytesLess a b = true ∧ Op.bytesLess b a = false ∧ a ≠ b ∧ Lib.compareBytes a b = -1) ∨ (a = b ∧ Op.bytesLess a b = false ∧ Lib.compareBytes a b = 0) ∨ (Op.bytesLess b a = true ∧ Op.bytesLess a b = false ∧ a ≠ b ∧ Lib.compareBytes a b = 1)
  | [], [] => .inr (.inl ⟨rfl, rfl, rfl⟩)
  | [], _ :: _ => .inl ⟨rfl, rfl, by simp, rfl⟩
  | _ :: _, [] => .inr (.inr ⟨rfl, rfl, by simp, rfl⟩)
  | x :: a, y :: b => by
    rcases Nat.lt_trichotomy x.toNat y.toNat with h | h | h
    · have h1 : x < y := UInt8.lt_iff_toNat_lt.2 h
      have h2 : ¬ y < x := fun h3 => by have := UInt8.lt_iff_toNat_lt.1 h3; omega
      have h3 : ¬ y = x := fun e => by rw [e] at h; omega
      refine .inl ⟨by simp [Op.bytesLess, h1], by simp [Op.bytesLess, h2, h3], fun e => h3 (by injection e with e _; exact e.symm), by simp [Lib.compareBytes, h1]⟩
    · have h1 : x = y := UInt8.toNat_inj.1 h
      subst h1
      have h2 : ¬ x < x := UInt8.lt_irrefl x
      rcases cmpBytes_cases a b with ⟨c1, c2, c3, c4⟩ | ⟨c1, c2, c3⟩ | ⟨c1, c2, c3, c4⟩
      · exact .inl ⟨by simp [Op.bytesLess, c1], by simp [Op.bytesLess, c2], by simpa using c3, by simp [Lib.compareBytes, c4]⟩
      · exact .inr (.inl ⟨by rw [c1], by simp [Op.bytesLess, c2], by simp [Lib.compareBytes, c3]⟩)
      · exact .inr (.inr ⟨by simp [Op.bytesLess, c1], by simp [Op.bytesLess, c2], by simpa using c3, by simp [Lib.compareBytes, c4]⟩)
    · have h1 : y < x := UInt8.lt_iff_toNat_lt.2 h
      have h2 : ¬ x < y := fun h3 => by have := UInt8.lt_iff_toNat_lt.1 h3; omega
      have h3 : ¬ x = y := fun e => by rw [e] at h; omega
      exact .inr (.inr ⟨by simp [Op.bytesLess, h1], by simp [Op.bytesLess, h2, h3], fun e => h3 (by injection e), by simp [Lib.compareBytes, h1, h2]⟩)
theorem bytes_eq {a b : ByteArray} (h : a.data.toList = b.data.toList) : a = b := by
  cases a; cases b
  congr
  exact Array.toList_inj.1 h
theorem bl_trans : ∀ (a b c : List UInt8), Op.bytesLess a b = true → Op.bytesLess b c = true → Op.bytesLess a c = true
  | _, _, [], _, h => by simp [Op.bytesLess] at h
  | _, [], _ :: _, h, _ => by simp [Op.bytesLess] at h
  | [], _ :: _, _ :: _, _, _ => rfl
  | x :: a, y :: b, z :: c, h1, h2 => by
    simp only [Op.bytesLess, Bool.or_eq_true, decide_eq_true_eq, Bool.and_eq_true, beq_iff_eq] at h1 h2 ⊢
    rcases h1 with h1 | ⟨rfl, h1⟩
    · rcases h2 with h2 | ⟨rfl, h2⟩
      · exact .inl (UInt8.lt_trans h1 h2)
      · exact .inl h1
    · rcases h2 with h2 | ⟨rfl, h2⟩
      · exact .inl h2
      · exact .inr ⟨rfl, bl_trans a b c h1 h2⟩

/-- one label against another -/
def cmpLb (x y : Lbl) : Int := if cmpB x.name y.name ≠ 0 then cmpB x.name y.name else cmpB x.value y.value
/-- a list of labels against another -/
def cmpLs : List Lbl → List Lbl → Int
  | [], [] => 0
  | [], _ :: _ => -1
  | _ :: _, [] => 1
  | x :: r, y :: s => if cmpLb x y ≠ 0 then cmpLb x y else cmpLs r s

/-- Three-way comparisons that are orders. -/
structure Tri {α : Type} (f : α → α → Int) : Prop where
  range : ∀ x y, f x y = -1 ∨ f x y = 0 ∨ f x y = 1
  turn : ∀ x y, f y x = - f x y
  zero : ∀ x y, f x y = 0 ↔ x = y
  trans : ∀ x y z, f x y = -1 → f y z = -1 → f x z = -1
theorem Tri.swo {α : Type} {f : α → α → Int} (h : Tri f) : SWO fun x y => decide (f x y < 0) where
  irrefl x := by simp [(h.zero x x).2 rfl]
  trans x y z h1 h2 := by
    simp only [decide_eq_true_eq] at *
    have a := h.range x y
    have b := h.range y z
    have := h.trans x y z (by omega) (by omega)
    omega
  ntrans x y z h1 h2 := by
    simp only [decide_eq_false_iff_not] at *
    intro h3
    have a := h.range x y
    have b := h.range y z
    have c := h.range x z
    have t1 := h.turn x y
    have t2 := h.turn y z
    have t3 := h.turn x z
    rcases a with a | a | a
    · omega
    · have e := (h.zero x y).1 a
      subst e
      omega
    · rcases b with b | b | b
      · omega
      · have e := (h.zero y z).1 b
        subst e
        omega
      · have := h.trans z y x (by omega) (by omega)
        omega
theorem tri_bytes : Tri Lib.compareBytes where
  range x y := by rcases cmpBytes_cases x y with ⟨_, _, _, h⟩ | ⟨_, _, h⟩ | ⟨_, _, _, h⟩ <;> rw [h] <;> simp
  turn x y := by
    rcases cmpBytes_cases x y with ⟨a, b, c, h⟩ | ⟨a, b, h⟩ | ⟨a, b, c, h⟩ <;> rcases cmpBytes_cases y x with ⟨a', b', c', h'⟩ | ⟨a', b', h'⟩ | ⟨a', b', c', h'⟩ <;> rw [h, h'] <;> simp_all
  zero x y := by
    rcases cmpBytes_cases x y with ⟨a, b, c, h⟩ | ⟨a, b, h⟩ | ⟨a, b, c, h⟩ <;> rw [h] <;> simp_all
  trans x y z h1 h2 := by
    rcases cmpBytes_cases x y with ⟨a, b, c, h⟩ | ⟨a, b, h⟩ | ⟨a, b, c, h⟩ <;> rw [h] at h1 <;> simp at h1
    rcases cmpBytes_cases y z with ⟨a', b', c', h'⟩ | ⟨a', b', h'⟩ | ⟨a', b', c', h'⟩ <;> rw [h'] at h2 <;> simp at h2
    have t := bl_trans x y z a a'
    rcases cmpBytes_cases x z with ⟨_, _, _, h''⟩ | ⟨_, e, _⟩ | ⟨_, e, _, _⟩
    · exact h''
    · rw [t] at e; cases e
    · rw [t] at e; cases e
theorem tri_B : Tri cmpB where
  range x y := tri_bytes.range _ _
  turn x y := tri_bytes.turn _ _
  zero x y := ⟨fun h => bytes_eq ((tri_bytes.zero _ _).1 h), fun h => by rw [h]; exact (tri_bytes.zero _ _).2 rfl⟩
  trans x y z := tri_bytes.trans _ _ _
theorem tri_Lb : Tri cmpLb where
  range x y := by
    unfold cmpLb
    split
    · exact tri_B.range _ _
    · exact tri_B.range _ _
  turn x y := by
    unfold cmpLb
    rw [tri_B.turn x.name y.name, tri_B.turn x.value y.value]
    by_cases h : cmpB x.name y.name = 0
    · simp [h]
    · rw [if_pos h, if_pos (by omega)]
  zero x y := by
    unfold cmpLb
    constructor
    · intro h
      by_cases h1 : cmpB x.name y.name = 0
      · rw [if_neg (by omega)] at h
        have e1 := (tri_B.zero _ _).1 h1
        have e2 := (tri_B.zero _ _).1 h
        cases x; cases y
        simp only at e1 e2
        rw [e1, e2]
      · rw [if_pos h1] at h
        exact absurd h h1
    · rintro rfl
      rw [(tri_B.zero x.name x.name).2 rfl, (tri_B.zero x.value x.value).2 rfl]; rfl
  trans x y z h1 h2 := by
    unfold cmpLb at *
    by_cases a : cmpB x.name y.name = 0
    · rw [if_neg (by omega)] at h1
      have e := (tri_B.zero _ _).1 a
      rw [e]
      by_cases b : cmpB y.name z.name = 0
      · rw [if_neg (by omega)] at h2 ⊢
        exact tri_B.trans _ _ _ h1 h2
      · rw [if_pos b] at h2 ⊢
        exact h2
    · rw [if_pos a] at h1
      by_cases b : cmpB y.name z.name = 0
      · have e := (tri_B.zero _ _).1 b
        rw [← e, if_pos a]
        exact h1
      · rw [if_pos b] at h2
        have := tri_B.trans _ _ _ h1 h2
        rw [if_pos (by omega)]
        exact this
theorem cmpLs_range : ∀ x y : List Lbl, cmpLs x y = -1 ∨ cmpLs x y = 0 ∨ cmpLs x y = 1
  | [], [] => by simp [cmpLs]
  | [], _ :: _ => by simp [cmpLs]
  | _ :: _, [] => by simp [cmpLs]
  | x :: r, y :: s => by
    rw [cmpLs]
    split
    · exact tri_Lb.range _ _
    · exact cmpLs_range r s
theorem cmpLs_turn : ∀ x y : List Lbl, cmpLs y x = - cmpLs x y
  | [], [] => rfl
  | [], _ :: _ => rfl
  | _ :: _, [] => rfl
  | x :: r, y :: s => by
    rw [cmpLs, cmpLs, tri_Lb.turn x y, cmpLs_turn r s]
    by_cases h : cmpLb x y = 0
    · simp [h]
    · rw [if_pos h, if_pos (by omega)]
theorem cmpLs_zero : ∀ x y : List Lbl, cmpLs x y = 0 ↔ x = y
  | [], [] => by simp [cmpLs]
  | [], _ :: _ => by simp [cmpLs]
  | _ :: _, [] => by simp [cmpLs]
  | x :: r, y :: s => by
    rw [cmpLs]
    constructor
    · intro h
      by_cases h1 : cmpLb x y = 0
      · rw [if_neg (by omega)] at h
        rw [(tri_Lb.zero _ _).1 h1, (cmpLs_zero r s).1 h]
      · rw [if_pos h1] at h
        exact absurd h h1
    · intro h
      injection h with h1 h2
      subst h1 h2
      rw [(tri_Lb.zero x x).2 rfl, (cmpLs_zero r r).2 rfl]; rfl
theorem cmpLs_trans : ∀ x y z : List Lbl, cmpLs x y = -1 → cmpLs y z = -1 → cmpLs x z = -1
  | _, _, [], _, h => by
    rename_i x y _
    cases y <;> simp [cmpLs] at h
  | _, [], _ :: _, h, _ => by
    rename_i x _ _ _
    cases x <;> simp [cmpLs] at h
  | [], _ :: _, _ :: _, _, _ => rfl
  | x :: r, y :: s, z :: t, h1, h2 => by
    rw [cmpLs] at *
    by_cases a : cmpLb x y = 0
    · rw [if_neg (by omega)] at h1
      have e := (tri_Lb.zero _ _).1 a
      rw [e]
      by_cases b : cmpLb y z = 0
      · rw [if_neg (by omega)] at h2 ⊢
        exact cmpLs_trans _ _ _ h1 h2
      · rw [if_pos b] at h2 ⊢
        exact h2
    · rw [if_pos a] at h1
      by_cases b : cmpLb y z = 0
      · have e := (tri_Lb.zero _ _).1 b
        rw [← e, if_pos a]
        exact h1
      · rw [if_pos b] at h2
        have := tri_Lb.trans _ _ _ h1 h2
        rw [if_pos (by omega)]
        exact this
theorem tri_Ls : Tri cmpLs where
  range := cmpLs_range
  turn := cmpLs_turn
  zero := cmpLs_zero
  trans := cmpLs_trans
end Go.Proofs.Ytalnndenncnbdaa

namespace Go.Proofs.Ytalnndenncnbdaa
set_option maxRecDepth 100000
open Go.RowKit Go.Shelf

set_option maxHeartbeats 1000000 in
theorem bcompare_any (a b : ByteArray) (w : World) : Calls Try.prog 56 #[.string a, .string b] w fun e w' => e = .returned (.int .i64 (cmpB a b)) ∧ w = w' := by
  go_enter Try.func56, Try.ntmps56
  go_wp2
  rw [run_callFunc_extern Try.func67 (by kernel_rfl) (by kernel_rfl) (by kernel_rfl) (e := Extern.BytealgCompare.compare) (by kernel_rfl), Lib.run_compareString]
  simp only [Result.andThen]
  rw [Oper.upon_value]
  go_wp2
  go_ret
  exact ⟨rfl, rfl⟩
theorem scompare_any (a b : ByteArray) (w : World) : Calls Try.prog 39 #[.string a, .string b] w fun e w' => e = .returned (.int .i64 (cmpB a b)) ∧ w = w' := by
  go_enter Try.func39, Try.ntmps39
  go_wp2_with fail
  refine (bcompare_any a b _).mono ?_
  rintro e w' ⟨rfl, rfl⟩
  go_wp2
  go_ret
  exact ⟨rfl, rfl⟩
theorem byName_any (x y : Lbl) (w : World) : Calls Try.prog 27 #[.agg #[.string x.name, .string x.value], .agg #[.string y.name, .string y.value]] w fun e w' => e = .returned (.int .i64 (cmpB x.name y.name)) ∧ Gr w w' := by
  go_enter Try.func27, Try.ntmps27
  go_wp2_with fail
  refine (scompare_any x.name y.name _).mono ?_
  rintro e w' ⟨rfl, rfl⟩
  go_wp2
  go_ret
  exact ⟨rfl, ((Gr.refl _).alloc _).alloc _⟩

/-! cmp.Or of two -/
def or2 (x y : Int) : Int := if x ≠ 0 then x else y
theorem drop_at {α : Type} {l : List α} {k : Nat} {x : α} (h : l[k]? = some x) : l.drop k = x :: l.drop (k + 1) := by
  obtain ⟨h1, h2⟩ := List.getElem?_eq_some_iff.1 h
  rw [List.drop_eq_getElem_cons h1, h2]

end Go.Proofs.Ytalnndenncnbdaa

namespace Go.Proofs.Ytalnndenncnbdaa
set_option maxRecDepth 100000
open Go.RowKit Go.Shelf

/-- how one string stands to another, in the walk's spelling -/
theorem str_cases (a b : ByteArray) : (Op.bytesLess a.toList b.toList = true ∧ Op.bytesLess b.toList a.toList = false ∧ cmpB a b = -1) ∨ (a = b ∧ Op.bytesLess a.toList b.toList = false ∧ Op.bytesLess b.toList a.toList = false ∧ cmpB a b = 0) ∨ (Op.bytesLess b.toList a.toList = true ∧ Op.bytesLess a.toList b.toList = false ∧ (a.toList == b.toList) = false ∧ cmpB a b = 1) := by
  have := cmpBytes_cases a.data.toList b.data.toList
  rw [Lib.toList_data, Lib.toList_data]
  rcases this with ⟨h1, h2, _, h4⟩ | ⟨h1, h2, h3⟩ | ⟨h1, h2, h5, h4⟩
  · exact .inl ⟨h1, h2, h4⟩
  · exact .inr (.inl ⟨bytes_eq h1, h2, by rw [← h1] at h2 ⊢; exact h2, h3⟩)
  · exact .inr (.inr ⟨h1, h2, by simpa using h5, h4⟩)
theorem cmpLs_at {l l2 : List Lbl} {k : Nat} {x y : Lbl} (h : cmpLs l l2 = cmpLs (l.drop k) (l2.drop k)) (hx : l[k]? = some x) (hy : l2[k]? = some y) : cmpLs l l2 = if cmpLb x y ≠ 0 then cmpLb x y else cmpLs (l.drop (k + 1)) (l2.drop (k + 1)) := by
  rw [h, drop_at hx, drop_at hy]; rfl

end Go.Proofs.Ytalnndenncnbdaa
