/- spans.Encode, walked. record.Encode's closure: numbers written behind one another. Condition: the row is short, the numbers are none below zero. Quotations, plainly: what a text is in quotation marks, and what such a quotation is read as. No program is walked here. -/
import Derived.Test.YtdggnnjjiolldaaGreatPk10a58e19
import Derived.Test.YtdggnnjjiolldaaGreatPkda44597c
import Derived.IntWalk
import Derived.Test.YtdggnnjjiolldaaGreatBase
namespace Go.Proofs.YtdggnnjjiolldaaGreat
set_option maxRecDepth 100000
open Go.RowKit Go.Shelf

def encS (l : List Spn) : List UInt8 := l.flatMap fun x => intL x.frm ++ intL x.til
def encL (R : List Spn) : List UInt8 := uintL R.length ++ encS R

theorem encS_len (l : List Spn) (h : ∀ x ∈ l, x.ok) : (encS l).length ≤ l.length * 20 := by
  induction l with
  | nil => simp [encS]
  | cons x l ih =>
    have := ih fun y hy => h y (List.mem_cons_of_mem _ hy)
    obtain ⟨h1, h2, h3, h4⟩ := h x (List.mem_cons_self ..)
    have e1 := uintL_ten (zz_lt h1 h2)
    have e2 := uintL_ten (zz_lt h3 h4)
    simp only [encS, List.flatMap_cons, List.length_append, List.length_cons, intL] at *
    omega

set_option maxHeartbeats 2000000 in
theorem encode_any (A : Option Addr) (n c : Nat) (l : List Spn) (w : World) (hr : Row w w.heap.size 2 A n (l.flatMap Spn.cells)) (hl : l.length = n) (hn : n * 16 ≤ 140737488351232) (hn2 : n * 20 + 10 ≤ 140737488355328) (hok : ∀ x ∈ l, x.ok) :
    Calls Tryz.prog 18 #[.slice A n c] w fun e w' => ∃ R, OfRes l R ∧ e = .returned (.string ⟨(encL R).toArray⟩) ∧ Below w.heap.size w w' := by
  have HO := hidden (spnOf_any A n c l w hr hl hn hok)
  clear hr hl
  go_enter Tryz.func18, Tryz.ntmps18
  go_wp2_with fail
  refine HO.out.mono ?_
  rintro e w1 ⟨v, R, rfl, ho, hR, hlen, hb1⟩
  clear HO
  have HRes := hidden hR
  have HOK := hidden (hR.ok hok)
  obtain ⟨m, hm⟩ : ∃ m, R.length = m := ⟨_, rfl⟩
  rw [hm] at ho hlen
  obtain ⟨A2, c2, rfl, hc2, hr2⟩ := own_shape ho
  have HR2 := hidden hr2
  have HM := hidden hm
  have B1 := hidden hb1
  clear hR hm ho hr2 hb1 hok
  go_wp2_with fail
  have hI := bld_new w1
  have hB : Below w1.heap.size w1 (w1.alloc (.cells #[.pointer none, .slice none 0 0] 48)) := (Below.refl _ _).alloc (Nat.le_refl _) _
  generalize w1.alloc (.cells #[.pointer none, .slice none 0 0] 48) = w2 at hI hB ⊢
  obtain ⟨g, hg⟩ : ∃ g, w1.heap.size = g := ⟨_, rfl⟩
  have HG := hidden hg
  rw [hg] at hI hB ⊢
  have hU := uint_any m w2 (by omega)
  go_wp2_with fail
  refine hU.mono ?_
  rintro e w3 ⟨rfl, hb3⟩
  have hI3 := bld_below hI hb3
  have hs3 : g ≤ w2.heap.size := by have := hB.size; omega
  have B3 : Below g w1 w3 := hB.trans (hb3.mono hs3)
  clear hI hU hB
  go_wp2_with fail
  refine (bldStr_any g g (Lib.byteCells []) ⟨(uintL m).toArray⟩ w3 hI3 (by have := uintL_ten (v := m) (by omega); simp [Lib.byteCells, ByteArray.size]; omega) (by have := B3.size; omega)).mono ?_
  rintro e w4 ⟨rfl, hI4, hb4, _⟩
  have hI4' : Lib.IsBuilder 48 5 g g (Lib.byteCells (uintL m)) w4 := .inr hI4
  have B4 := B3.trans hb4
  clear hI3 hb3 hs3 B3 hI4 hb4
  go_wp2_with fail
  go_loopw [16] (fun i wr => ∃ (k : Nat), k ≤ m ∧ i = .int .i64 k ∧ Lib.IsBuilder 48 5 g g (Lib.byteCells (uintL m ++ encS (R.take k))) wr ∧ Below g w1 wr) (fun i _ => m - (intOf i).toNat)
  case atStart => exact ⟨0, Nat.zero_le _, rfl, by simpa [encS] using hI4', B4⟩
  case round =>
    obtain ⟨k, hk, rfl, hbd, hb⟩ := hrel
    clear hI4' B4
    by_cases hlt : k < m
    · obtain ⟨gs, o, x, rfl, _, hx, hcl⟩ := row_at spnK (HR2.out.below (HG.out ▸ hb)) HM.out k hlt
      have c0 : wr.cell? ⟨gs, o + k * 2, none⟩ = some (.int .i64 x.frm) := hcl 0 (by omega)
      have c1 : wr.cell? ⟨gs, o + k * 2 + 1, none⟩ = some (.int .i64 x.til) := hcl 1 (by omega)
      have hT : Hid (encS (R.take (k + 1)) = encS (R.take k) ++ (intL x.frm ++ intL x.til)) := by rw [Hid, take_snoc? hx]; simp [encS]
      have hxo := HOK.out x (List.mem_of_getElem? hx)
      have hel := encS_len (R.take k) fun y hy => HOK.out y (List.mem_of_mem_take hy)
      have k0 : (0 : Int) ≤ (k : Int) := by omega
      have k1 : (k : Int) < (m : Int) := by omega
      have hbs := hb.size
      clear hx hcl
      obtain ⟨xi1, xi2, xi3, xi4⟩ := hxo
      go_wp2_with fail
      have X1 := Whole1.new wr 101 #[.int .i64 x.frm, .int .i64 x.til]
      have hbA : Below wr.heap.size wr (wr.alloc (.cells #[.int .i64 x.frm, .int .i64 x.til] 101)) := (Below.refl _ _).alloc (Nat.le_refl _) _
      generalize wr.alloc (.cells #[.int .i64 x.frm, .int .i64 x.til] 101) = wa at X1 hbA ⊢
      have hgr : g ≤ wr.heap.size := by have := HG.out; omega
      have hbd2 := bld_below hbd hbA
      have hb2 := hb.trans (hbA.mono hgr)
      obtain ⟨X, hX⟩ : ∃ X, wr.heap.size = X := ⟨_, rfl⟩
      rw [hX] at X1 ⊢
      have XH : wa.heap[X]? = some (.cells #[.int .i64 x.frm, .int .i64 x.til] 101 (0, 0)) := X1
      have hXl : X < wa.heap.size := X1.lt
      clear X1
      clear hbd hbA c0 c1 hX
      have H1 := hidden (int_any x.frm wa xi1 xi2)
      refine H1.out.mono ?_
      rintro e wb ⟨rfl, hbB⟩
      have hga := hb2.size
      have hbd3 := bld_below hbd2 hbB
      have hb3 := hb2.trans (hbB.mono (by have := HG.out; omega))
      have l1 := uintL_ten (zz_lt xi1 xi2)
      have l2 := uintL_ten (zz_lt xi3 xi4)
      have lm := uintL_ten (v := m) (by omega)
      have XH2 := (hbB.block X hXl).trans XH
      clear hbd2 hbB hb2 H1 hga hXl XH
      go_wp2_with fail
      refine (bldStr_any g g _ ⟨(intL x.frm).toArray⟩ wb hbd3 (by rw [Lib.byteCells_length, List.length_append]; simp only [ByteArray.size, List.size_toArray, intL]; simp only [List.length_take] at hel; omega) (by have := hb3.size; have := HG.out; omega)).mono ?_
      rintro e wc ⟨rfl, hI5, hb5, ho5⟩
      have hI6 : Lib.IsBuilder 48 5 g g (Lib.byteCells (uintL m ++ encS (R.take k) ++ intL x.frm)) wc := .inr (by rw [Lib.byteCells_append (uintL m ++ encS (R.take k))]; exact hI5)
      have hb6 := hb3.trans hb5
      have XH3 := ho5 X _ _ _ XH2 (by decide) (by decide)
      have e2 : wc.cell? ⟨X, 1, none⟩ = some (.int .i64 x.til) := by rw [Lib.cell_of_heap XH3]; rfl
      clear hI5 hb5 ho5 XH2 XH3 hb3 hbd3
      have H2 := hidden (int_any x.til wc xi3 xi4)
      go_wp2_with fail
      refine H2.out.mono ?_
      rintro e wd ⟨rfl, hb7⟩
      have hs7 := hb6.size
      have hI7 := bld_below hI6 hb7
      have hb8 := hb6.trans (hb7.mono (by have := HG.out; omega))
      clear hI6 hb7 hb6 H2 hs7
      go_wp2_with fail
      refine (bldStr_any g g _ ⟨(intL x.til).toArray⟩ wd hI7 (by rw [Lib.byteCells_length, List.length_append, List.length_append]; simp only [ByteArray.size, List.size_toArray, intL]; simp only [List.length_take] at hel; omega) (by have := hb8.size; have := HG.out; omega)).mono ?_
      rintro e we ⟨rfl, hI8, hb9, _⟩
      have hI9 : Lib.IsBuilder 48 5 g g (Lib.byteCells (uintL m ++ encS (R.take (k + 1)))) we := .inr (by
        have e9 : uintL m ++ encS (R.take (k + 1)) = (uintL m ++ encS (R.take k) ++ intL x.frm) ++ intL x.til := by rw [hT.out]; simp
        rw [e9, Lib.byteCells_append (uintL m ++ encS (R.take k) ++ intL x.frm)]; exact hI8)
      have hb10 := hb8.trans hb9
      clear hI8 hb9 hI7 hb8
      go_wp2_with fail
      go_roundw
      case rel => exact ⟨k + 1, by omega, by go_num, hI9, hb10⟩
      case measure => simp [intOf]; omega
    · have k2 : ¬ (k : Int) < (m : Int) := by omega
      have hkm : k = m := by omega
      go_wp2_with fail
      have hne : uintL m ++ encS (R.take k) ≠ [] := fun h => uintL_ne m (List.append_eq_nil_iff.1 h).1
      refine (bldString_any g g _ wr hbd hne).mono ?_
      rintro e wz ⟨rfl, hbz⟩
      go_wp2_with fail
      go_ret
      have ht : R.take m = R := List.take_of_length_le (by have := HM.out; omega)
      refine ⟨R, HRes.out, ?_, B1.out.trans ((hb.trans hbz).mono (by have := B1.out.size; have := HG.out; omega))⟩
      show Ending.returned (.string ⟨(uintL m ++ encS (R.take m)).toArray⟩) = _
      rw [ht, encL, HM.out]
end Go.Proofs.YtdggnnjjiolldaaGreat

namespace Go.Proofs.YtdggnnjjiolldaaGreat
set_option maxRecDepth 100000
open Go.RowKit

def numsB (l : List Nat) : List UInt8 := l.flatMap uintL
def natC (l : List Nat) : List Value := l.map fun v : Nat => Value.int .i64 (v : Int)
theorem others_below {w w' : World} (h : Below w.heap.size w w') : Others w w' := fun j cs T fr h1 _ _ => by
  have hj : j < w.heap.size := (Array.getElem?_eq_some_iff.1 h1).1
  exact (h.block j hj).trans h1
theorem numsB_len (l : List Nat) (h : ∀ v ∈ l, v < 9223372036854775808) : (numsB l).length ≤ 10 * l.length := by
  induction l with
  | nil => simp [numsB]
  | cons v l ih =>
    have h1 := ih fun y hy => h y (List.mem_cons_of_mem _ hy)
    have h2 := uintL_ten (v := v) (by have := h v (by simp); omega)
    simp only [numsB, List.flatMap_cons, List.length_append, List.length_cons] at h1 ⊢
    omega
theorem numsB_snoc (l : List Nat) (v : Nat) : numsB (l ++ [v]) = numsB l ++ uintL v := by simp [numsB]
set_option maxHeartbeats 1600000 in
theorem numb_any (b n c g : Nat) (l : List Nat) (pre : List UInt8) (w : World) (hW : Whole1 w b 3 (natC l).toArray) (hl : l.length = n) (hn : n ≤ 8) (hv : ∀ v ∈ l, v < 9223372036854775808) (hI : Lib.IsBuilder 48 5 g g (Lib.byteCells pre) w) (hp : pre.length ≤ 70368744177664) (hg : g ≤ w.heap.size) :
    Calls Tryz.prog 13 #[.slice (some ⟨b, 0, none⟩) n c, .pointer (some ⟨g, 0, none⟩)] w fun e w' => e = .returned (.tuple #[]) ∧ Lib.IsBuilder 48 5 g g (Lib.byteCells (pre ++ numsB l)) w' ∧ Below g w w' ∧ Others w w' := by
  have HL := hidden hl
  have HV := hidden hv
  clear hl hv
  go_enter Tryz.func13, Tryz.ntmps13
  go_wp2_with fail
  go_loopw [7] (fun vi wr => ∃ k : Nat, k ≤ n ∧ vi = .int .i64 k ∧ Hid (Whole1 wr b 3 (natC l).toArray) ∧ Hid (Lib.IsBuilder 48 5 g g (Lib.byteCells (pre ++ numsB (l.take k))) wr) ∧ Hid (Below g w wr) ∧ Hid (Others w wr)) (fun vi _ => n - (intOf vi).toNat)
  case atStart => exact ⟨0, Nat.zero_le _, rfl, hW, by simpa [numsB, Hid] using hI, hidden ⟨rfl, rfl, rfl, Nat.le_refl _, fun _ _ => rfl⟩, hidden (Others.refl _)⟩
  case round =>
    obtain ⟨k, hk, rfl, hWk, hbd, hb, ho⟩ := hrel
    clear hI
    have k0 : (0 : Int) ≤ (k : Int) := by omega
    have hgr : g ≤ wr.heap.size := by have := hb.out.size; omega
    by_cases hlt : k < n
    · have k1 : (k : Int) < (n : Int) := by omega
      have hkl : k < l.length := by have := HL.out; omega
      obtain ⟨v, hx⟩ : ∃ v, l[k]? = some v := ⟨_, List.getElem?_eq_getElem hkl⟩
      have hvm := HV.out v (List.mem_of_getElem? hx)
      have c0 : wr.cell? ⟨b, k, none⟩ = some (.int .i64 (v : Int)) := by
        rw [hWk.out.cell, List.getElem?_toArray, natC, List.getElem?_map, hx]; rfl
      have hT := hidden (show numsB (l.take (k + 1)) = numsB (l.take k) ++ uintL v by rw [take_snoc? hx, numsB_snoc])
      have hnl := numsB_len (l.take k) fun y hy => HV.out y (List.mem_of_mem_take hy)
      have hnl2 : (l.take k).length ≤ 8 := by rw [List.length_take]; omega
      have hut := uintL_ten (v := v) (by omega)
      have wu : IntKind.u64.wrap (v : Int) = (v : Int) := Go.IntWalk.u64_in _ (by omega)
      clear hx
      go_wp2_with fail
      refine (uint_any v wr (by omega)).mono ?_
      rintro e w2 ⟨rfl, b2⟩
      have hbd2 := bld_below hbd.out b2
      have hb2 := hb.out.trans (b2.mono hgr)
      have ho2 := hidden (ho.out.trans (others_below b2))
      have HW2 := hidden (hWk.out.below b2 hWk.out.lt)
      clear hbd b2 hb ho hWk c0
      go_wp2_with fail
      refine (bldStr_any g g _ ⟨(uintL v).toArray⟩ w2 hbd2 (by rw [Lib.byteCells_length, List.length_append]; simp only [ByteArray.size, List.size_toArray]; omega) (by have := hb2.size; omega)).mono ?_
      rintro e w3 ⟨rfl, hI3, hb3, ho3⟩
      have hI4 := hidden (show Lib.IsBuilder 48 5 g g (Lib.byteCells (pre ++ numsB (l.take (k + 1)))) w3 from .inr (by rw [hT.out, ← List.append_assoc, Lib.byteCells_append (pre ++ numsB (l.take k))]; exact hI3))
      have hb4 := hidden (hb2.trans hb3)
      have ho4 := hidden (ho2.out.trans ho3)
      have HW4 := hidden (show Whole1 w3 b 3 (natC l).toArray from ho3 b _ _ _ HW2.out (by decide) (by decide))
      clear hI3 hb3 ho3 hbd2 hb2
      go_wp2_with fail
      go_roundw
      case rel => exact ⟨k + 1, by omega, by go_num, HW4, hI4, hb4, ho4⟩
      case measure => simp [intOf]; omega
    · have k2 : ¬ (k : Int) < (n : Int) := by omega
      have ht : l.take k = l := List.take_of_length_le (by have := HL.out; omega)
      rw [ht] at hbd
      go_wp2_with fail
      go_end0
      exact ⟨rfl, hbd.out, hb.out, ho.out⟩
end Go.Proofs.YtdggnnjjiolldaaGreat

namespace Go.Proofs.YtdggnnjjiolldaaGreat
set_option maxRecDepth 100000

/-- a digit to the base 16 -/
def hexD (n : Nat) : UInt8 := if n < 10 then UInt8.ofNat (48 + n) else UInt8.ofNat (87 + n)
/-- one byte, quoted -/
def quoB (b : UInt8) : List UInt8 := if b.toNat = 34 ∨ b.toNat = 92 then [92, b] else if 32 ≤ b.toNat ∧ b.toNat ≤ 126 then [b] else [92, 120, hexD (b.toNat / 16), hexD (b.toNat % 16)]
def quoL (v : List UInt8) : List UInt8 := v.flatMap quoB
/-- a text in quotation marks -/
def quoteL (v : List UInt8) : List UInt8 := 34 :: (quoL v ++ [34])
theorem quoB_len (b : UInt8) : 1 ≤ (quoB b).length ∧ (quoB b).length ≤ 4 := by
  unfold quoB
  split
  · simp
  · split <;> simp
theorem quoL_len (v : List UInt8) : (quoL v).length ≤ 4 * v.length := by
  induction v with
  | nil => simp [quoL]
  | cons b v ih =>
    have := (quoB_len b).2
    simp only [quoL, List.flatMap_cons, List.length_append, List.length_cons] at ih ⊢
    omega
theorem quoL_snoc (v : List UInt8) (b : UInt8) : quoL (v ++ [b]) = quoL v ++ quoB b := by simp [quoL]
/-- the value of a digit, or 16 -/
def hexV (b : UInt8) : Nat := if 48 ≤ b.toNat ∧ b.toNat ≤ 57 then b.toNat - 48 else if 97 ≤ b.toNat ∧ b.toNat ≤ 102 then b.toNat - 87 else 16
theorem hexV_D {n : Nat} (h : n < 16) : hexV (hexD n) = n := by
  unfold hexV hexD
  by_cases h1 : n < 10
  · rw [if_pos h1]
    have e : (UInt8.ofNat (48 + n)).toNat = 48 + n := by simp; omega
    rw [e, if_pos (by omega)]; omega
  · rw [if_neg h1]
    have e : (UInt8.ofNat (87 + n)).toNat = 87 + n := by simp; omega
    rw [e, if_neg (by omega), if_pos (by omega)]; omega
theorem hexD_V {b : UInt8} (h : hexV b < 16) : hexD (hexV b) = b := by
  unfold hexV at h ⊢
  have hb := b.toNat_lt
  split
  · rename_i h1
    rw [hexD, if_pos (by omega), show 48 + (b.toNat - 48) = b.toNat by omega]; simp
  · split
    · rename_i h1 h2
      rw [hexD, if_neg (by omega), show 87 + (b.toNat - 87) = b.toNat by omega]; simp
    · rename_i h1 h2
      rw [if_neg h1, if_neg h2] at h; omega
/-- a quotation read, its opening mark behind us: the text, and how many bytes it took -/
def parQ : List UInt8 → Option (List UInt8 × Nat)
  | [] => none
  | b :: r =>
    if b.toNat = 34 then some ([], 1)
    else if b.toNat < 32 ∨ 126 < b.toNat then none
    else if b.toNat ≠ 92 then (parQ r).map fun p => (b :: p.1, p.2 + 1)
    else match r with
      | [] => none
      | c :: r2 =>
        if c.toNat = 34 ∨ c.toNat = 92 then (parQ r2).map fun p => (c :: p.1, p.2 + 2)
        else match r2 with
          | h :: l :: r3 =>
            if c.toNat ≠ 120 then none
            else if hexV h < 16 ∧ hexV l < 16 ∧ ¬ (32 ≤ hexV h * 16 + hexV l ∧ hexV h * 16 + hexV l ≤ 126) then (parQ r3).map fun p => (UInt8.ofNat (hexV h * 16 + hexV l) :: p.1, p.2 + 4)
            else none
          | _ => none
theorem parQ_cons (b : UInt8) (r : List UInt8) : parQ (b :: r) = (
    if b.toNat = 34 then some ([], 1)
    else if b.toNat < 32 ∨ 126 < b.toNat then none
    else if b.toNat ≠ 92 then (parQ r).map fun p => (b :: p.1, p.2 + 1)
    else match r with
      | [] => none
      | c :: r2 =>
        if c.toNat = 34 ∨ c.toNat = 92 then (parQ r2).map fun p => (c :: p.1, p.2 + 2)
        else match r2 with
          | h :: l :: r3 =>
            if c.toNat ≠ 120 then none
            else if hexV h < 16 ∧ hexV l < 16 ∧ ¬ (32 ≤ hexV h * 16 + hexV l ∧ hexV h * 16 + hexV l ≤ 126) then (parQ r3).map fun p => (UInt8.ofNat (hexV h * 16 + hexV l) :: p.1, p.2 + 4)
            else none
          | _ => none) := by rw [parQ.eq_def]
theorem u8_eq {a b : UInt8} (h : a.toNat = b.toNat) : a = b := UInt8.toNat_inj.1 h
/-- what is quoted is read back -/
theorem parQ_quo (rest : List UInt8) : ∀ v : List UInt8, parQ (quoL v ++ 34 :: rest) = some (v, (quoL v).length + 1)
  | [] => by
    show parQ (34 :: rest) = _
    rw [parQ_cons, if_pos (show UInt8.toNat 34 = 34 from rfl)]; rfl
  | b :: v => by
    have ih := parQ_quo rest v
    have e : quoL (b :: v) = quoB b ++ quoL v := by simp [quoL]
    rw [e, List.append_assoc]
    unfold quoB
    by_cases h1 : b.toNat = 34 ∨ b.toNat = 92
    · rw [if_pos h1]
      simp only [List.cons_append, List.nil_append, List.length_cons]
      rw [parQ_cons, if_neg (by decide), if_neg (by decide), if_neg (by decide)]
      dsimp only
      rw [if_pos h1, ih]
      simp
    · rw [if_neg h1]
      by_cases h2 : 32 ≤ b.toNat ∧ b.toNat ≤ 126
      · rw [if_pos h2]
        simp only [List.cons_append, List.nil_append, List.length_cons]
        rw [parQ_cons, if_neg (fun h => h1 (.inl h)), if_neg (by omega), if_pos (fun h => h1 (.inr h)), ih]
        simp
      · rw [if_neg h2]
        have hb := b.toNat_lt
        simp only [List.cons_append, List.nil_append, List.length_cons]
        rw [parQ_cons, if_neg (by decide), if_neg (by decide), if_neg (by decide)]
        dsimp only
        rw [if_neg (by decide)]
        try dsimp only
        rw [if_neg (by decide), hexV_D (by omega), hexV_D (by omega), if_pos ⟨by omega, by omega, by omega⟩, ih, show b.toNat / 16 * 16 + b.toNat % 16 = b.toNat by omega]
        simp
/-- what is read is the one quotation of its text -/
theorem parQ_form : ∀ (s v : List UInt8) (n : Nat), parQ s = some (v, n) → ∃ rest, s = quoL v ++ 34 :: rest ∧ n = (quoL v).length + 1
  | [], v, n, h => by simp [parQ] at h
  | b :: r, v, n, h => by
    rw [parQ_cons] at h
    split at h
    · rename_i hb
      simp only [Option.some.injEq, Prod.mk.injEq] at h
      obtain ⟨rfl, rfl⟩ := h
      exact ⟨r, by rw [u8_eq (b := 34) hb]; rfl, rfl⟩
    · rename_i hb
      split at h
      · cases h
      · rename_i hr
        split at h
        · rename_i hne
          cases hp : parQ r with
          | none => rw [hp] at h; cases h
          | some p =>
            obtain ⟨v2, n2⟩ := p
            rw [hp] at h
            simp only [Option.map_some, Option.some.injEq, Prod.mk.injEq] at h
            obtain ⟨rfl, rfl⟩ := h
            obtain ⟨rest, e1, e2⟩ := parQ_form r v2 n2 hp
            have e : quoL (b :: v2) = b :: quoL v2 := by
              have : quoB b = [b] := by unfold quoB; rw [if_neg (by omega), if_pos (by omega)]
              simp [quoL, this]
            exact ⟨rest, by rw [e, e1]; rfl, by rw [e, e2]; rfl⟩
        · rename_i h92
          have h92 : b.toNat = 92 := by omega
          have eb : b = 92 := u8_eq h92
          match r, h with
          | [], h => simp at h
          | c :: r2, h =>
            simp only at h
            split at h
            · rename_i hc
              cases hp : parQ r2 with
              | none => rw [hp] at h; cases h
              | some p =>
                obtain ⟨v2, n2⟩ := p
                rw [hp] at h
                simp only [Option.map_some, Option.some.injEq, Prod.mk.injEq] at h
                obtain ⟨rfl, rfl⟩ := h
                obtain ⟨rest, e1, e2⟩ := parQ_form r2 v2 n2 hp
                have e : quoL (c :: v2) = 92 :: c :: quoL v2 := by
                  have : quoB c = [92, c] := by unfold quoB; rw [if_pos hc]
                  simp [quoL, this]
                exact ⟨rest, by rw [e, e1, eb]; rfl, by rw [e, e2]; rfl⟩
            · rename_i hc
              match r2, h with
              | [], h => simp at h
              | [_], h => simp at h
              | hh :: ll :: r3, h =>
                simp only at h
                split at h
                · cases h
                · rename_i hx
                  split at h
                  · rename_i hv
                    obtain ⟨v1, v2', v3⟩ := hv
                    cases hp : parQ r3 with
                    | none => rw [hp] at h; cases h
                    | some p =>
                      obtain ⟨v2, n2⟩ := p
                      rw [hp] at h
                      simp only [Option.map_some, Option.some.injEq, Prod.mk.injEq] at h
                      obtain ⟨rfl, rfl⟩ := h
                      obtain ⟨rest, e1, e2⟩ := parQ_form r3 v2 n2 hp
                      have hval : (UInt8.ofNat (hexV hh * 16 + hexV ll)).toNat = hexV hh * 16 + hexV ll := by simp; omega
                      have e : quoL (UInt8.ofNat (hexV hh * 16 + hexV ll) :: v2) = 92 :: 120 :: hh :: ll :: quoL v2 := by
                        have : quoB (UInt8.ofNat (hexV hh * 16 + hexV ll)) = [92, 120, hh, ll] := by
                          unfold quoB
                          rw [hval, if_neg (by omega), if_neg v3, show (hexV hh * 16 + hexV ll) / 16 = hexV hh by omega, show (hexV hh * 16 + hexV ll) % 16 = hexV ll by omega, hexD_V v1, hexD_V v2']
                        rw [quoL, List.flatMap_cons, this]; rfl
                      have ec : c = 120 := u8_eq (by
                        have : c.toNat = 120 := by omega
                        exact this)
                      exact ⟨rest, by rw [e, e1, eb, ec]; rfl, by rw [e, e2]; rfl⟩
                  · cases h
end Go.Proofs.YtdggnnjjiolldaaGreat
