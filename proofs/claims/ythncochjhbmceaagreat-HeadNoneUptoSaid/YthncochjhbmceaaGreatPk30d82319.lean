/- record.Encode's closure: numbers written behind one another. Condition: the row is short, the numbers are none below zero. The bytes of a record, plainly; a builder that is written to. No condition. record.fitRef; slices.Equal at spans. Condition: the rows are within the reach. record.Record.fit: may the record be written? Condition: the record is within the bulk. -/
import Derived.Test.YthncochjhbmceaaGreatPk3fc1764a
import Derived.Test.YthncochjhbmceaaGreatPk0d6c2eab
import Derived.IntWalk
import Derived.Test.YthncochjhbmceaaGreatPk5edf48dd
import Derived.OneCell
import Derived.BigQuiet
import Derived.Deep.RegionHeld3
namespace Go.Proofs.YthncochjhbmceaaGreat
set_option maxRecDepth 100000
open Go.RowKit

def numsB (l : List Nat) : List UInt8 := l.flatMap uintL
def natC (l : List Nat) : List Value := l.map fun v : Nat => Value.int .i64 (v : Int)
theorem others_below {w w' : World} (h : Below w.heap.size w w') : Others w w' := fun j cs T fr h1 _ _ => by
  have hj : j < w.heap.size := (Array.getElem?_eq_some_iff.1 h1).1
  exact (h.block j hj).trans h1
theorem numsB_len (l : List Nat) (h : ∀ v ∈ l, v < 9223372036854775808) : (numsB l).length ≤ 10 * l.length := by
  induction l with
  | nil => simp [numsB]
  | cons v l ih =>
    have h1 := ih fun y hy => h y (List.mem_cons_of_mem _ hy)
    have h2 := uintL_ten (v := v) (by have := h v (by simp); omega)
    simp only [numsB, List.flatMap_cons, List.length_append, List.length_cons] at h1 ⊢
    omega
theorem numsB_snoc (l : List Nat) (v : Nat) : numsB (l ++ [v]) = numsB l ++ uintL v := by simp [numsB]
set_option maxHeartbeats 1600000 in
theorem numb_any (b n c g : Nat) (l : List Nat) (pre : List UInt8) (w : World) (hW : Whole1 w b 3 (natC l).toArray) (hl : l.length = n) (hn : n ≤ 8) (hv : ∀ v ∈ l, v < 9223372036854775808) (hI : Lib.IsBuilder 178 5 g g (Lib.byteCells pre) w) (hp : pre.length ≤ 70368744177664) (hg : g ≤ w.heap.size) :
    Calls Tryz.prog 111 #[.slice (some ⟨b, 0, none⟩) n c, .pointer (some ⟨g, 0, none⟩)] w fun e w' => e = .returned (.tuple #[]) ∧ Lib.IsBuilder 178 5 g g (Lib.byteCells (pre ++ numsB l)) w' ∧ Below g w w' ∧ Others w w' := by
  have HL := hidden hl
  have HV := hidden hv
  clear hl hv
  go_enter Tryz.func111, Tryz.ntmps111
  go_wp2_with fail
  go_loopw [7] (fun vi wr => ∃ k : Nat, k ≤ n ∧ vi = .int .i64 k ∧ Hid (Whole1 wr b 3 (natC l).toArray) ∧ Hid (Lib.IsBuilder 178 5 g g (Lib.byteCells (pre ++ numsB (l.take k))) wr) ∧ Hid (Below g w wr) ∧ Hid (Others w wr)) (fun vi _ => n - (intOf vi).toNat)
  case atStart => exact ⟨0, Nat.zero_le _, rfl, hW, by simpa [numsB, Hid] using hI, hidden ⟨rfl, rfl, rfl, Nat.le_refl _, fun _ _ => rfl⟩, hidden (Others.refl _)⟩
  case round =>
    obtain ⟨k, hk, rfl, hWk, hbd, hb, ho⟩ := hrel
    clear hI
    have k0 : (0 : Int) ≤ (k : Int) := by omega
    have hgr : g ≤ wr.heap.size := by have := hb.out.size; omega
    by_cases hlt : k < n
    · have k1 : (k : Int) < (n : Int) := by omega
      have hkl : k < l.length := by have := HL.out; omega
      obtain ⟨v, hx⟩ : ∃ v, l[k]? = some v := ⟨_, List.getElem?_eq_getElem hkl⟩
      have hvm := HV.out v (List.mem_of_getElem? hx)
      have c0 : wr.cell? ⟨b, k, none⟩ = some (.int .i64 (v : Int)) := by
        rw [hWk.out.cell, List.getElem?_toArray, natC, List.getElem?_map, hx]; rfl
      have hT := hidden (show numsB (l.take (k + 1)) = numsB (l.take k) ++ uintL v by rw [take_snoc? hx, numsB_snoc])
      have hnl := numsB_len (l.take k) fun y hy => HV.out y (List.mem_of_mem_take hy)
      have hnl2 : (l.take k).length ≤ 8 := by rw [List.length_take]; omega
      have hut := uintL_ten (v := v) (by omega)
      have wu : IntKind.u64.wrap (v : Int) = (v : Int) := Go.IntWalk.u64_in _ (by omega)
      clear hx
      go_wp2_with fail
      refine (uint_any v wr (by omega)).mono ?_
      rintro e w2 ⟨rfl, b2⟩
      have hbd2 := bld_below hbd.out b2
      have hb2 := hb.out.trans (b2.mono hgr)
      have ho2 := hidden (ho.out.trans (others_below b2))
      have HW2 := hidden (hWk.out.below b2 hWk.out.lt)
      clear hbd b2 hb ho hWk c0
      go_wp2_with fail
      refine (bldStr_any g g _ ⟨(uintL v).toArray⟩ w2 hbd2 (by rw [Lib.byteCells_length, List.length_append]; simp only [ByteArray.size, List.size_toArray]; omega) (by have := hb2.size; omega)).mono ?_
      rintro e w3 ⟨rfl, hI3, hb3, ho3⟩
      have hI4 := hidden (show Lib.IsBuilder 178 5 g g (Lib.byteCells (pre ++ numsB (l.take (k + 1)))) w3 from .inr (by rw [hT.out, ← List.append_assoc, Lib.byteCells_append (pre ++ numsB (l.take k))]; exact hI3))
      have hb4 := hidden (hb2.trans hb3)
      have ho4 := hidden (ho2.out.trans ho3)
      have HW4 := hidden (show Whole1 w3 b 3 (natC l).toArray from ho3 b _ _ _ HW2.out (by decide) (by decide))
      clear hI3 hb3 ho3 hbd2 hb2
      go_wp2_with fail
      go_roundw
      case rel => exact ⟨k + 1, by omega, by go_num, HW4, hI4, hb4, ho4⟩
      case measure => simp [intOf]; omega
    · have k2 : ¬ (k : Int) < (n : Int) := by omega
      have ht : l.take k = l := List.take_of_length_le (by have := HL.out; omega)
      rw [ht] at hbd
      go_wp2_with fail
      go_end0
      exact ⟨rfl, hbd.out, hb.out, ho.out⟩
end Go.Proofs.YthncochjhbmceaaGreat

namespace Go.Proofs.YthncochjhbmceaaGreat
set_option maxRecDepth 100000
open Go.RowKit Go.Shelf

def newB (x : NewQ) : List UInt8 := uintL x.ref.toNat ++ (uintL x.lab.l.length ++ encB x.lab.l)
def pntB (last x : PntR) : List UInt8 := intL (x.ref - last.ref) ++ (intL (x.t - last.t) ++ uintL (last.v ^^^ x.v))
def pntsB (last : PntR) : List PntR → List UInt8
  | [] => []
  | x :: l => pntB last x ++ pntsB x l
def gonB (x : GonR) : List UInt8 := uintL x.ref.toNat ++ (uintL x.res.toNat ++ encL x.sp.l)
def newsB (l : List NewQ) : List UInt8 := l.flatMap newB
def gonsB (l : List GonR) : List UInt8 := l.flatMap gonB
def pnt0 : PntR := ⟨0, 0, 0⟩
/-- the bytes of a record -/
def recB (r : RecR) : List UInt8 := uintL r.news.l.length ++ newsB r.news.l ++ uintL r.pts.l.length ++ pntsB pnt0 r.pts.l ++ uintL r.gones.l.length ++ gonsB r.gones.l
theorem newsB_snoc (l : List NewQ) (x : NewQ) : newsB (l ++ [x]) = newsB l ++ newB x := by simp [newsB]
theorem gonsB_snoc (l : List GonR) (x : GonR) : gonsB (l ++ [x]) = gonsB l ++ gonB x := by simp [gonsB]
def lastP : PntR → List PntR → PntR
  | p, [] => p
  | _, x :: l => lastP x l
theorem lastP_snoc (p : PntR) (l : List PntR) (x : PntR) : lastP p (l ++ [x]) = x := by
  induction l generalizing p with
  | nil => rfl
  | cons y l ih => exact ih y
theorem pntsB_snoc (p : PntR) (l : List PntR) (x : PntR) : pntsB p (l ++ [x]) = pntsB p l ++ pntB (lastP p l) x := by
  induction l generalizing p with
  | nil => simp [pntsB, lastP]
  | cons y l ih => simp [pntsB, lastP, ih y]
theorem lastP_mem (p : PntR) (l : List PntR) : lastP p l = p ∨ lastP p l ∈ l := by
  induction l generalizing p with
  | nil => exact .inl rfl
  | cons y l ih =>
    rcases ih y with h | h
    · exact .inr (by rw [lastP, h]; exact List.mem_cons_self ..)
    · exact .inr (List.mem_cons_of_mem _ h)
theorem newB_len {x : NewQ} (h : fitNew x) : (newB x).length ≤ 1000 := by
  obtain ⟨⟨h1, h2⟩, h3⟩ := h
  obtain ⟨k1, k2⟩ := valid_small h3
  have a1 := uintL_ten (v := x.ref.toNat) (by omega)
  have a2 := uintL_ten (v := x.lab.l.length) (by omega)
  have a3 := encB_len k2
  simp only [newB, List.length_append]; omega
theorem newsB_len {l : List NewQ} (h : ∀ x ∈ l, fitNew x) : (newsB l).length ≤ 1000 * l.length := by
  induction l with
  | nil => simp [newsB]
  | cons x l ih =>
    have h1 := ih fun y hy => h y (List.mem_cons_of_mem _ hy)
    have h2 := newB_len (h x (List.mem_cons_self ..))
    simp only [newsB, List.flatMap_cons, List.length_append, List.length_cons] at h1 ⊢
    omega
theorem xor_lt64 {a b : Nat} (h : a < 18446744073709551616) (k : b < 18446744073709551616) : a ^^^ b < 18446744073709551616 := Nat.xor_lt_two_pow (n := 64) h k
theorem pntB_len {p x : PntR} (h : fitPnt x) (hv : x.v < 18446744073709551616) (k : fitPnt p) (kv : p.v < 18446744073709551616) : (pntB p x).length ≤ 30 := by
  obtain ⟨⟨h1, h2⟩, h3, h4⟩ := h
  obtain ⟨⟨k1, k2⟩, k3, k4⟩ := k
  have a1 := uintL_ten (zz_lt (v := x.ref - p.ref) (by omega) (by omega))
  have a2 := uintL_ten (zz_lt (v := x.t - p.t) (by omega) (by omega))
  have a3 := uintL_ten (xor_lt64 kv hv)
  simp only [pntB, List.length_append, intL]; omega
theorem pnt0_fit : fitPnt pnt0 := ⟨⟨by decide, by decide⟩, by decide, by decide⟩
theorem pntsB_len {p : PntR} {l : List PntR} (hp : fitPnt p) (hpv : p.v < 18446744073709551616) (h : ∀ x ∈ l, fitPnt x ∧ x.v < 18446744073709551616) : (pntsB p l).length ≤ 30 * l.length := by
  induction l generalizing p with
  | nil => simp [pntsB]
  | cons x l ih =>
    obtain ⟨hx, hxv⟩ := h x (List.mem_cons_self ..)
    have h1 := ih hx hxv fun y hy => h y (List.mem_cons_of_mem _ hy)
    have h2 := pntB_len hx hxv hp hpv
    simp only [pntsB, List.length_append, List.length_cons] at h1 ⊢
    omega
theorem gonB_len {x : GonR} (h : fitGon x) (k : ∀ y ∈ x.sp.l, y.ok) (hn : x.sp.l.length ≤ 4294967296) : (gonB x).length ≤ 40 + 20 * x.sp.l.length := by
  obtain ⟨⟨h1, h2⟩, h3, h4, h5⟩ := h
  have a1 := uintL_ten (v := x.ref.toNat) (by omega)
  have a2 := uintL_ten (v := x.res.toNat) (by omega)
  have a3 := encS_len x.sp.l k
  have a4 := uintL_ten (v := x.sp.l.length) (by omega)
  simp only [gonB, encL, List.length_append]; omega
theorem gonsB_len {l : List GonR} (h : ∀ x ∈ l, fitGon x ∧ (∀ y ∈ x.sp.l, y.ok) ∧ x.sp.l.length ≤ 4294967296) : (gonsB l).length ≤ 40 * l.length + 20 * (l.map fun x => x.sp.l.length).sum := by
  induction l with
  | nil => simp [gonsB]
  | cons x l ih =>
    have h1 := ih fun y hy => h y (List.mem_cons_of_mem _ hy)
    obtain ⟨k1, k2, k3⟩ := h x (List.mem_cons_self ..)
    have h2 := gonB_len k1 k2 k3
    simp only [gonsB, List.flatMap_cons, List.length_append, List.length_cons, List.map_cons, List.sum_cons] at h1 ⊢
    omega

/-- a builder at the block g, made in the world u, and what has been written -/
structure BSt (u : World) (g : Nat) (pre : List UInt8) (w : World) : Prop where
  bld : Lib.IsBuilder 178 5 g g (Lib.byteCells pre) w
  below : Below g u w
  base : u.heap.size = g
theorem BSt.le {u : World} {g : Nat} {pre : List UInt8} {w : World} (h : BSt u g pre w) : g ≤ w.heap.size := by have := h.below.size; have := h.base; omega
theorem BSt.on {u : World} {g : Nat} {pre : List UInt8} {w w' : World} (h : BSt u g pre w) (hb : Below w.heap.size w w') : BSt u g pre w' :=
  ⟨bld_below h.bld hb, h.below.trans (hb.mono h.le), h.base⟩
theorem BSt.pre_eq {u : World} {g : Nat} {pre pre' : List UInt8} {w : World} (h : BSt u g pre w) (e : pre = pre') : BSt u g pre' w := e ▸ h
theorem bst_new (w : World) : BSt w w.heap.size [] (w.alloc (.cells #[.pointer none, .slice none 0 0] 178)) := ⟨bld_new w, (Below.refl _ _).alloc (Nat.le_refl _) _, rfl⟩
theorem bst_str {u : World} {g : Nat} {pre : List UInt8} {w : World} (h : BSt u g pre w) (s : ByteArray) (hl : pre.length + s.size ≤ 140737488355328) :
    Calls Tryz.prog 62 #[.pointer (some ⟨g, 0, none⟩), .string s] w fun e w' => e = .returned (.tuple #[.int .i64 s.size, .nilIface]) ∧ BSt u g (pre ++ s.data.toList) w' ∧ Others w w' := by
  refine (bldStr_any g g _ s w h.bld (by rw [Lib.byteCells_length]; exact hl) h.le).mono ?_
  rintro e w' ⟨rfl, h1, h2, h3⟩
  refine ⟨rfl, ⟨.inr ?_, h.below.trans h2, h.base⟩, h3⟩
  rw [Lib.byteCells_append]; exact h1
theorem bst_num {u : World} {g : Nat} {pre : List UInt8} {w : World} (h : BSt u g pre w) (b n c : Nat) (l : List Nat) (hW : Whole1 w b 3 (natC l).toArray) (hl : l.length = n) (hn : n ≤ 8) (hv : ∀ v ∈ l, v < 9223372036854775808) (hp : pre.length ≤ 70368744177664) :
    Calls Tryz.prog 111 #[.slice (some ⟨b, 0, none⟩) n c, .pointer (some ⟨g, 0, none⟩)] w fun e w' => e = .returned (.tuple #[]) ∧ BSt u g (pre ++ numsB l) w' ∧ Others w w' := by
  refine (numb_any b n c g l pre w hW hl hn hv h.bld hp h.le).mono ?_
  rintro e w' ⟨rfl, h1, h2, h3⟩
  exact ⟨rfl, ⟨h1, h.below.trans h2, h.base⟩, h3⟩
theorem natC_one {v : Int} (h : 0 ≤ v) : (natC [v.toNat]).toArray = #[.int .i64 v] := by
  have : ((v.toNat : Nat) : Int) = v := by omega
  simp [natC, this]
theorem natC_two {v u : Int} (h : 0 ≤ v) (k : 0 ≤ u) : (natC [v.toNat, u.toNat]).toArray = #[.int .i64 v, .int .i64 u] := by
  have : ((v.toNat : Nat) : Int) = v := by omega
  have : ((u.toNat : Nat) : Int) = u := by omega
  simp [natC, *]
theorem bst_num1 {u : World} {g : Nat} {pre : List UInt8} {w : World} (h : BSt u g pre w) (v : Int) (h0 : 0 ≤ v) (h1 : v < 9223372036854775808) (hp : pre.length ≤ 70368744177664) :
    Calls Tryz.prog 111 #[.slice (some ⟨w.heap.size, 0, none⟩) 1 1, .pointer (some ⟨g, 0, none⟩)] (w.alloc (.cells #[.int .i64 v] 3)) fun e w' => e = .returned (.tuple #[]) ∧ BSt u g (pre ++ uintL v.toNat) w' ∧ Others w w' := by
  have hA : Below w.heap.size w (w.alloc (.cells #[.int .i64 v] 3)) := (Below.refl _ _).alloc (Nat.le_refl _) _
  refine (bst_num (h.on hA) w.heap.size 1 1 [v.toNat] (by rw [natC_one h0]; exact Whole1.new w _ _) rfl (by decide) (by intro y hy; simp at hy; omega) hp).mono ?_
  rintro e w' ⟨rfl, h2, h3⟩
  exact ⟨rfl, h2.pre_eq (by simp [numsB]), (others_below hA).trans h3⟩
theorem bst_num2 {u : World} {g : Nat} {pre : List UInt8} {w : World} (h : BSt u g pre w) (v y : Int) (h0 : 0 ≤ v) (h1 : v < 9223372036854775808) (k0 : 0 ≤ y) (k1 : y < 9223372036854775808) (hp : pre.length ≤ 70368744177664) :
    Calls Tryz.prog 111 #[.slice (some ⟨w.heap.size, 0, none⟩) 2 2, .pointer (some ⟨g, 0, none⟩)] (w.alloc (.cells #[.int .i64 v, .int .i64 y] 3)) fun e w' => e = .returned (.tuple #[]) ∧ BSt u g (pre ++ uintL v.toNat ++ uintL y.toNat) w' ∧ Others w w' := by
  have hA : Below w.heap.size w (w.alloc (.cells #[.int .i64 v, .int .i64 y] 3)) := (Below.refl _ _).alloc (Nat.le_refl _) _
  refine (bst_num (h.on hA) w.heap.size 2 2 [v.toNat, y.toNat] (by rw [natC_two h0 k0]; exact Whole1.new w _ _) rfl (by decide) (by intro z hz; simp at hz; omega) hp).mono ?_
  rintro e w' ⟨rfl, h2, h3⟩
  exact ⟨rfl, h2.pre_eq (by simp [numsB]), (others_below hA).trans h3⟩
theorem bld_put {B b : Nat} {q : Value} {bs : List Value} {w : World} {L : Nat} {T : TypeId} {cs : Array Value} (h : Lib.BuilderAt 178 5 B b q bs w) (hW : Whole1 w L T cs) (h1 : T ≠ 5) (h2 : T ≠ 178) (i : Nat) (v : Value) : Lib.BuilderAt 178 5 B b q bs (w.setCell ⟨L, i, none⟩ v) := by
  obtain ⟨k1, x, k2, k3, k4⟩ := h
  have hne : b ≠ L := fun e => by
    rw [e] at k2
    have := hW.symm.trans k2
    simp only [Option.some.injEq, Obj.cells.injEq] at this
    exact h2 this.2.1
  exact ⟨k1, x, (Below.heap_setCell w ⟨L, i, none⟩ v b hne).trans k2, Go.ownsRow_setCell_other k3 (a := ⟨L, i, none⟩) (Lib.ownBlock_ne k3 hW h1) v, k4⟩
theorem BSt.put {u : World} {g : Nat} {pre : List UInt8} {w : World} {L : Nat} {T : TypeId} {cs : Array Value} (h : BSt u g pre w) (hW : Whole1 w L T cs) (h1 : T ≠ 5) (h2 : T ≠ 178) (hL : g ≤ L) (i : Nat) (v : Value) : BSt u g pre (w.setCell ⟨L, i, none⟩ v) := by
  refine ⟨?_, h.below.setCell (p := ⟨L, i, none⟩) hL v, h.base⟩
  rcases h.bld with k | k
  · exact .inl (bld_put k hW h1 h2 i v)
  · exact .inr (bld_put k hW h1 h2 i v)
theorem Whole1.others {w w' : World} {b : Nat} {T : TypeId} {cs : Array Value} (h : Whole1 w b T cs) (k : Others w w') (h1 : T ≠ 5) (h2 : T ≠ 178) : Whole1 w' b T cs := k b _ _ _ h h1 h2
end Go.Proofs.YthncochjhbmceaaGreat

namespace Go.Proofs.YthncochjhbmceaaGreat
set_option maxRecDepth 100000
open Go.RowKit

open Classical in
theorem fitRef_any (n : Int) (w : World) :
    Calls Tryz.prog 152 #[.int .i64 n] w fun e w' => e = .returned (.bool (decide (fitRef n))) ∧ w = w' := by
  by_cases h0 : 0 ≤ n
  · by_cases h1 : n ≤ 1099511627776
    · have HF := hidden (decide_eq_true (show fitRef n from ⟨h0, h1⟩))
      go_enter Tryz.func152, Tryz.ntmps152
      go_wp2_with fail
      go_ret
      rw [HF.out]
      exact ⟨rfl, rfl⟩
    · have h1' : decide (n ≤ 1099511627776) = false := decide_eq_false h1
      have HF := hidden (decide_eq_false (fun h : fitRef n => h1 h.2))
      clear h1
      go_enter Tryz.func152, Tryz.ntmps152
      go_wp2_with fail
      go_ret
      rw [HF.out]
      exact ⟨rfl, rfl⟩
  · have h0' : decide (0 ≤ n) = false := decide_eq_false h0
    have HF := hidden (decide_eq_false (fun h : fitRef n => h0 h.1))
    clear h0
    go_enter Tryz.func152, Tryz.ntmps152
    go_wp2_with fail
    go_ret
    rw [HF.out]
    exact ⟨rfl, rfl⟩
theorem spn_eq {x y : Spn} (h1 : x.frm = y.frm) (h2 : x.til = y.til) : x = y := by cases x; cases y; simp_all
open Classical in
set_option maxHeartbeats 1600000 in
theorem equalS_any (A B : Option Addr) (n m c1 c2 : Nat) (l l2 : List Spn) (w : World) (hr : Row w w.heap.size 2 A n (l.flatMap Spn.cells)) (hr2 : Row w w.heap.size 2 B m (l2.flatMap Spn.cells)) (hl : l.length = n) (hl2 : l2.length = m) (hn : n ≤ 4611686018427387904) (hm : m ≤ 4611686018427387904) :
    Calls Tryz.prog 153 #[.slice A n c1, .slice B m c2] w fun e w' => e = .returned (.bool (decide (l = l2))) ∧ ∃ k, w' = w.drewN k := by
  have hK : ∀ x : Spn, x.cells.length = 2 := fun _ => rfl
  by_cases hnm : n = m
  · subst hnm
    have hL := hidden hl
    have hL2 := hidden hl2
    have HR := hidden hr
    have HR2 := hidden hr2
    have hnn : ((n : Int) != (n : Int)) = false := by simp
    clear hl hl2 hr hr2
    go_enter Tryz.func153, Tryz.ntmps153
    go_wp2_with fail
    go_loopw [13] (fun i wr => ∃ q : Nat, q ≤ n ∧ i = .int .i64 q ∧ Hid (l.take q = l2.take q) ∧ (∃ m, wr = w.drewN m)) (fun i _ => n - (intOf i).toNat)
    case atStart => exact ⟨0, Nat.zero_le _, rfl, hidden rfl, 0, rfl⟩
    case round =>
      obtain ⟨q, hq1, rfl, hT, m, rfl⟩ := hrel
      by_cases hlt : q < n
      · obtain ⟨gs, o, x, rfl, _, hx, hcl⟩ := row_at hK HR.out hL.out q hlt
        obtain ⟨gt, p, y, rfl, _, hy, hdl⟩ := row_at hK HR2.out hL2.out q hlt
        have c0 : w.cell? ⟨gs, o + q * 2, none⟩ = some (.int .i64 x.frm) := hcl 0 (by omega)
        have c1 : w.cell? ⟨gs, o + q * 2 + 1, none⟩ = some (.int .i64 x.til) := hcl 1 (by omega)
        have d0 : w.cell? ⟨gt, p + q * 2, none⟩ = some (.int .i64 y.frm) := hdl 0 (by omega)
        have d1 : w.cell? ⟨gt, p + q * 2 + 1, none⟩ = some (.int .i64 y.til) := hdl 1 (by omega)
        have hlt' : (q : Int) < (n : Int) := by omega
        have hq0 : (0 : Int) ≤ (q : Int) := by omega
        by_cases hxy : x = y
        · subst hxy
          have hT2 := hidden (show l.take (q + 1) = l2.take (q + 1) by rw [take_snoc? hx, take_snoc? hy, hT.out])
          clear hx hy hcl hdl
          go_wp2_with fail
          go_quiet (fail)
          go_wp2_with fail
          go_roundw
          case rel => exact ⟨q + 1, by omega, by go_num, hT2, m + nq, rfl⟩
          case measure => simp [intOf]; omega
        · have HF := hidden (decide_eq_false (fun h : l = l2 => by
            rw [h] at hx
            exact hxy (Option.some.inj (hx.symm.trans hy))))
          have hdiff : (x.frm == y.frm) = false ∨ ((x.frm == y.frm) = true ∧ (x.til == y.til) = false) := by
            by_cases h1 : x.frm = y.frm
            · exact .inr ⟨by simpa using h1, by simpa using fun h2 => hxy (spn_eq h1 h2)⟩
            · exact .inl (by simpa using h1)
          clear hx hy hcl hdl hxy
          rcases hdiff with e1 | ⟨e1, e2⟩
          all_goals
            go_wp2_with fail
            go_quiet (fail)
            go_wp2_with fail
            go_ret
            rw [HF.out]
            exact ⟨rfl, m + nq, World.drewN_drewN _ _ _⟩
      · have hlt' : ¬ (q : Int) < (n : Int) := by omega
        have hqn : q = n := by omega
        have HF := hidden (decide_eq_true (show l = l2 by
          have h := hT.out
          rw [hqn, List.take_of_length_le (by rw [hL.out]; exact Nat.le_refl _), List.take_of_length_le (by rw [hL2.out]; exact Nat.le_refl _)] at h
          exact h))
        go_wp2_with fail
        go_ret
        rw [HF.out]
        exact ⟨rfl, m, rfl⟩
  · have hne : ((n : Int) != (m : Int)) = true := by simp; omega
    have HF := hidden (decide_eq_false (fun h : l = l2 => hnm (by rw [← hl, ← hl2, h])))
    clear hnm hr hr2
    go_enter Tryz.func153, Tryz.ntmps153
    go_wp2_with fail
    go_ret
    rw [HF.out]
    exact ⟨rfl, 0, rfl⟩
end Go.Proofs.YthncochjhbmceaaGreat

namespace Go.Proofs.YthncochjhbmceaaGreat
set_option maxRecDepth 100000
open Go.RowKit

theorem fit_more {α : Type} {p : α → Prop} {l : List α} {k : Nat} {x : α} (h : ∀ y ∈ l.take k, p y) (hx : l[k]? = some x) (hp : p x) : ∀ y ∈ l.take (k + 1), p y := by
  intro y hy
  rw [take_snoc? hx] at hy
  rcases List.mem_append.1 hy with hy | hy
  · exact h y hy
  · rw [List.mem_singleton.1 hy]; exact hp
theorem fit_all {α : Type} {p : α → Prop} {l : List α} {k : Nat} (h : ∀ y ∈ l.take k, p y) (hk : l.length ≤ k) : ∀ y ∈ l, p y := by
  rwa [List.take_of_length_le hk] at h
open Classical in
set_option maxHeartbeats 6400000 in
theorem fit_any (r : RecR) (w : World) (h : r.At w) :
    Calls Tryz.prog 110 #[r.val] w fun e w' => e = .returned (.bool (decide (fitRec r))) ∧ Below w.heap.size w w' := by
  obtain ⟨⟨nA, nn, nc, nl⟩, ⟨pA, pn, pc, pl⟩, ⟨gA, gn, gc, gl⟩⟩ := r
  have hX0 := Whole1.new w 31 #[.slice nA nn nc, .slice pA pn pc, .slice gA gn gc]
  have hB0 : Below w.heap.size w (w.alloc (.cells #[.slice nA nn nc, .slice pA pn pc, .slice gA gn gc] 31)) := (Below.refl _ _).alloc (Nat.le_refl _) _
  obtain ⟨V, hV⟩ : ∃ V, decide (fitRec ⟨⟨nA, nn, nc, nl⟩, ⟨pA, pn, pc, pl⟩, ⟨gA, gn, gc, gl⟩⟩) = V := ⟨_, rfl⟩
  have HV := hidden hV
  rw [hV]
  have few := h.few
  have hnl : nl.length = nn := h.news.2.1
  have hpl : pl.length = pn := h.pts.2.1
  have hgl : gl.length = gn := h.gones.2.1
  have HL := hidden (And.intro hnl (And.intro hpl hgl))
  obtain ⟨f1, f2, f3, f4⟩ := few
  have F4 := hidden (show (gl.map fun x => x.sp.n).sum ≤ 4294967296 from f4)
  simp only at f1 f2 f3
  clear hV hnl hpl hgl f4
  show Calls Tryz.prog 110 #[.agg #[.slice nA nn nc, .slice pA pn pc, .slice gA gn gc]] w _
  go_enter Tryz.func110, Tryz.ntmps110
  go_upto_region 1 with (fail)
  generalize w.alloc (.cells #[.slice nA nn nc, .slice pA pn pc, .slice gA gn gc] 31) = w1 at hX0 hB0 ⊢
  have H := hidden (h.on hB0)
  obtain ⟨g, hg⟩ : ∃ g, w.heap.size = g := ⟨_, rfl⟩
  have HB := hidden hB0
  rw [hg] at hX0 ⊢
  have HX := hidden hX0
  have b0 := hX0.cell 0
  clear hX0 hB0 h hg
  go_wp2_with fail
  clear b0
  go_loopw [12] (fun vi wr => ∃ k : Nat, k ≤ nn ∧ vi = .int .i64 k ∧ Hid (∀ x ∈ nl.take k, fitNew x) ∧ Hid (Below w1.heap.size w1 wr)) (fun vi _ => nn - (intOf vi).toNat)
  case atStart => exact ⟨0, Nat.zero_le _, rfl, hidden (by simp), hidden (Below.refl _ _)⟩
  case round =>
    obtain ⟨k, hk, rfl, hfk, hb⟩ := hrel
    have k0 : (0 : Int) ≤ (k : Int) := by omega
    have H2 := hidden (H.out.on hb.out)
    by_cases hlt : k < nn
    · have k1 : (k : Int) < (nn : Int) := by omega
      obtain ⟨gs, o, x, rfl, _, hx, hcl⟩ := row_at newK H2.out.news.2.2 HL.out.1 k hlt
      have c0 : wr.cell? ⟨gs, o + k * 2, none⟩ = some (.int .i64 x.ref) := hcl 0 (by omega)
      have c1 : wr.cell? ⟨gs, o + k * 2 + 1, none⟩ = some (.slice x.lab.A x.lab.n x.lab.c) := hcl 1 (by omega)
      have HXM := hidden (List.mem_of_getElem? hx)
      have HXK := hidden hx
      clear hx hcl
      go_wp2_with fail
      have X1 := Whole1.new wr 113 #[.int .i64 x.ref, .slice x.lab.A x.lab.n x.lab.c]
      have hbA : Below wr.heap.size wr (wr.alloc (.cells #[.int .i64 x.ref, .slice x.lab.A x.lab.n x.lab.c] 113)) := (Below.refl _ _).alloc (Nat.le_refl _) _
      generalize wr.alloc (.cells #[.int .i64 x.ref, .slice x.lab.A x.lab.n x.lab.c] 113) = wa at X1 hbA ⊢
      have HBA := hidden (hb.out.trans (hbA.mono hb.out.size))
      have d1 := X1.cell 1
      have S2 := hidden (lvalid_any x.lab.A x.lab.n x.lab.c x.lab.l wa ((H.out.on HBA.out).labs x HXM.out).1 ((H.out.on HBA.out).labs x HXM.out).2)
      clear c0 c1 X1 hbA
      refine (fitRef_any x.ref wa).mono ?_
      rintro e wb ⟨rfl, rfl⟩
      by_cases hr : fitRef x.ref
      · rw [decide_eq_true hr]
        have HR := hidden hr
        clear hr
        go_wp2_with fail
        refine S2.out.mono ?_
        rintro e wc ⟨rfl, b2⟩
        have HBC := hidden (HBA.out.trans (b2.mono HBA.out.size))
        clear b2 d1
        by_cases hv : validP x.lab.l
        · rw [decide_eq_true hv]
          have HF2 := hidden (fit_more hfk.out HXK.out ⟨HR.out, hv⟩)
          clear hv
          go_wp2_with fail
          go_roundw
          case rel => exact ⟨k + 1, by omega, by go_num, HF2, HBC⟩
          case measure => simp [intOf]; omega
        · rw [decide_eq_false hv]
          have HVF : Hid (V = false) := by rw [Hid, ← HV.out]; exact decide_eq_false fun hf => hv (hf.1 x HXM.out).2
          clear hv
          go_wp2_with fail
          go_ret
          rw [HVF.out]
          exact ⟨rfl, HB.out.trans (HBC.out.mono HB.out.size)⟩
      · rw [decide_eq_false hr]
        have HVF : Hid (V = false) := by rw [Hid, ← HV.out]; exact decide_eq_false fun hf => hr (hf.1 x HXM.out).1
        clear hr d1
        go_wp2_with fail
        go_ret
        rw [HVF.out]
        exact ⟨rfl, HB.out.trans (HBA.out.mono HB.out.size)⟩
    · have k2 : ¬ (k : Int) < (nn : Int) := by omega
      have HF1 := hidden (fit_all hfk.out (by have := HL.out.1; omega))
      have b1 := (HX.out.below hb.out HX.out.lt).cell 1
      obtain ⟨w2, hw2⟩ : ∃ w2, w2 = wr := ⟨_, rfl⟩
      rw [← hw2] at b1 H2 hb ⊢
      have hb2 := hb
      clear hw2 hfk hb k0 hk hlt
      go_wp2_with fail
      clear b1
      go_loopw [30] (fun vi wr => ∃ k : Nat, k ≤ pn ∧ vi = .int .i64 k ∧ Hid (∀ x ∈ pl.take k, fitPnt x) ∧ Hid (Below w1.heap.size w1 wr)) (fun vi _ => pn - (intOf vi).toNat)
      case atStart => exact ⟨0, Nat.zero_le _, rfl, hidden (by simp), hb2⟩
      case round =>
        obtain ⟨k, hk, rfl, hfk, hb⟩ := hrel
        have k0 : (0 : Int) ≤ (k : Int) := by omega
        have H3 := hidden (H.out.on hb.out)
        by_cases hlt : k < pn
        · have k1 : (k : Int) < (pn : Int) := by omega
          obtain ⟨gs, o, x, rfl, _, hx, hcl⟩ := row_at pntK H3.out.pts.2.2 HL.out.2.1 k hlt
          have c0 : wr.cell? ⟨gs, o + k * 3, none⟩ = some (.int .i64 x.ref) := hcl 0 (by omega)
          have c1 : wr.cell? ⟨gs, o + k * 3 + 1, none⟩ = some (.int .i64 x.t) := hcl 1 (by omega)
          have c2 : wr.cell? ⟨gs, o + k * 3 + 2, none⟩ = some (.int .u64 (x.v : Int)) := hcl 2 (by omega)
          have HXM := hidden (List.mem_of_getElem? hx)
          have HXK := hidden hx
          clear hx hcl
          go_wp2_with fail
          have X1 := Whole1.new wr 115 #[.int .i64 x.ref, .int .i64 x.t, .int .u64 (x.v : Int)]
          have hbA : Below wr.heap.size wr (wr.alloc (.cells #[.int .i64 x.ref, .int .i64 x.t, .int .u64 (x.v : Int)] 115)) := (Below.refl _ _).alloc (Nat.le_refl _) _
          generalize wr.alloc (.cells #[.int .i64 x.ref, .int .i64 x.t, .int .u64 (x.v : Int)] 115) = wa at X1 hbA ⊢
          have HBA := hidden (hb.out.trans (hbA.mono hb.out.size))
          have d1 := X1.cell 1
          clear c0 c1 c2 X1 hbA
          refine (fitRef_any x.ref wa).mono ?_
          rintro e wb ⟨rfl, rfl⟩
          by_cases hr : fitRef x.ref
          · rw [decide_eq_true hr]
            have HR := hidden hr
            clear hr
            by_cases h0 : x.t < 0
            · have HVF : Hid (V = false) := by rw [Hid, ← HV.out]; exact decide_eq_false fun hf => absurd (hf.2.1 x HXM.out).2.1 (by omega)
              clear hk
              go_wp2_with fail
              go_ret
              rw [HVF.out]
              exact ⟨rfl, HB.out.trans (HBA.out.mono HB.out.size)⟩
            · have h0' : decide (x.t < 0) = false := decide_eq_false h0
              by_cases h1 : 1125899906842624 < x.t
              · have HVF : Hid (V = false) := by rw [Hid, ← HV.out]; exact decide_eq_false fun hf => absurd (hf.2.1 x HXM.out).2.2 (by omega)
                clear h0
                go_wp2_with fail
                go_ret
                rw [HVF.out]
                exact ⟨rfl, HB.out.trans (HBA.out.mono HB.out.size)⟩
              · have h1' : decide (1125899906842624 < x.t) = false := decide_eq_false h1
                have HF2 := hidden (fit_more hfk.out HXK.out ⟨HR.out, by omega, by omega⟩)
                clear h0 h1
                go_wp2_with fail
                go_roundw
                case rel => exact ⟨k + 1, by omega, by go_num, HF2, HBA⟩
                case measure => simp [intOf]; omega
          · rw [decide_eq_false hr]
            have HVF : Hid (V = false) := by rw [Hid, ← HV.out]; exact decide_eq_false fun hf => hr (hf.2.1 x HXM.out).1
            clear d1
            go_wp2_with fail
            go_ret
            rw [HVF.out]
            exact ⟨rfl, HB.out.trans (HBA.out.mono HB.out.size)⟩
        · have k2 : ¬ (k : Int) < (pn : Int) := by omega
          have HF2 := hidden (fit_all hfk.out (by have := HL.out.2.1; omega))
          have b2 := (HX.out.below hb.out HX.out.lt).cell 2
          obtain ⟨w3, hw3⟩ : ∃ w3, w3 = wr := ⟨_, rfl⟩
          rw [← hw3] at b2 H3 hb ⊢
          have hb3 := hb
          clear hw3 hfk hb k0 hk hlt
          go_wp2_with fail
          clear b2
          go_loopw [52] (fun vi wr => ∃ k : Nat, k ≤ gn ∧ vi = .int .i64 k ∧ Hid (∀ x ∈ gl.take k, fitGon x) ∧ Hid (Below w1.heap.size w1 wr)) (fun vi _ => gn - (intOf vi).toNat)
          case atStart => exact ⟨0, Nat.zero_le _, rfl, hidden (by simp), hb3⟩
          case round =>
            obtain ⟨k, hk, rfl, hfk, hb⟩ := hrel
            have k0 : (0 : Int) ≤ (k : Int) := by omega
            have H4 := hidden (H.out.on hb.out)
            by_cases hlt : k < gn
            · have k1 : (k : Int) < (gn : Int) := by omega
              obtain ⟨gs, o, x, rfl, _, hx, hcl⟩ := row_at gonRK H4.out.gones.2.2 HL.out.2.2 k hlt
              have c0 : wr.cell? ⟨gs, o + k * 3, none⟩ = some (.int .i64 x.ref) := hcl 0 (by omega)
              have c1 : wr.cell? ⟨gs, o + k * 3 + 1, none⟩ = some (.int .i64 x.res) := hcl 1 (by omega)
              have c2 : wr.cell? ⟨gs, o + k * 3 + 2, none⟩ = some (.slice x.sp.A x.sp.n x.sp.c) := hcl 2 (by omega)
              have HXM := hidden (List.mem_of_getElem? hx)
              have HXK := hidden hx
              clear hx hcl
              go_upto_region 16 with (fail)
              have X1 := Whole1.new wr 118 #[.int .i64 x.ref, .int .i64 x.res, .slice x.sp.A x.sp.n x.sp.c]
              have hbA : Below wr.heap.size wr (wr.alloc (.cells #[.int .i64 x.ref, .int .i64 x.res, .slice x.sp.A x.sp.n x.sp.c] 118)) := (Below.refl _ _).alloc (Nat.le_refl _) _
              generalize wr.alloc (.cells #[.int .i64 x.ref, .int .i64 x.res, .slice x.sp.A x.sp.n x.sp.c] 118) = wa at X1 hbA ⊢
              have HBA := hidden (hb.out.trans (hbA.mono hb.out.size))
              obtain ⟨X, hX⟩ : ∃ X, wr.heap.size = X := ⟨_, rfl⟩
              rw [hX] at X1 ⊢
              have HS := hidden (fun W (hW : Below wa.heap.size wa W) => let Y := X1.below hW X1.lt; (⟨Y.cell 0, Y.cell 1, Y.cell 2⟩ : W.cell? ⟨X, 0, none⟩ = some (.int .i64 x.ref) ∧ W.cell? ⟨X, 1, none⟩ = some (.int .i64 x.res) ∧ W.cell? ⟨X, 2, none⟩ = some (.slice x.sp.A x.sp.n x.sp.c)))
              have HG4 := hidden (fun W (hW : Below wa.heap.size wa W) => (H.out.on (HBA.out.trans (hW.mono HBA.out.size))).spans x HXM.out)
              have hsn := few_sp F4.out HXM.out
              clear c0 c1 c2 X1 hbA hX
              have S1 := hidden (fun W => fitRef_any x.ref W)
              by_cases hr : fitRef x.ref
              · rw [decide_eq_true hr] at S1
                have HR := hidden hr
                clear hr
                by_cases h0 : x.res < 0
                · have HVF : Hid (V = false) := by rw [Hid, ← HV.out]; exact decide_eq_false fun hf => absurd (hf.2.2.1 x HXM.out).2.1 (by omega)
                  clear hk
                  have d0 := (HS.out _ (Below.refl _ _)).1
                  have d1 := (HS.out _ (Below.refl _ _)).2.1
                  have d2 := (HS.out _ (Below.refl _ _)).2.2
                  go_quiet (refine Calls.quiet_of_same ((S1.out _).mono fun _ _ h => ⟨h.1, h.2.symm⟩))
                  go_wp2_with fail
                  go_ret
                  rw [HVF.out]
                  exact ⟨rfl, HB.out.trans ((below_drewN HBA.out nq).mono HB.out.size)⟩
                · have h0' : decide (x.res < 0) = false := decide_eq_false h0
                  by_cases h1 : 3 ≤ x.res
                  · have HVF : Hid (V = false) := by rw [Hid, ← HV.out]; exact decide_eq_false fun hf => absurd (hf.2.2.1 x HXM.out).2.2.1 (by omega)
                    clear h0
                    have d0 := (HS.out _ (Below.refl _ _)).1
                    have d1 := (HS.out _ (Below.refl _ _)).2.1
                    have d2 := (HS.out _ (Below.refl _ _)).2.2
                    go_quiet (refine Calls.quiet_of_same ((S1.out _).mono fun _ _ h => ⟨h.1, h.2.symm⟩))
                    go_wp2_with fail
                    go_ret
                    rw [HVF.out]
                    exact ⟨rfl, HB.out.trans ((below_drewN HBA.out nq).mono HB.out.size)⟩
                  · have h1' : decide (3 ≤ x.res) = false := decide_eq_false h1
                    have hxl := (HG4.out wa (Below.refl _ _)).1.2.1
                    by_cases h2 : x.sp.n = 0
                    · have h2' : ((x.sp.n : Int) == 0) = true := by simp [h2]
                      have HVF : Hid (V = false) := by rw [Hid, ← HV.out]; exact decide_eq_false fun hf => absurd (List.eq_nil_of_length_eq_zero (by omega)) (hf.2.2.1 x HXM.out).2.2.2.1
                      clear h0 h1
                      have d0 := (HS.out _ (Below.refl _ _)).1
                      have d1 := (HS.out _ (Below.refl _ _)).2.1
                      have d2 := (HS.out _ (Below.refl _ _)).2.2
                      go_quiet (refine Calls.quiet_of_same ((S1.out _).mono fun _ _ h => ⟨h.1, h.2.symm⟩))
                      go_wp2_with fail
                      go_ret
                      rw [HVF.out]
                      exact ⟨rfl, HB.out.trans ((below_drewN HBA.out nq).mono HB.out.size)⟩
                    · have h2' : ((x.sp.n : Int) == 0) = false := by simp; omega
                      have SO := hidden (fun W (hW : Below wa.heap.size wa W) => spnOf_any x.sp.A x.sp.n x.sp.c x.sp.l W (HG4.out W hW).1.2.2 (HG4.out W hW).1.2.1 (by omega) (HG4.out W hW).2)
                      go_region_held3 (fun W => W.cell? ⟨X, 0, none⟩ = some (.int .i64 x.ref) ∧ W.cell? ⟨X, 1, none⟩ = some (.int .i64 x.res) ∧ W.cell? ⟨X, 2, none⟩ = some (.slice x.sp.A x.sp.n x.sp.c))
                        (first | exact HS.out _ (Below.refl _ _) | exact HS.out _ (Below.refl _ _).drew | exact HS.out _ (by assumption))
                        (first
                          | (go_at_call 152; refine (S1.out _).mono ?_; rintro e wb ⟨rfl, rfl⟩)
                          | (go_at_call 153; refine (equalS_any _ _ _ _ _ _ R x.sp.l _ HRR.out (HG4.out _ kc).1.2.2 rfl (HG4.out _ kc).1.2.1 (by omega) (by omega)).mono ?_; rintro e wd ⟨rfl, kk, rfl⟩; obtain ⟨D, hD⟩ : ∃ D, decide (R = x.sp.l) = D := ⟨_, rfl⟩; rw [hD]; have HD := hidden hD; clear hD; have kd : Below wa.heap.size wa (wc.drewN kk) := below_drewN kc kk)
                          | (go_at_call 34; refine (SO.out _ (Below.refl _ _).drew).mono ?_; rintro e wc ⟨v9, R, rfl, ho9, hof9, hRn, bc⟩; obtain ⟨A9, c9, rfl, _, hr9⟩ := own_shape ho9; have kc : Below wa.heap.size wa wc := (Below.refl _ _).drew.trans bc; have HRR := hidden hr9; have HOF := hidden hof9; clear ho9 hof9 hr9 bc))
                      cases D with
                      | true =>
                        have hRl := of_decide_eq_true HD.out
                        have HF2 := hidden (fit_more hfk.out HXK.out (p := fitGon) ⟨HR.out, by omega, by omega, fun he => by rw [he] at hxl; simp at hxl; omega, by rw [← hRl]; exact HOF.out.one⟩)
                        have HBD := hidden (HBA.out.trans (kd.mono HBA.out.size))
                        clear hRl
                        go_wp2_with fail
                        go_roundw
                        case rel => exact ⟨k + 1, by omega, by go_num, HF2, HBD⟩
                        case measure => simp [intOf]; omega
                      | false =>
                        have hRl := of_decide_eq_false HD.out
                        have HVF : Hid (V = false) := by rw [Hid, ← HV.out]; exact decide_eq_false fun hf => hRl (HOF.out.uniq (OfRes.self (hf.2.2.1 x HXM.out).2.2.2.2) fun _ => rfl)
                        have HBD := hidden (HBA.out.trans (kd.mono HBA.out.size))
                        clear hRl
                        go_wp2_with fail
                        go_ret
                        rw [HVF.out]
                        exact ⟨rfl, HB.out.trans (HBD.out.mono HB.out.size)⟩
              · rw [decide_eq_false hr] at S1
                have HVF : Hid (V = false) := by rw [Hid, ← HV.out]; exact decide_eq_false fun hf => hr (hf.2.2.1 x HXM.out).1
                clear hr
                have d0 := (HS.out _ (Below.refl _ _)).1
                have d1 := (HS.out _ (Below.refl _ _)).2.1
                have d2 := (HS.out _ (Below.refl _ _)).2.2
                go_quiet (refine Calls.quiet_of_same ((S1.out _).mono fun _ _ h => ⟨h.1, h.2.symm⟩))
                go_wp2_with fail
                go_ret
                rw [HVF.out]
                exact ⟨rfl, HB.out.trans ((below_drewN HBA.out nq).mono HB.out.size)⟩
            · have k2 : ¬ (k : Int) < (gn : Int) := by omega
              have HF3 := hidden (fit_all hfk.out (by have := HL.out.2.2; omega))
              have b0 := (HX.out.below hb.out HX.out.lt).cell 0
              have b1 := (HX.out.below hb.out HX.out.lt).cell 1
              have b2 := (HX.out.below hb.out HX.out.lt).cell 2
              have s1 : IntKind.i64.wrap ((nn : Int) + (pn : Int)) = (nn : Int) + (pn : Int) := Go.IntWalk.i64_in _ (by omega)
              have s2 : IntKind.i64.wrap ((nn : Int) + (pn : Int) + (gn : Int)) = (nn : Int) + (pn : Int) + (gn : Int) := Go.IntWalk.i64_in _ (by omega)
              by_cases hz : 0 < nn + pn + gn
              · have z1 : (0 : Int) < (nn : Int) + (pn : Int) + (gn : Int) := by omega
                have HVT : Hid (V = true) := by rw [Hid, ← HV.out]; exact decide_eq_true ⟨HF1.out, HF2.out, HF3.out, hz⟩
                clear hz
                go_wp2_with fail
                go_ret
                rw [HVT.out]
                exact ⟨rfl, HB.out.trans (hb.out.mono HB.out.size)⟩
              · have z1 : decide ((0 : Int) < (nn : Int) + (pn : Int) + (gn : Int)) = false := decide_eq_false (by omega)
                have HVF : Hid (V = false) := by rw [Hid, ← HV.out]; exact decide_eq_false fun hf => hz hf.2.2.2
                clear hz
                go_wp2_with fail
                go_ret
                rw [HVF.out]
                exact ⟨rfl, HB.out.trans (hb.out.mono HB.out.size)⟩
end Go.Proofs.YthncochjhbmceaaGreat
