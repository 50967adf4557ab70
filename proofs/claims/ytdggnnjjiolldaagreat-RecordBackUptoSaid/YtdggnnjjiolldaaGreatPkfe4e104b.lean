/- The bytes of a record, plainly; a builder that is written to. No condition. strings.IndexByte of any text; of the digits to the base 16. No condition. -/
import Derived.Test.YtdggnnjjiolldaaGreatPkaa4f73d5
import Derived.Test.YtdggnnjjiolldaaGreatPka150b50f
import Derived.Test.YtdggnnjjiolldaaGreatPkd59f2b6f
import Derived.OneCell
import Derived.Test.YtdggnnjjiolldaaGreatPk00738a2a
import Derived.Test.YtdggnnjjiolldaaGreatPk87ef98f9
import Derived.Lib.Bytealg
namespace Go.Proofs.YtdggnnjjiolldaaGreat
set_option maxRecDepth 100000
open Go.RowKit Go.Shelf

def newB (x : NewR) : List UInt8 := uintL x.ref.toNat ++ (uintL x.lab.l.length ++ encB x.lab.l)
def pntB (last x : PntR) : List UInt8 := intL (x.ref - last.ref) ++ (intL (x.t - last.t) ++ uintL (last.v ^^^ x.v))
def pntsB (last : PntR) : List PntR → List UInt8
  | [] => []
  | x :: l => pntB last x ++ pntsB x l
def gonB (x : GonR) : List UInt8 := uintL x.ref.toNat ++ (uintL x.res.toNat ++ encL x.sp.l)
def newsB (l : List NewR) : List UInt8 := l.flatMap newB
def gonsB (l : List GonR) : List UInt8 := l.flatMap gonB
def pnt0 : PntR := ⟨0, 0, 0⟩
/-- the bytes of a record -/
def recB (r : RecR) : List UInt8 := uintL r.news.l.length ++ newsB r.news.l ++ uintL r.pts.l.length ++ pntsB pnt0 r.pts.l ++ uintL r.gones.l.length ++ gonsB r.gones.l
theorem newsB_snoc (l : List NewR) (x : NewR) : newsB (l ++ [x]) = newsB l ++ newB x := by simp [newsB]
theorem gonsB_snoc (l : List GonR) (x : GonR) : gonsB (l ++ [x]) = gonsB l ++ gonB x := by simp [gonsB]
def lastP : PntR → List PntR → PntR
  | p, [] => p
  | _, x :: l => lastP x l
theorem lastP_snoc (p : PntR) (l : List PntR) (x : PntR) : lastP p (l ++ [x]) = x := by
  induction l generalizing p with
  | nil => rfl
  | cons y l ih => exact ih y
theorem pntsB_snoc (p : PntR) (l : List PntR) (x : PntR) : pntsB p (l ++ [x]) = pntsB p l ++ pntB (lastP p l) x := by
  induction l generalizing p with
  | nil => simp [pntsB, lastP]
  | cons y l ih => simp [pntsB, lastP, ih y]
theorem lastP_mem (p : PntR) (l : List PntR) : lastP p l = p ∨ lastP p l ∈ l := by
  induction l generalizing p with
  | nil => exact .inl rfl
  | cons y l ih =>
    rcases ih y with h | h
    · exact .inr (by rw [lastP, h]; exact List.mem_cons_self ..)
    · exact .inr (List.mem_cons_of_mem _ h)
theorem newB_len {x : NewR} (h : fitNew x) : (newB x).length ≤ 1000 := by
  obtain ⟨⟨h1, h2⟩, h3⟩ := h
  obtain ⟨k1, k2⟩ := valid_small h3
  have a1 := uintL_ten (v := x.ref.toNat) (by omega)
  have a2 := uintL_ten (v := x.lab.l.length) (by omega)
  have a3 := encB_len k2
  simp only [newB, List.length_append]; omega
theorem newsB_len {l : List NewR} (h : ∀ x ∈ l, fitNew x) : (newsB l).length ≤ 1000 * l.length := by
  induction l with
  | nil => simp [newsB]
  | cons x l ih =>
    have h1 := ih fun y hy => h y (List.mem_cons_of_mem _ hy)
    have h2 := newB_len (h x (List.mem_cons_self ..))
    simp only [newsB, List.flatMap_cons, List.length_append, List.length_cons] at h1 ⊢
    omega
theorem xor_lt64 {a b : Nat} (h : a < 18446744073709551616) (k : b < 18446744073709551616) : a ^^^ b < 18446744073709551616 := Nat.xor_lt_two_pow (n := 64) h k
theorem pntB_len {p x : PntR} (h : fitPnt x) (hv : x.v < 18446744073709551616) (k : fitPnt p) (kv : p.v < 18446744073709551616) : (pntB p x).length ≤ 30 := by
  obtain ⟨⟨h1, h2⟩, h3, h4⟩ := h
  obtain ⟨⟨k1, k2⟩, k3, k4⟩ := k
  have a1 := uintL_ten (zz_lt (v := x.ref - p.ref) (by omega) (by omega))
  have a2 := uintL_ten (zz_lt (v := x.t - p.t) (by omega) (by omega))
  have a3 := uintL_ten (xor_lt64 kv hv)
  simp only [pntB, List.length_append, intL]; omega
theorem pnt0_fit : fitPnt pnt0 := ⟨⟨by decide, by decide⟩, by decide, by decide⟩
theorem pntsB_len {p : PntR} {l : List PntR} (hp : fitPnt p) (hpv : p.v < 18446744073709551616) (h : ∀ x ∈ l, fitPnt x ∧ x.v < 18446744073709551616) : (pntsB p l).length ≤ 30 * l.length := by
  induction l generalizing p with
  | nil => simp [pntsB]
  | cons x l ih =>
    obtain ⟨hx, hxv⟩ := h x (List.mem_cons_self ..)
    have h1 := ih hx hxv fun y hy => h y (List.mem_cons_of_mem _ hy)
    have h2 := pntB_len hx hxv hp hpv
    simp only [pntsB, List.length_append, List.length_cons] at h1 ⊢
    omega
theorem gonB_len {x : GonR} (h : fitGon x) (k : ∀ y ∈ x.sp.l, y.ok) (hn : x.sp.l.length ≤ 4294967296) : (gonB x).length ≤ 40 + 20 * x.sp.l.length := by
  obtain ⟨⟨h1, h2⟩, h3, h4, h5⟩ := h
  have a1 := uintL_ten (v := x.ref.toNat) (by omega)
  have a2 := uintL_ten (v := x.res.toNat) (by omega)
  have a3 := encS_len x.sp.l k
  have a4 := uintL_ten (v := x.sp.l.length) (by omega)
  simp only [gonB, encL, List.length_append]; omega
theorem gonsB_len {l : List GonR} (h : ∀ x ∈ l, fitGon x ∧ (∀ y ∈ x.sp.l, y.ok) ∧ x.sp.l.length ≤ 4294967296) : (gonsB l).length ≤ 40 * l.length + 20 * (l.map fun x => x.sp.l.length).sum := by
  induction l with
  | nil => simp [gonsB]
  | cons x l ih =>
    have h1 := ih fun y hy => h y (List.mem_cons_of_mem _ hy)
    obtain ⟨k1, k2, k3⟩ := h x (List.mem_cons_self ..)
    have h2 := gonB_len k1 k2 k3
    simp only [gonsB, List.flatMap_cons, List.length_append, List.length_cons, List.map_cons, List.sum_cons] at h1 ⊢
    omega

/-- a builder at the block g, made in the world u, and what has been written -/
structure BSt (u : World) (g : Nat) (pre : List UInt8) (w : World) : Prop where
  bld : Lib.IsBuilder 48 5 g g (Lib.byteCells pre) w
  below : Below g u w
  base : u.heap.size = g
theorem BSt.le {u : World} {g : Nat} {pre : List UInt8} {w : World} (h : BSt u g pre w) : g ≤ w.heap.size := by have := h.below.size; have := h.base; omega
theorem BSt.on {u : World} {g : Nat} {pre : List UInt8} {w w' : World} (h : BSt u g pre w) (hb : Below w.heap.size w w') : BSt u g pre w' :=
  ⟨bld_below h.bld hb, h.below.trans (hb.mono h.le), h.base⟩
theorem BSt.pre_eq {u : World} {g : Nat} {pre pre' : List UInt8} {w : World} (h : BSt u g pre w) (e : pre = pre') : BSt u g pre' w := e ▸ h
theorem bst_new (w : World) : BSt w w.heap.size [] (w.alloc (.cells #[.pointer none, .slice none 0 0] 48)) := ⟨bld_new w, (Below.refl _ _).alloc (Nat.le_refl _) _, rfl⟩
theorem bst_str {u : World} {g : Nat} {pre : List UInt8} {w : World} (h : BSt u g pre w) (s : ByteArray) (hl : pre.length + s.size ≤ 140737488355328) :
    Calls Tryz.prog 14 #[.pointer (some ⟨g, 0, none⟩), .string s] w fun e w' => e = .returned (.tuple #[.int .i64 s.size, .nilIface]) ∧ BSt u g (pre ++ s.data.toList) w' ∧ Others w w' := by
  refine (bldStr_any g g _ s w h.bld (by rw [Lib.byteCells_length]; exact hl) h.le).mono ?_
  rintro e w' ⟨rfl, h1, h2, h3⟩
  refine ⟨rfl, ⟨.inr ?_, h.below.trans h2, h.base⟩, h3⟩
  rw [Lib.byteCells_append]; exact h1
theorem bst_num {u : World} {g : Nat} {pre : List UInt8} {w : World} (h : BSt u g pre w) (b n c : Nat) (l : List Nat) (hW : Whole1 w b 3 (natC l).toArray) (hl : l.length = n) (hn : n ≤ 8) (hv : ∀ v ∈ l, v < 9223372036854775808) (hp : pre.length ≤ 70368744177664) :
    Calls Tryz.prog 13 #[.slice (some ⟨b, 0, none⟩) n c, .pointer (some ⟨g, 0, none⟩)] w fun e w' => e = .returned (.tuple #[]) ∧ BSt u g (pre ++ numsB l) w' ∧ Others w w' := by
  refine (numb_any b n c g l pre w hW hl hn hv h.bld hp h.le).mono ?_
  rintro e w' ⟨rfl, h1, h2, h3⟩
  exact ⟨rfl, ⟨h1, h.below.trans h2, h.base⟩, h3⟩
theorem natC_one {v : Int} (h : 0 ≤ v) : (natC [v.toNat]).toArray = #[.int .i64 v] := by
  have : ((v.toNat : Nat) : Int) = v := by omega
  simp [natC, this]
theorem natC_two {v u : Int} (h : 0 ≤ v) (k : 0 ≤ u) : (natC [v.toNat, u.toNat]).toArray = #[.int .i64 v, .int .i64 u] := by
  have : ((v.toNat : Nat) : Int) = v := by omega
  have : ((u.toNat : Nat) : Int) = u := by omega
  simp [natC, *]
theorem bst_num1 {u : World} {g : Nat} {pre : List UInt8} {w : World} (h : BSt u g pre w) (v : Int) (h0 : 0 ≤ v) (h1 : v < 9223372036854775808) (hp : pre.length ≤ 70368744177664) :
    Calls Tryz.prog 13 #[.slice (some ⟨w.heap.size, 0, none⟩) 1 1, .pointer (some ⟨g, 0, none⟩)] (w.alloc (.cells #[.int .i64 v] 3)) fun e w' => e = .returned (.tuple #[]) ∧ BSt u g (pre ++ uintL v.toNat) w' ∧ Others w w' := by
  have hA : Below w.heap.size w (w.alloc (.cells #[.int .i64 v] 3)) := (Below.refl _ _).alloc (Nat.le_refl _) _
  refine (bst_num (h.on hA) w.heap.size 1 1 [v.toNat] (by rw [natC_one h0]; exact Whole1.new w _ _) rfl (by decide) (by intro y hy; simp at hy; omega) hp).mono ?_
  rintro e w' ⟨rfl, h2, h3⟩
  exact ⟨rfl, h2.pre_eq (by simp [numsB]), (others_below hA).trans h3⟩
theorem bst_num2 {u : World} {g : Nat} {pre : List UInt8} {w : World} (h : BSt u g pre w) (v y : Int) (h0 : 0 ≤ v) (h1 : v < 9223372036854775808) (k0 : 0 ≤ y) (k1 : y < 9223372036854775808) (hp : pre.length ≤ 70368744177664) :
    Calls Tryz.prog 13 #[.slice (some ⟨w.heap.size, 0, none⟩) 2 2, .pointer (some ⟨g, 0, none⟩)] (w.alloc (.cells #[.int .i64 v, .int .i64 y] 3)) fun e w' => e = .returned (.tuple #[]) ∧ BSt u g (pre ++ uintL v.toNat ++ uintL y.toNat) w' ∧ Others w w' := by
  have hA : Below w.heap.size w (w.alloc (.cells #[.int .i64 v, .int .i64 y] 3)) := (Below.refl _ _).alloc (Nat.le_refl _) _
  refine (bst_num (h.on hA) w.heap.size 2 2 [v.toNat, y.toNat] (by rw [natC_two h0 k0]; exact Whole1.new w _ _) rfl (by decide) (by intro z hz; simp at hz; omega) hp).mono ?_
  rintro e w' ⟨rfl, h2, h3⟩
  exact ⟨rfl, h2.pre_eq (by simp [numsB]), (others_below hA).trans h3⟩
theorem bld_put {B b : Nat} {q : Value} {bs : List Value} {w : World} {L : Nat} {T : TypeId} {cs : Array Value} (h : Lib.BuilderAt 48 5 B b q bs w) (hW : Whole1 w L T cs) (h1 : T ≠ 5) (h2 : T ≠ 48) (i : Nat) (v : Value) : Lib.BuilderAt 48 5 B b q bs (w.setCell ⟨L, i, none⟩ v) := by
  obtain ⟨k1, x, k2, k3, k4⟩ := h
  have hne : b ≠ L := fun e => by
    rw [e] at k2
    have := hW.symm.trans k2
    simp only [Option.some.injEq, Obj.cells.injEq] at this
    exact h2 this.2.1
  exact ⟨k1, x, (Below.heap_setCell w ⟨L, i, none⟩ v b hne).trans k2, Go.ownsRow_setCell_other k3 (a := ⟨L, i, none⟩) (Lib.ownBlock_ne k3 hW h1) v, k4⟩
theorem BSt.put {u : World} {g : Nat} {pre : List UInt8} {w : World} {L : Nat} {T : TypeId} {cs : Array Value} (h : BSt u g pre w) (hW : Whole1 w L T cs) (h1 : T ≠ 5) (h2 : T ≠ 48) (hL : g ≤ L) (i : Nat) (v : Value) : BSt u g pre (w.setCell ⟨L, i, none⟩ v) := by
  refine ⟨?_, h.below.setCell (p := ⟨L, i, none⟩) hL v, h.base⟩
  rcases h.bld with k | k
  · exact .inl (bld_put k hW h1 h2 i v)
  · exact .inr (bld_put k hW h1 h2 i v)
theorem Whole1.others {w w' : World} {b : Nat} {T : TypeId} {cs : Array Value} (h : Whole1 w b T cs) (k : Others w w') (h1 : T ≠ 5) (h2 : T ≠ 48) : Whole1 w' b T cs := k b _ _ _ h h1 h2
end Go.Proofs.YtdggnnjjiolldaaGreat

namespace Go.Proofs.YtdggnnjjiolldaaGreat
set_option maxRecDepth 100000
open Go.RowKit

def digits16 : ByteArray := ⟨#[48, 49, 50, 51, 52, 53, 54, 55, 56, 57, 97, 98, 99, 100, 101, 102]⟩
theorem digits_all : ∀ n : Fin 256, Lib.indexByte digits16.data.toList (UInt8.ofNat n.val) = if hexV (UInt8.ofNat n.val) < 16 then (hexV (UInt8.ofNat n.val) : Int) else -1 := by decide +kernel
theorem digits_ix (b : UInt8) : Lib.indexByte digits16.data.toList b = if hexV b < 16 then (hexV b : Int) else -1 := by
  have h := digits_all ⟨b.toNat, b.toNat_lt⟩
  simpa using h
end Go.Proofs.YtdggnnjjiolldaaGreat
