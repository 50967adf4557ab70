/- A head, as it lies. No program is walked here. What is selected, as a list. No program is walked here. What Erase tells, plainly and as it lies. No program is walked here. head.New, Len, walked. No condition. head.Erase without widths, walked. Condition: the head is one, the matchers are within the reach. -/
import Derived.Test.YthncochjhbmceaaGreatPk56d15d90
import Derived.Test.YthncochjhbmceaaGreatPk1dcfe404
import Derived.Test.YthncochjhbmceaaGreatPkbc11ba46
import Derived.Test.YthncochjhbmceaaGreatPkb025935b
import Derived.BigQuiet
namespace Go.Proofs.YthncochjhbmceaaGreat
set_option maxRecDepth 100000
open Go.RowKit

/-- a series in a head, as it lies -/
structure HsR where
  b : Nat
  mx : Int
  gv : Value
  gone : List Spn
  sv : Value
  sm : List Smp
def HsR.cells (x : HsR) : Array Value := #[.int .i64 x.mx, x.gv, .slice none 0 0, .slice none 0 0, x.sv]
def HsR.ptr (x : HsR) : Value := .pointer (some ⟨x.b, 0, none⟩)
structure HsR.At (w : World) (base : Nat) (x : HsR) : Prop where
  blk : Whole1 w x.b 107 x.cells
  old : base ≤ x.b
  gon : w.ownsRow base 33 2 x.gv x.gone.length (x.gone.flatMap Spn.cells)
  smp : w.ownsRow base 68 2 x.sv x.sm.length (x.sm.flatMap Smp.cells)
  gnl : x.gone = [] → x.gv = .slice none 0 0
/-- two series in blocks of their own -/
def HsR.off (x y : HsR) : Prop := x.b ≠ y.b ∧ ∀ g, x.sv.ownBlock = some g → y.sv.ownBlock ≠ some g
structure HedB (w : World) (base h ip : Nat) (sv : Value) (E : List (List Lbl)) (S : List HsR) : Prop where
  blk : Whole1 w h 99 #[.pointer (some ⟨ip, 0, none⟩), sv]
  old : base ≤ h
  idx : Idx w base ip E
  row : w.ownsRow base 108 1 sv S.length (S.map HsR.ptr)
  len : S.length = E.length
  at_ : ∀ x ∈ S, x.At w base
  off : S.Pairwise HsR.off
/-- A HEAD OF THESE SERIES -/
def Hed (w : World) (base h : Nat) (E : List (List Lbl)) (S : List HsR) : Prop := ∃ ip sv, HedB w base h ip sv E S
section
variable {w w' : World} {base b h ip : Nat} {sv : Value} {E : List (List Lbl)} {S : List HsR} {ts : List TypeId} {mp : Bool}
theorem HsR.At.turn {x : HsR} (k : x.At w base) (t : Turn b ts mp w w') (h1 : 107 ∉ ts) (h2 : 33 ∉ ts) (h3 : 68 ∉ ts) : x.At w' base :=
  ⟨t.whole k.blk (.inr h1), k.old, t.own k.gon (.inl h2), t.own k.smp (.inl h3), k.gnl⟩
theorem HsR.At.below {x : HsR} (k : x.At w base) (hb : Below w.heap.size w w') : x.At w' base := k.turn (Turn.of_below hb 0 [] false) (by simp) (by simp) (by simp)
theorem HedB.turn (k : HedB w base h ip sv E S) (t : Turn b ts false w w') (hn : ∀ u ∈ [172, 61, 70, 3, 99, 108, 107, 33, 68], u ∉ ts) : HedB w' base h ip sv E S :=
  ⟨t.whole k.blk (.inr (hn _ (by simp))), k.old, k.idx.turn t (hn _ (by simp)) (hn _ (by simp)) (hn _ (by simp)) (hn _ (by simp)), t.own k.row (.inl (hn _ (by simp))), k.len, fun x hx => (k.at_ x hx).turn t (hn _ (by simp)) (hn _ (by simp)) (hn _ (by simp)), k.off⟩
theorem HedB.below (k : HedB w base h ip sv E S) (hb : Below w.heap.size w w') : HedB w' base h ip sv E S := k.turn (Turn.of_below hb 0 [] false) (by simp)
theorem Hed.turn (k : Hed w base h E S) (t : Turn b ts false w w') (hn : ∀ u ∈ [172, 61, 70, 3, 99, 108, 107, 33, 68], u ∉ ts) : Hed w' base h E S := by
  obtain ⟨ip, sv, k⟩ := k
  exact ⟨ip, sv, k.turn t hn⟩
theorem Hed.below (k : Hed w base h E S) (hb : Below w.heap.size w w') : Hed w' base h E S := k.turn (Turn.of_below hb 0 [] false) (by simp)
end
/-- an entry, as it lies -/
structure EntR where
  lab : Sl Lbl
  t : Int
  v : Nat
def EntR.cells (x : EntR) : List Value := [x.lab.val, .int .i64 x.t, .int .u64 (x.v : Int)]
def EntR.p (x : EntR) : EntP := ⟨x.lab.l, x.t, x.v⟩
/-- a batch of entries -/
structure EntF (w : World) (A : Option Addr) (n : Nat) (xs : List EntR) : Prop where
  row : Row w w.heap.size 3 A n (xs.flatMap EntR.cells)
  len : xs.length = n
  few : n ≤ 1048576
  labs : ∀ x ∈ xs, LbF w x.lab.A x.lab.n x.lab.l ∧ x.lab.n ≤ x.lab.c
  ok : ∀ x ∈ xs, -9223372036854775808 ≤ x.t ∧ x.t < 9223372036854775808 ∧ x.v < 18446744073709551616
theorem EntF.on {w w' : World} {A : Option Addr} {n : Nat} {xs : List EntR} (h : EntF w A n xs) (hb : Below w.heap.size w w') : EntF w' A n xs :=
  ⟨(h.row.below hb).more hb.size, h.len, h.few, fun x hx => ⟨(h.labs x hx).1.on hb, (h.labs x hx).2⟩, h.ok⟩
/-- a record of its maker's own: its rows lie in blocks of their kinds -/
structure RecO (w : World) (base : Nat) (r : RecR) : Prop where
  at_ : r.At w
  news : w.ownsRow base 113 2 r.news.val r.news.n (r.news.l.flatMap NewQ.cells)
  labs : ∀ x ∈ r.news.l, LbT w x.lab.A x.lab.n x.lab.l
  pts : w.ownsRow base 115 3 r.pts.val r.pts.n (r.pts.l.flatMap PntR.cells)
  gones : w.ownsRow base 118 3 r.gones.val r.gones.n (r.gones.l.flatMap GonR.cells)
  spns : ∀ x ∈ r.gones.l, w.ownsRow base 33 2 x.sp.val x.sp.n (x.sp.l.flatMap Spn.cells)
end Go.Proofs.YthncochjhbmceaaGreat

namespace Go.Proofs.YthncochjhbmceaaGreat
set_option maxRecDepth 100000
open Go.RowKit Go.Shelf

/-- the numbers of those of the first k sets that fit -/
def fitsTo (E : List (List Lbl)) (ms : List Mt) : Nat → List Int
  | 0 => []
  | k + 1 => fitsTo E ms k ++ (match E[k]? with
    | some l => if allM l ms = true then [(k : Int)] else []
    | none => [])
theorem fitsTo_yes {E : List (List Lbl)} {ms : List Mt} {k : Nat} {l : List Lbl} (h : E[k]? = some l) (hf : allM l ms = true) : fitsTo E ms (k + 1) = fitsTo E ms k ++ [(k : Int)] := by
  rw [fitsTo, h]; simp [hf]
theorem fitsTo_no {E : List (List Lbl)} {ms : List Mt} {k : Nat} {l : List Lbl} (h : E[k]? = some l) (hf : allM l ms = false) : fitsTo E ms (k + 1) = fitsTo E ms k := by
  rw [fitsTo, h]; simp [hf]
theorem mem_fitsTo {E : List (List Lbl)} {ms : List Mt} {z : Int} : ∀ {k : Nat}, z ∈ fitsTo E ms k ↔ ∃ (i : Nat) (l : List Lbl), i < k ∧ E[i]? = some l ∧ z = (i : Int) ∧ allM l ms = true
  | 0 => by simp [fitsTo]
  | k + 1 => by
    have ih := mem_fitsTo (E := E) (ms := ms) (z := z) (k := k)
    rw [fitsTo, List.mem_append, ih]
    constructor
    · rintro (⟨i, l, h1, h2, h3, h4⟩ | h)
      · exact ⟨i, l, by omega, h2, h3, h4⟩
      · cases he : E[k]? with
        | none => rw [he] at h; simp at h
        | some l =>
          rw [he] at h
          simp only at h
          split at h
          · rename_i hf
            exact ⟨k, l, by omega, he, by simpa using h, hf⟩
          · simp at h
    · rintro ⟨i, l, h1, h2, h3, h4⟩
      rcases Nat.lt_or_ge i k with hi | hi
      · exact .inl ⟨i, l, hi, h2, h3, h4⟩
      · obtain rfl : i = k := by omega
        refine .inr ?_
        rw [h2]
        simp [h4, h3]
theorem fitsTo_rising (E : List (List Lbl)) (ms : List Mt) : ∀ k, rising (fitsTo E ms k)
  | 0 => List.Pairwise.nil
  | k + 1 => by
    rw [fitsTo]
    refine List.pairwise_append.2 ⟨fitsTo_rising E ms k, ?_, fun a ha b hb => ?_⟩
    · split
      · split
        · exact List.pairwise_singleton _ _
        · exact List.Pairwise.nil
      · exact List.Pairwise.nil
    · obtain ⟨i, l, h1, _, rfl, _⟩ := mem_fitsTo.1 ha
      have : b = (k : Int) := by
        split at hb
        · split at hb
          · simpa using hb
          · simp at hb
        · simp at hb
      omega
theorem fitsTo_len (E : List (List Lbl)) (ms : List Mt) : ∀ k, (fitsTo E ms k).length ≤ k
  | 0 => Nat.le_refl _
  | k + 1 => by
    have ih := fitsTo_len E ms k
    rw [fitsTo, List.length_append]
    have : (match E[k]? with
      | some l => if allM l ms = true then [(k : Int)] else []
      | none => []).length ≤ 1 := by
      split
      · split <;> simp
      · simp
    omega
theorem sel_is {E : List (List Lbl)} {ms : List Mt} {S : List Int} (hr : rising S) (hm : ∀ z, z ∈ S ↔ selE E ms z) : S = fitsTo E ms E.length :=
  rising_ext hr (fitsTo_rising _ _ _) fun z => (hm z).trans ((⟨fun ⟨i, l, h1, h2, h3⟩ => ⟨i, l, (List.getElem?_eq_some_iff.1 h1).1, h1, h2, h3⟩, fun ⟨i, l, _, h2, h3, h4⟩ => ⟨i, l, h2, h3, h4⟩⟩ : selE E ms z ↔ _).trans mem_fitsTo.symm)
end Go.Proofs.YthncochjhbmceaaGreat

namespace Go.Proofs.YthncochjhbmceaaGreat
set_option maxRecDepth 100000
open Go.RowKit

def eraG (mx : List Int) (T : List Spn) (z : Int) : Int × Int × List Spn := (z, 0, clipS 0 (mx.getD z.toNat (-1)) T)
def fullG (q : Int × Int × List Spn) : Bool := decide (0 < q.2.2.length)
/-- what is taken away of the series that were asked for -/
def eraL (mx : List Int) (T : List Spn) (S : List Int) : List (Int × Int × List Spn) := (S.map (eraG mx T)).filter fullG
def GonR.q (g : GonR) : Int × Int × List Spn := (g.ref, g.res, g.sp.l)
theorem eraL_nil (mx : List Int) (S : List Int) : eraL mx [] S = [] := by
  unfold eraL
  rw [List.filter_eq_nil_iff]
  intro q hq
  obtain ⟨z, _, rfl⟩ := List.mem_map.1 hq
  simp [eraG, fullG, clipS, fullS]
theorem eraL_yes {mx : List Int} {T : List Spn} {S : List Int} {k : Nat} {z : Int} (h : S[k]? = some z) (hl : 0 < (clipS 0 (mx.getD z.toNat (-1)) T).length) : eraL mx T (S.take (k + 1)) = eraL mx T (S.take k) ++ [(z, 0, clipS 0 (mx.getD z.toNat (-1)) T)] := by
  unfold eraL
  rw [take_snoc? h, List.map_append, List.filter_append]
  congr 1
  exact List.filter_cons_of_pos (decide_eq_true hl)
theorem eraL_no {mx : List Int} {T : List Spn} {S : List Int} {k : Nat} {z : Int} (h : S[k]? = some z) (hl : ¬ 0 < (clipS 0 (mx.getD z.toNat (-1)) T).length) : eraL mx T (S.take (k + 1)) = eraL mx T (S.take k) := by
  unfold eraL
  rw [take_snoc? h, List.map_append, List.filter_append]
  have : List.filter fullG (List.map (eraG mx T) [z]) = [] := List.filter_cons_of_neg (fun e => hl (of_decide_eq_true e))
  rw [this, List.append_nil]
/-- rows of what is taken away, the call's own -/
structure GonO (w : World) (base : Nat) (v : Value) (G : List GonR) : Prop where
  row : w.ownsRow base 118 3 v G.length (G.flatMap GonR.cells)
  spn : ∀ g ∈ G, w.ownsRow base 33 2 g.sp.val g.sp.n (g.sp.l.flatMap Spn.cells) ∧ g.sp.l.length = g.sp.n
section
variable {w w' : World} {base b : Nat} {v : Value} {G : List GonR} {ts : List TypeId} {mp : Bool}
theorem GonO.turn (h : GonO w base v G) (k : Turn b ts mp w w') (h1 : 118 ∉ ts) (h2 : 33 ∉ ts) : GonO w' base v G :=
  ⟨k.own h.row (.inl h1), fun g hg => ⟨k.own (h.spn g hg).1 (.inl h2), (h.spn g hg).2⟩⟩
theorem GonO.below (h : GonO w base v G) (hb : Below w.heap.size w w') : GonO w' base v G := h.turn (Turn.of_below hb 0 [] false) (by simp) (by simp)
theorem GonO.nil : GonO w base (.slice none 0 0) [] := ⟨World.ownsRow_nil _ _ _ _, by simp⟩
theorem GonO.more {base' : Nat} (h : GonO w base v G) (hb : base' ≤ base) : GonO w base' v G := ⟨own_more h.row hb, fun g hg => ⟨own_more (h.spn g hg).1 hb, (h.spn g hg).2⟩⟩
/-- one more -/
theorem GonO.snoc {v' : Value} {x : GonR} (h : GonO w base v G) (hs : w.ownsRow base 33 2 x.sp.val x.sp.n (x.sp.l.flatMap Spn.cells) ∧ x.sp.l.length = x.sp.n)
    (hown : w'.ownsRow base 118 3 v' (G.length + 1) (G.flatMap GonR.cells ++ x.cells)) (hg : w.grownBy w' v.ownBlock) : GonO w' base v' (G ++ [x]) := by
  have k : Turn base [118] false w w' := Turn.of_own h.row (Nat.le_refl _) (by simp) hg
  refine ⟨by simpa using hown, fun y hy => ?_⟩
  rcases List.mem_append.1 hy with hy | hy
  · exact ⟨k.own (h.spn y hy).1 (.inl (by decide)), (h.spn y hy).2⟩
  · rw [List.mem_singleton.1 hy]; exact ⟨k.own hs.1 (.inl (by decide)), hs.2⟩
end
end Go.Proofs.YthncochjhbmceaaGreat

namespace Go.Proofs.YthncochjhbmceaaGreat
set_option maxRecDepth 100000
open Go.RowKit

theorem hed_new (w : World) {base : Nat} (hb : base ≤ w.heap.size) :
    Calls Tryz.prog 7 #[] w fun e w' => ∃ h, e = .returned (.pointer (some ⟨h, 0, none⟩)) ∧ Hed w' base h [] [] ∧ Below w.heap.size w w' := by
  have S1 := hidden (idx_new w hb)
  go_enter Tryz.func7, Tryz.ntmps7
  go_wp2_with fail
  refine S1.out.mono ?_
  rintro e w2 ⟨p, rfl, hi, b2⟩
  have hbs := b2.size
  have HF := hidden (show Hed (w2.alloc (.cells #[.pointer (some ⟨p, 0, none⟩), .slice none 0 0] 99)) base w2.heap.size [] [] ∧ Below w.heap.size w (w2.alloc (.cells #[.pointer (some ⟨p, 0, none⟩), .slice none 0 0] 99)) from
    ⟨⟨p, _, Whole1.new _ _ _, by omega, hi.below ((Below.refl _ _).alloc (Nat.le_refl _) _), World.ownsRow_nil _ _ _ _, rfl, by simp, List.Pairwise.nil⟩, b2.alloc hbs _⟩)
  clear hi b2 S1
  go_wp2_with fail
  go_ret
  exact ⟨_, rfl, HF.out⟩
theorem hed_len (w : World) {base h : Nat} {E : List (List Lbl)} {X : List HsR} (hh : Hed w base h E X) :
    Calls Tryz.prog 14 #[.pointer (some ⟨h, 0, none⟩)] w fun e w' => e = .returned (.int .i64 (E.length : Int)) ∧ w' = w := by
  obtain ⟨ip, sv, hh⟩ := hh
  have c0 := hh.blk.cell 0
  have S1 := hidden (idx_len w hh.idx)
  clear hh
  go_enter Tryz.func14, Tryz.ntmps14
  go_wp2_with fail
  refine S1.out.mono ?_
  rintro e w2 ⟨rfl, rfl⟩
  go_wp2_with fail
  go_ret
  exact ⟨rfl, rfl⟩
end Go.Proofs.YthncochjhbmceaaGreat

namespace Go.Proofs.YthncochjhbmceaaGreat
set_option maxRecDepth 100000
open Go.RowKit

theorem infoGon : (Tryz.prog.info? 118).map (fun i => (i.zero, i.size, i.bytes)) = some (some (.agg #[.int .i64 0, .int .i64 0, .slice none 0 0]), 3, 40) := by kernel_rfl
theorem clipS_ok {l : List Spn} {a b : Int} (h : ∀ x ∈ l, x.ok) (ha : -9223372036854775808 ≤ a ∧ a < 9223372036854775808) (hb : -9223372036854775808 ≤ b ∧ b < 9223372036854775808) : ∀ x ∈ clipS a b l, x.ok := fun x hx => by
  obtain ⟨y, hy, rfl⟩ := List.mem_map.1 (List.mem_filter.1 hx).1
  obtain ⟨h1, h2, h3, h4⟩ := h y hy
  unfold clip1S Spn.ok
  simp only
  split <;> split <;> omega
set_option maxHeartbeats 12800000 in
theorem hed_erase (sp : Spn) (A : Option Addr) (m c : Nat) (ms : List Mt) (w : World) {base h : Nat} {E : List (List Lbl)} {X : List HsR} (hh : Hed w base h E X) (hE : E.length ≤ 1048576) (hsp : sp.ok) (hms : MtRow w A m ms) (hm : m ≤ 1048576) (hmx : ∀ x ∈ X, -9223372036854775808 ≤ x.mx ∧ x.mx < 9223372036854775808) :
    Calls Tryz.prog 13 #[.pointer (some ⟨h, 0, none⟩), .agg #[.int .i64 sp.frm, .int .i64 sp.til], .agg #[.int .i64 0, .int .i64 0, .int .i64 0], .agg #[.int .i64 0, .int .i64 0, .int .i64 0], .slice A m c] w fun e w' =>
      ∃ gv G T, e = .returned (.agg #[.slice none 0 0, .slice none 0 0, gv]) ∧ GonO w' w.heap.size gv G ∧ G.map GonR.q = eraL (X.map HsR.mx) T (fitsTo E ms E.length) ∧ OneS T ∧ (∀ y ∈ T, y.ok) ∧ (∀ t, hasP T t = (inSpn sp t && inSpn ⟨0, 1125899906842624⟩ t)) ∧ T.length ≤ 1 ∧ Below w.heap.size w w' := by
  obtain ⟨iG, iG0, iG1, iG2, iG3⟩ := info_parts infoGon
  obtain ⟨w0, hw0⟩ : ∃ w0, ((((w.alloc (.cells #[.int .i64 sp.frm, .int .i64 sp.til] 33)).alloc (.cells #[.int .i64 0, .int .i64 0, .int .i64 0] 34)).alloc (.cells #[.int .i64 0, .int .i64 0, .int .i64 0] 34)).alloc (.cells #[.slice none 0 0, .slice none 0 0, .slice none 0 0] 31)).alloc (.cells #[.slice none 0 0, .slice none 0 0, .slice none 0 0] 31) = w0 := ⟨_, rfl⟩
  have hs0 : w0.heap.size = w.heap.size + 1 + 1 + 1 + 1 + 1 := by rw [← hw0]; simp only [World.size_alloc]
  have hb0 : Below w.heap.size w w0 := by rw [← hw0]; exact (((((Below.refl _ _).alloc (Nat.le_refl _) _).alloc (by simp only [World.size_alloc]; omega) _).alloc (by simp only [World.size_alloc]; omega) _).alloc (by simp only [World.size_alloc]; omega) _).alloc (by simp only [World.size_alloc]; omega) _
  have hsp0 : Whole1 w0 w.heap.size 33 #[.int .i64 sp.frm, .int .i64 sp.til] := by rw [← hw0]; exact ((((Whole1.new _ _ _).alloc _).alloc _).alloc _).alloc _
  have hrd0 : Whole1 w0 (w.heap.size + 1) 34 #[.int .i64 0, .int .i64 0, .int .i64 0] := by
    rw [← hw0]
    have := Whole1.new (w.alloc (.cells #[.int .i64 sp.frm, .int .i64 sp.til] 33)) 34 #[.int .i64 0, .int .i64 0, .int .i64 0]
    simp only [World.size_alloc] at this
    exact ((this.alloc _).alloc _).alloc _
  have hwd0 : Whole1 w0 (w.heap.size + 1 + 1) 34 #[.int .i64 0, .int .i64 0, .int .i64 0] := by
    rw [← hw0]
    have := Whole1.new ((w.alloc (.cells #[.int .i64 sp.frm, .int .i64 sp.til] 33)).alloc (.cells #[.int .i64 0, .int .i64 0, .int .i64 0] 34)) 34 #[.int .i64 0, .int .i64 0, .int .i64 0]
    simp only [World.size_alloc] at this
    exact (this.alloc _).alloc _
  have hz0 : Whole1 w0 (w.heap.size + 1 + 1 + 1) 31 #[.slice none 0 0, .slice none 0 0, .slice none 0 0] := by
    rw [← hw0]
    have := Whole1.new (((w.alloc (.cells #[.int .i64 sp.frm, .int .i64 sp.til] 33)).alloc (.cells #[.int .i64 0, .int .i64 0, .int .i64 0] 34)).alloc (.cells #[.int .i64 0, .int .i64 0, .int .i64 0] 34)) 31 #[.slice none 0 0, .slice none 0 0, .slice none 0 0]
    simp only [World.size_alloc] at this
    exact this.alloc _
  have hr0 : Whole1 w0 (w.heap.size + 1 + 1 + 1 + 1) 31 #[.slice none 0 0, .slice none 0 0, .slice none 0 0] := by
    rw [← hw0]
    have := Whole1.new ((((w.alloc (.cells #[.int .i64 sp.frm, .int .i64 sp.til] 33)).alloc (.cells #[.int .i64 0, .int .i64 0, .int .i64 0] 34)).alloc (.cells #[.int .i64 0, .int .i64 0, .int .i64 0] 34)).alloc (.cells #[.slice none 0 0, .slice none 0 0, .slice none 0 0] 31)) 31 #[.slice none 0 0, .slice none 0 0, .slice none 0 0]
    simp only [World.size_alloc] at this
    exact this
  have hrow := Row.fresh w0 33 2 1 [.int .i64 sp.frm, .int .i64 sp.til] rfl
  have hb1 : Below w0.heap.size w0 (w0.alloc (.cells #[.int .i64 sp.frm, .int .i64 sp.til] 33)) := (Below.refl _ _).alloc (Nat.le_refl _) _
  have S1 := hidden (clipSpn_any (some ⟨w0.heap.size, 0, none⟩) 1 1 [sp] 0 1125899906842624 (w0.alloc (.cells #[.int .i64 sp.frm, .int .i64 sp.til] 33)) (by rw [World.size_alloc]; exact hrow) rfl (by decide) (fun x hx => by rw [List.mem_singleton.1 hx]; exact hsp) (by decide) (by decide))
  have HW0 := hidden hw0
  have HS0 := hidden hs0
  have HB0 := hidden hb0
  have HB1 := hidden hb1
  have HSP := hidden hsp0
  have HRD := hidden hrd0
  have HWD := hidden hwd0
  have HZ := hidden hz0
  have HR := hidden hr0
  have HH := hidden (hh.below hb0)
  have HMS := hidden (hms.on hb0)
  have HMX := hidden hmx
  have HOK := hidden hsp
  have p0 := (hsp0.alloc (.cells #[.int .i64 sp.frm, .int .i64 sp.til] 33)).cell 0
  clear hw0 hs0 hb0 hsp0 hrd0 hwd0 hz0 hr0 hrow hb1 hh hms hmx hsp p0
  go_enter Tryz.func13, Tryz.ntmps13
  go_wp2_with fail
  rw [HW0.out, ← HS0.out]
  obtain ⟨Q, hQ⟩ : ∃ Q, w.heap.size + 1 + 1 + 1 + 1 = Q := ⟨_, rfl⟩
  obtain ⟨Z, hZ⟩ : ∃ Z, w.heap.size + 1 + 1 + 1 = Z := ⟨_, rfl⟩
  obtain ⟨D2, hD2⟩ : ∃ D2, w.heap.size + 1 + 1 = D2 := ⟨_, rfl⟩
  obtain ⟨D1, hD1⟩ : ∃ D1, w.heap.size + 1 = D1 := ⟨_, rfl⟩
  have hlt : w.heap.size < w0.heap.size ∧ D1 < w0.heap.size ∧ D2 < w0.heap.size ∧ Z < w0.heap.size ∧ Q < w0.heap.size ∧ Z ≠ Q ∧ w.heap.size ≤ Q ∧ w.heap.size ≤ Z := by have := HS0.out; omega
  have hz1 := HZ.out
  have hr1 := HR.out
  have hrd1 := HRD.out
  have hwd1 := HWD.out
  rw [hQ] at hr1
  rw [hZ] at hz1
  rw [hD1] at hrd1
  rw [hD2] at hwd1
  have HLT := hidden hlt
  have HZ := hidden hz1
  have HR := hidden hr1
  have HRD := hidden hrd1
  have HWD := hidden hwd1
  have HQe := hidden hQ
  have HZe := hidden hZ
  have HD1e := hidden hD1
  have HD2e := hidden hD2
  rw [hQ, hZ, hD2, hD1]
  clear hQ hZ hD2 hD1 hlt hz1 hr1 hrd1 hwd1
  refine S1.out.mono ?_
  rintro e w2 ⟨vT, R, rfl, hoT, hR, hTl, b2⟩
  obtain ⟨T, hT⟩ : ∃ T, clipS 0 1125899906842624 R = T := ⟨_, rfl⟩
  have hTP : OneS T ∧ ∀ t, hasP T t = (inSpn sp t && inSpn ⟨0, 1125899906842624⟩ t) := by
    rw [← hT]
    refine ⟨clipS_one hR.one _ _, fun t => ?_⟩
    rw [clipS_has, hR.has, hasP_cons, hasP_nil, Bool.or_false]
  have hTok : ∀ y ∈ T, y.ok := by
    rw [← hT]
    exact clipS_ok (hR.ok (fun x hx => by rw [List.mem_singleton.1 hx]; exact HOK.out)) (by decide) (by decide)
  rw [hT] at hoT hTl
  have HB2 := hidden ((HB1.out.trans (b2.mono HB1.out.size)))
  obtain ⟨At, ct, rfl, hct, _⟩ := own_shape hoT
  have HT := hidden (own_more hoT HB1.out.size)
  have HTP := hidden hTP
  have HTok := hidden hTok
  obtain ⟨n, hn⟩ : ∃ n, T.length = n := ⟨_, rfl⟩
  rw [hn] at hTl HT ⊢
  have HN := hidden hn
  clear S1 hoT hR b2 hT hTP hTok hn
  by_cases hz : n = 0
  · subst hz
    have hqf := HR.out.below HB2.out HLT.out.2.2.2.2.1
    have hzf := HZ.out.below HB2.out HLT.out.2.2.2.1
    have q0 := hqf.cell 0
    have q1 := hqf.cell 1
    have q2 := hqf.cell 2
    have z0 := hzf.cell 0
    have z1 := hzf.cell 1
    have z2 := hzf.cell 2
    have y0 := hzf.free 0
    have y1 := (hzf.put 0 (.slice none 0 0)).free 1
    have y2 := ((hzf.put 0 (.slice none 0 0)).put 1 (.slice none 0 0)).free 2
    have z1b := (hzf.put 0 (.slice none 0 0)).cell 1
    have z2b := ((hzf.put 0 (.slice none 0 0)).put 1 (.slice none 0 0)).cell 2
    have HQF := hidden hqf
    have HZF := hidden hzf
    have HTn := hidden (show T = [] from List.eq_nil_of_length_eq_zero HN.out)
    clear hqf hzf
    go_wp2_with fail
    have hzz := ((HZF.out.put 0 (.slice none 0 0)).put 1 (.slice none 0 0)).put 2 (.slice none 0 0)
    have d0 := hzz.cell 0
    have d1 := hzz.cell 1
    have d2 := hzz.cell 2
    refine bodyPost_ret (v := .agg #[.slice none 0 0, .slice none 0 0, .slice none 0 0]) (by simp [results, Tryz.results13, go_sem, d0, d1, d2]) rfl ⟨_, [], T, rfl, GonO.nil, by rw [HTn.out, eraL_nil]; rfl, HTP.out.1, HTok.out, HTP.out.2, by rw [HN.out]; omega, ?_⟩
    have hbw := HB0.out.trans (HB2.out.mono HB0.out.size)
    exact ((hbw.setCell (p := ⟨Z, 0, none⟩) HLT.out.2.2.2.2.2.2.2 _).setCell (p := ⟨Z, 1, none⟩) HLT.out.2.2.2.2.2.2.2 _).setCell (p := ⟨Z, 2, none⟩) HLT.out.2.2.2.2.2.2.2 _
  · have hnz : ((n : Int) == 0) = false := by simp; omega
    obtain ⟨ip, sv, hh2⟩ := HH.out.below HB2.out
    have ch0 := hh2.blk.cell 0
    have S2 := hidden (idx_select w2 hh2.idx hE A m c ms (HMS.out.on HB2.out) hm)
    have HH2 := hidden hh2
    have HXE := hidden hh2.len
    have HVD := hidden hh2.idx.valid
    have HQ2 := hidden (HR.out.below HB2.out HLT.out.2.2.2.2.1)
    have HZ2 := hidden (HZ.out.below HB2.out HLT.out.2.2.2.1)
    have HD12 := hidden (HRD.out.below HB2.out HLT.out.2.1)
    have HD22 := hidden (HWD.out.below HB2.out HLT.out.2.2.1)
    clear hh2 HH HMS
    go_wp2_with fail
    refine S2.out.mono ?_
    rintro e w3 ⟨A3, c3, SS, rfl, hf3, hri, hme, b3⟩
    obtain rfl := sel_is hri hme
    have hSz : ∀ z ∈ fitsTo E ms E.length, ∃ i : Nat, z = (i : Int) ∧ i < E.length := fun z hz => by
      obtain ⟨i, l, hi, e, _⟩ := (hme z).1 hz
      exact ⟨i, e, (List.getElem?_eq_some_iff.1 hi).1⟩
    obtain ⟨SS, hSS⟩ : ∃ SS, fitsTo E ms E.length = SS := ⟨_, rfl⟩
    have hSl : (fitsTo E ms E.length).length ≤ E.length := fitsTo_len _ _ _
    rw [hSS] at hf3 hSz hSl ⊢
    have HSE := hidden hSS
    have HSF := hidden hf3
    have HSZ := hidden hSz
    have HB3 := hidden (HB2.out.trans (b3.mono HB2.out.size))
    have HH3 := hidden (HH2.out.below b3)
    have HQ3 := hidden (HQ2.out.below b3 HQ2.out.lt)
    have HZ3 := hidden (HZ2.out.below b3 HZ2.out.lt)
    have HD13 := hidden (HD12.out.below b3 HD12.out.lt)
    have HD23 := hidden (HD22.out.below b3 HD22.out.lt)
    have HT3 := hidden (own_below HT.out b3 (Nat.le_refl _))
    obtain ⟨ns, hns⟩ : ∃ ns, SS.length = ns := ⟨_, rfl⟩
    rw [hns] at hSl HSF ⊢
    have HNS := hidden hns
    clear S2 hf3 hri hme b3 hSz hSS hns ch0 HQ2 HZ2 HD12 HD22 HT HH2 hnz
    go_wp2_with fail
    go_loopw [39] (fun vi wr => ∃ (k : Nat) (gv : Value) (G : List GonR), vi = .int .i64 (k : Int) ∧ k ≤ ns ∧ Hid (w3.grownBy wr (some Q)) ∧ Hid (Whole1 wr Q 31 #[.slice none 0 0, .slice none 0 0, gv]) ∧ Hid (GonO wr w3.heap.size gv G) ∧ Hid (G.map GonR.q = eraL (X.map HsR.mx) T (SS.take k)) ∧ G.length ≤ k) (fun vi _ => ns - (intOf vi).toNat)
    case atStart => exact ⟨0, .slice none 0 0, [], rfl, Nat.zero_le _, hidden (gb_refl _ _), HQ3, hidden GonO.nil, hidden (by simp [eraL]), Nat.le_refl _⟩
    case round =>
      obtain ⟨k, gv, G, rfl, hk, hgr, hq, hgo, hge, hGl⟩ := hrel
      have k0 : (0 : Int) ≤ (k : Int) := by omega
      by_cases hlt : k < ns
      · have k1 : (k : Int) < (ns : Int) := by omega
        have HKT := hidden (show k + 1 ≤ ns from hlt)
        have fwk : IntKind.i64.wrap ((k : Int) + 1) = (k : Int) + 1 := Go.IntWalk.i64_in _ (by omega)
        have hTurn : Turn 0 [31] false w3 wr := Turn.of_grown hgr.out (fun g e => by
          cases e
          exact ⟨Nat.zero_le _, fun _ => by rw [show w3.heap[Q]? = some (.cells _ 31 (0, 0)) from HQ3.out]; simp [kindIn]⟩)
        obtain ⟨gS, oS, hA3, hgS, hcS⟩ := ints_at HSF.out.row (by omega)
        have hSl2 : SS.length = ns := HNS.out
        have hgQ : gS ≠ Q := by
          rintro rfl
          have h1 := hcS k (by omega)
          rw [HQ3.out.cell] at h1
          generalize oS + k = j at h1
          rcases j with _ | _ | _ | j <;> simp at h1
        obtain ⟨z, hz1⟩ : ∃ z, SS[k]? = some z := ⟨_, List.getElem?_eq_getElem (by omega)⟩
        obtain ⟨zi, rfl, hzi⟩ := HSZ.out z (List.mem_of_getElem? hz1)
        have ck : wr.cell? ⟨gS, oS + k, none⟩ = some (.int .i64 (zi : Int)) := by
          have h1 := hcS k (by omega)
          rw [List.getD_eq_getElem?_getD, hz1, Option.getD_some] at h1
          rw [← h1]
          exact World.cell?_of_block (hgr.out.block gS hgS (by simpa using hgQ))
        subst hA3
        have HEY := hidden (eraL_yes (mx := X.map HsR.mx) (T := T) hz1)
        have HEN := hidden (eraL_no (mx := X.map HsR.mx) (T := T) hz1)
        obtain ⟨y, hy⟩ : ∃ y, X[zi]? = some y := ⟨_, List.getElem?_eq_getElem (by rw [HXE.out]; exact hzi)⟩
        have hmy : (X.map HsR.mx).getD ((zi : Nat) : Int).toNat (-1) = y.mx := by rw [Int.toNat_natCast, List.getD_eq_getElem?_getD, List.getElem?_map, hy]; rfl
        rw [hmy] at HEY HEN
        have HY := hidden hy
        have hyx := HMX.out y (List.mem_of_getElem? hy)
        have HYX := hidden hyx
        have HZI := hidden hzi
        have hgr0 := hgr
        have hq0 := hq
        clear hTurn hcS hSl2 hgQ hz1 hmy hy hyx hzi hgS
        go_wp2_with fail
        go_loopw [43] (fun vr wz => ∃ (r : Nat) (gv' : Value) (G' : List GonR), vr = .int .i64 (r : Int) ∧ r ≤ 3 ∧ Hid (w3.grownBy wz (some Q)) ∧ Hid (Whole1 wz Q 31 #[.slice none 0 0, .slice none 0 0, gv']) ∧ Hid (GonO wz w3.heap.size gv' G') ∧ Hid (G'.map GonR.q = eraL (X.map HsR.mx) T (SS.take (if r = 0 then k else k + 1))) ∧ G'.length ≤ k + 1 ∧ (r = 0 → G'.length ≤ k)) (fun vr _ => 3 - (intOf vr).toNat)
        case atStart => exact ⟨0, gv, G, rfl, by omega, hgr, hq, hgo, hge, by omega, fun _ => hGl⟩
        case round =>
          clear hgr hq hgo hge hGl hgr0 hq0 ck
          obtain ⟨r, gv', G', rfl, hr3, hgr, hq, hgo, hge, hGl, hGl0⟩ := hrel
          have r0 : (0 : Int) ≤ (r : Int) := by omega
          by_cases hltr : r < 3
          · have r1 : (r : Int) < 3 := by omega
            have fwr : IntKind.i64.wrap ((r : Int) + 1) = (r : Int) + 1 := Go.IntWalk.i64_in _ (by omega)
            have hTurn : Turn 0 [31] false w3 wr := Turn.of_grown hgr.out (fun g e => by
              cases e
              exact ⟨Nat.zero_le _, fun _ => by rw [show w3.heap[Q]? = some (.cells _ 31 (0, 0)) from HQ3.out]; simp [kindIn]⟩)
            have hhr := HH3.out.turn hTurn (by decide)
            have hT := hTurn.own HT3.out (.inl (by decide))
            have hd1 := hTurn.whole HD13.out (.inr (by decide))
            have hd2 := hTurn.whole HD23.out (.inr (by decide))
            obtain ⟨At', ct', eT, hctT, hTr⟩ := own_shape hT
            simp only [Value.slice.injEq, true_and] at eT
            obtain ⟨rfl, rfl⟩ := eT
            obtain ⟨As, cs, hAs, _, hrow⟩ := own_shape hhr.row
            rw [List.map_eq_flatMap] at hrow
            obtain ⟨gs, os, y2, hAs2, _, hy2, hcx⟩ := row_at (enc := fun x : HsR => [x.ptr]) (k := 1) (fun _ => rfl) hrow rfl zi (by rw [HXE.out]; exact HZI.out)
            obtain rfl : y = y2 := by rw [HY.out] at hy2; exact Option.some.inj hy2
            subst hAs2
            have hym := (hhr.at_ y (List.mem_of_getElem? HY.out)).blk
            have ch1 : wr.cell? ⟨h, 1, none⟩ = some (.slice (some ⟨gs, os, none⟩) E.length cs) := by rw [hhr.blk.cell 1, ← HXE.out, ← hAs]; rfl
            have cx0 : wr.cell? ⟨gs, os + zi, none⟩ = some (.pointer (some ⟨y.b, 0, none⟩)) := by
              have h1 := hcx 0 (by omega)
              simpa [HsR.ptr] using h1
            have xc0 : wr.cell? ⟨y.b, 0, none⟩ = some (.int .i64 y.mx) := hym.cell 0
            obtain ⟨gT, oT, t0, hAt, _, ht0, hcT⟩ := row_at (enc := Spn.cells) (k := 2) (fun _ => rfl) hTr HN.out 0 (by omega)
            subst hAt
            have S3 := hidden (clipSpn_any (some ⟨gT, oT, none⟩) n ct T 0 y.mx wr hTr HN.out (by omega) HTok.out (by decide) HYX.out)
            have ct0 := hcT 0 (by omega)
            have ct1 := hcT 1 (by omega)
            simp only [Spn.cells, Nat.zero_mul, Nat.add_zero, List.getElem?_cons_zero, List.getElem?_cons_succ] at ct0 ct1
            have hzE : (zi : Int) < (E.length : Int) := by have := HZI.out; omega
            have HGR := hidden hgr.out
            have HQR := hidden hq.out
            have HGO := hidden hgo.out
            have HGE := hidden hge.out
            have HD1 := hidden hd1
            have HD2 := hidden hd2
            have HCT := hidden (And.intro ct0 ct1)
            clear hTurn hhr hT hTr hrow hcx hym hcT ht0 hy2 hd1 hd2 hgr hq hgo hge ct0 ct1 hctT
            go_wp2_with fail
            refine S3.out.mono ?_
            rintro e w5 ⟨vL, R', rfl, hoL, hR', hLl, b5⟩
            obtain rfl : R' = T := hR'.uniq (OfRes.self HTP.out.1) (fun _ => rfl)
            have hey := HEY.out
            have hen := HEN.out
            obtain ⟨l, hl⟩ : ∃ l, clipS 0 y.mx R' = l := ⟨_, rfl⟩
            rw [hl] at hoL hLl hey hen
            obtain ⟨AL, cL, rfl, _, _⟩ := own_shape hoL
            have HEY2 := hidden hey
            have HEN2 := hidden hen
            have HGR5 := hidden (gb_far HGR.out (gb_below b5 none) (fun j e => by cases e))
            have HQ5 := hidden (HQR.out.below b5 HQR.out.lt)
            have HGO5 := hidden (HGO.out.below b5)
            have HD15 := hidden (HD1.out.below b5 HD1.out.lt)
            have HD25 := hidden (HD2.out.below b5 HD2.out.lt)
            have HOL := hidden (own_more hoL HGR.out.size)
            have ct0 := (b5.cell (World.block_lt_of_cell? wr _ HCT.out.1)).trans HCT.out.1
            have ct1 := (b5.cell (World.block_lt_of_cell? wr _ HCT.out.2)).trans HCT.out.2
            clear S3 hey hen hl hoL hR' b5 HGR HQR HGO HD1 HD2 HCT ch1 cx0 xc0
            rcases r with _ | r
            · have hG0 := hGl0 rfl
              by_cases hl0 : 0 < l.length
              · have hl1 : (0 : Int) < (l.length : Int) := by omega
                obtain ⟨Av, cv, rfl, _, _⟩ := own_shape HGO5.out.row
                have hq2 := HQ5.out.cell 2
                have hfr := Row.fresh w5 118 3 1 [.int .i64 (zi : Int), .int .i64 0, .slice AL l.length cL] rfl
                have hba : Below w5.heap.size w5 (w5.alloc (.cells #[.int .i64 (zi : Int), .int .i64 0, .slice AL l.length cL] 118)) := (Below.refl _ _).alloc (Nat.le_refl _) _
                have HBA := hidden hba
                have HGs := hidden HGR5.out.size
                clear hba
                go_wp2_with (at_builtin; refine wpList_app _ rfl _ _ 29 rfl w3.heap.size 118 iG _ 3 40 Tryz.underlying29 iG0 iG1 iG2 iG3 rfl (by decide) _ _ _ rfl (HGO5.out.row.alloc _) _ _ _ _ _ rfl hfr (by simp [Value.oneCell']) (by unfold maxLen; omega) (by omega) (by have := HGs.out; simp; omega) ?_; intro v10 w10 hown10 hg10 hat10; obtain ⟨A10, q10, rfl, _, _⟩ := own_shape hown10; have hq10 := (HQ5.out.alloc (.cells #[.int .i64 (zi : Int), .int .i64 0, .slice AL l.length cL] 118)).grown hg10 (own_ne (HGO5.out.row) HQ3.out.lt); have f10 := hq10.free 2; have c10 := hq10.cell 2)
                have ho10 := (HGO5.out.below HBA.out).snoc (x := ⟨(zi : Int), 0, ⟨AL, l.length, cL, l⟩⟩) ⟨own_below HOL.out HBA.out (Nat.le_refl _), rfl⟩ hown10 hg10
                have hg := gb_put (gb_far (gb_far HGR5.out (gb_below HBA.out none) (fun j e => by cases e)) hg10 (fun j e => (HGO5.out.row.lt j e).1)) 2 (.slice A10 (G'.length + 1) q10)
                refine ⟨⟨1, _, G' ++ [⟨(zi : Int), 0, ⟨AL, l.length, cL, l⟩⟩], by simp, by omega, hidden hg, hidden (hq10.put 2 _), hidden (ho10.turn (show Turn 0 [31] false w10 _ from Turn.put hq10 (Nat.zero_le _) (by simp) 2 _) (by decide) (by decide)), hidden ?_, by rw [List.length_append, List.length_singleton]; omega, fun e => by cases e⟩, ?_⟩
                · rw [List.map_append, HGE.out]
                  exact (HEY2.out hl0).symm
                · simp [intOf]
              · have hl1 : ¬ (0 : Int) < (l.length : Int) := by omega
                have HGE2 := hidden (show G'.map GonR.q = eraL (X.map HsR.mx) R' (SS.take (k + 1)) by rw [HEN2.out hl0]; exact HGE.out)
                go_wp2_with fail
                refine ⟨⟨1, _, G', by simp, by omega, HGR5, HQ5, HGO5, HGE2, by omega, fun e => by cases e⟩, ?_⟩
                simp [intOf]
            · have hne : (((r + 1 : Nat) : Int) != 0) = true := by simp; omega
              have hrr : (r : Int) + 1 < 3 := by omega
              have hrr0 : (0 : Int) ≤ (r : Int) + 1 := by omega
              have w1r : w5.cell? ⟨D2, r + 1, none⟩ = some (.int .i64 0) := by
                rw [HD25.out.cell]
                rcases r with _ | _ | r
                · rfl
                · rfl
                · omega
              have hst : ∀ (W : World) (q : Nat) (t : Int), Calls Tryz.prog 45 #[.int .i64 t, .int .i64 0] (W.drewN q) fun e w' => e = .returned (.tuple #[.int .i64 0, .int .i64 100]) ∧ w' = W.drewN q := fun W q t => by
                have h1 := start_any t 0 (W.drewN q)
                rw [beginOf_width t 0 (.inl (by decide))] at h1
                exact h1.mono fun _ _ h => ⟨h.1, h.2.symm⟩
              have HST := hidden hst
              have hd2c := HD25.out
              clear hst
              go_upto_region 13 with (fail)
              go_quiet ((go_at_call 45; refine Calls.quiet_of_same (HST.out _ _ _)))
              obtain ⟨w6, hw6⟩ : ∃ w6, w5.drewN nq = w6 := ⟨_, rfl⟩
              have b6 : Below w5.heap.size w5 w6 := hw6 ▸ below_drewN (Below.refl _ _) _
              have ct0 := (b6.cell (World.block_lt_of_cell? w5 _ ct0)).trans ct0
              have ct1 := (b6.cell (World.block_lt_of_cell? w5 _ ct1)).trans ct1
              have w1r := (b6.cell (World.block_lt_of_cell? w5 _ w1r)).trans w1r
              have B6 := hidden b6
              rw [hw6]
              clear hw6 b6
              go_upto_region 14 with (fail)
              go_quiet ((go_at_call 45; refine Calls.quiet_of_same (HST.out _ _ _)))
              obtain ⟨w7, hw7⟩ : ∃ w7, w6.drewN nq = w7 := ⟨_, rfl⟩
              have b7 : Below w5.heap.size w5 w7 := hw7 ▸ below_drewN B6.out _
              have HGR7 := hidden (gb_far HGR5.out (gb_below b7 none) (fun j e => by cases e))
              have HQ7 := hidden (HQ5.out.below b7 HQ5.out.lt)
              have HGO7 := hidden (HGO5.out.below b7)
              rw [hw7]
              clear hw7 b7 ct0 ct1 w1r
              go_wp2_with fail
              have hG1 := hGl
              refine ⟨⟨r + 1 + 1, _, G', by simp, by omega, HGR7, HQ7, HGO7, hidden ?_, hG1, fun e => by cases e⟩, ?_⟩
              · exact HGE.out
              · simp only [intOf]; omega
          · obtain rfl : r = 3 := by omega
            have HGE3 := hidden (show G'.map GonR.q = eraL (X.map HsR.mx) T (SS.take (k + 1)) from hge.out)
            clear hge
            go_wp2_with fail
            go_roundw
            case rel => exact ⟨k + 1, gv', G', by go_num, HKT.out, hgr, hq, hgo, HGE3, hGl⟩
            case measure => have := HKT.out; simp [intOf]; omega
      · obtain rfl : ns = k := by omega
        have hta : SS.take ns = SS := List.take_of_length_le (by rw [HNS.out]; exact Nat.le_refl _)
        rw [hta] at hge
        obtain ⟨Av, cv, rfl, _, _⟩ := own_shape hgo.out.row
        have HGE := hidden hge.out
        have HGO := hidden hgo.out
        have HGR := hidden hgr.out
        have hqf := hq.out
        have hzf := HZ3.out.grown hgr.out (by simpa using HLT.out.2.2.2.2.2.1)
        have q0 := hqf.cell 0
        have q1 := hqf.cell 1
        have q2 := hqf.cell 2
        have z0 := hzf.cell 0
        have z1 := hzf.cell 1
        have z2 := hzf.cell 2
        have y0 := hzf.free 0
        have y1 := (hzf.put 0 (.slice none 0 0)).free 1
        have y2 := ((hzf.put 0 (.slice none 0 0)).put 1 (.slice none 0 0)).free 2
        have z1b := (hzf.put 0 (.slice none 0 0)).cell 1
        have z2b := ((hzf.put 0 (.slice none 0 0)).put 1 (.slice none 0 0)).cell 2
        have HZF := hidden hzf
        clear hqf hzf hgr hq hgo hge hta
        go_wp2_with fail
        have hzz := ((HZF.out.put 0 (.slice none 0 0)).put 1 (.slice none 0 0)).put 2 (.slice Av G.length cv)
        have d0 := hzz.cell 0
        have d1 := hzz.cell 1
        have d2 := hzz.cell 2
        have ht3 : Turn 0 [31] false wr _ := ((Turn.put HZF.out (Nat.zero_le _) (by simp) 0 (.slice none 0 0)).trans (Turn.put (HZF.out.put 0 (.slice none 0 0)) (Nat.zero_le _) (by simp) 1 (.slice none 0 0))).trans (Turn.put ((HZF.out.put 0 (.slice none 0 0)).put 1 (.slice none 0 0)) (Nat.zero_le _) (by simp) 2 (.slice Av G.length cv))
        have hbw := (HB0.out.trans (HB3.out.mono HB0.out.size)).grown HGR.out (Nat.le_trans HB0.out.size HB3.out.size) (fun q e => by cases e; exact HLT.out.2.2.2.2.2.2.1)
        refine bodyPost_ret (v := .agg #[.slice none 0 0, .slice none 0 0, .slice Av G.length cv]) (by simp [results, Tryz.results13, go_sem, d0, d1, d2]) rfl ⟨_, G, T, rfl, (HGO.out.turn ht3 (by decide) (by decide)).more (Nat.le_trans HB0.out.size HB3.out.size), by rw [HSE.out]; exact HGE.out, HTP.out.1, HTok.out, HTP.out.2, by rw [HN.out]; omega, ?_⟩
        exact ((hbw.setCell (p := ⟨Z, 0, none⟩) HLT.out.2.2.2.2.2.2.2 _).setCell (p := ⟨Z, 1, none⟩) HLT.out.2.2.2.2.2.2.2 _).setCell (p := ⟨Z, 2, none⟩) HLT.out.2.2.2.2.2.2.2 _
end Go.Proofs.YthncochjhbmceaaGreat
