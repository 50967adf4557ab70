/- sort.Search over a predicate that is everywhere alike. Condition: the predicate has a contract, the length is within the reach. What Raw tells of a head, plainly, and how its answer lies; Raw's closures. Condition: the series' times are within the range. What is left of a head when times are taken away, plainly; matchers beside it. No program is walked here. -/
import Derived.Test.YthncochjhbmceaaGreatBase
import Derived.IntWalk
import Derived.Test.YthncochjhbmceaaGreatPk9a2138a0
import Derived.Test.YthncochjhbmceaaGreatPk5722d533
import Derived.Test.YthncochjhbmceaaGreatPk1dcfe404
import Derived.Test.YthncochjhbmceaaGreatPka2a7b020
import Derived.BigQuiet
import Derived.Test.YthncochjhbmceaaGreatPk2894c5a7
import Derived.Test.YthncochjhbmceaaGreatPkbb3ea29e
namespace Go.Proofs.YthncochjhbmceaaGreat
set_option maxRecDepth 100000
open Go.RowKit

set_option maxHeartbeats 3200000 in
theorem search_any (n : Nat) (f : FuncId) (cb : Array Value) (b : Bool) (w : World) (hn : n ≤ 1099511627776) (eg : ∀ args w, (callFunc f args).run Tryz.prog w = .ok (.enter f args) w)
    (hC : ∀ i : Nat, i < n → ∀ W, Below w.heap.size w W → Calls Tryz.prog f (#[.int .i64 i] ++ cb) W fun e w2 => e = .returned (.bool b) ∧ Below W.heap.size W w2) :
    Calls Tryz.prog 47 #[.int .i64 n, .func (.func f) #[] cb] w fun e w' => e = .returned (.int .i64 (if b then 0 else (n : Int))) ∧ Below w.heap.size w w' := by
  have HC := hidden hC
  clear hC
  go_enter Tryz.func47, Tryz.ntmps47
  go_wp2_with fail
  go_loopw [5, 6] (fun vi vj wr => ∃ i j : Nat, vi = .int .i64 i ∧ vj = .int .i64 j ∧ i ≤ j ∧ j ≤ n ∧ Hid (b = true → i = 0) ∧ Hid (b = false → j = n) ∧ Hid (Below w.heap.size w wr)) (fun vi vj _ => (intOf vj).toNat - (intOf vi).toNat)
  case atStart => exact ⟨0, n, rfl, rfl, Nat.zero_le _, Nat.le_refl _, hidden fun _ => rfl, hidden fun _ => rfl, hidden (Below.refl _ _)⟩
  case round =>
    obtain ⟨i, j, rfl, rfl, hij, hjn, h0, h1, hb⟩ := hrel
    by_cases hlt : i < j
    · have k1 : (i : Int) < (j : Int) := by omega
      have fw1 : IntKind.i64.wrap ((i : Int) + (j : Int)) = ((i + j : Nat) : Int) := by rw [Go.IntWalk.i64_in _ (by omega)]; simp
      have fw2 : IntKind.u64.wrap ((i + j : Nat) : Int) = ((i + j : Nat) : Int) := Go.IntWalk.u64_in _ (by omega)
      obtain ⟨m, hmm⟩ : ∃ m, (i + j) / 2 = m := ⟨_, rfl⟩
      have hm2 : ((i : Int) + (j : Int)) / 2 = (m : Int) := by omega
      have hmi : i ≤ m ∧ m < j := by omega
      have S1 := hidden (HC.out m (by omega) wr hb.out)
      have fw3 : IntKind.i64.wrap ((m : Int) + 1) = (m : Int) + 1 := Go.IntWalk.i64_in _ (by omega)
      have HM2 := hidden hm2
      have HM := hidden hmi
      have hmj : m ≤ n := by omega
      clear hm2 hmm
      go_wp2_with fail
      rw [HM2.out]
      refine S1.out.mono ?_
      rintro e w2 ⟨rfl, b2⟩
      have HB := hidden (hb.out.trans (b2.mono hb.out.size))
      clear S1 b2 hb
      cases b with
      | true =>
        go_wp2_with fail
        go_roundw
        case rel => exact ⟨i, m, rfl, rfl, HM.out.1, hmj, h0, hidden (by simp), HB⟩
        case measure => have := HM.out; simp [intOf]; omega
      | false =>
        go_wp2_with fail
        go_roundw
        case rel => exact ⟨m + 1, j, by go_num, rfl, HM.out.2, hjn, hidden (by simp), h1, HB⟩
        case measure => have := HM.out; simp [intOf]; omega
    · have hij2 : i = j := by omega
      subst hij2
      cases b with
      | true =>
        obtain rfl : i = 0 := h0.out rfl
        go_wp2_with fail
        go_ret
        exact ⟨rfl, hb.out⟩
      | false =>
        obtain rfl : i = n := h1.out rfl
        go_wp2_with fail
        go_ret
        exact ⟨rfl, hb.out⟩
end Go.Proofs.YthncochjhbmceaaGreat

namespace Go.Proofs.YthncochjhbmceaaGreat
set_option maxRecDepth 100000
open Go.RowKit Go.Shelf

/-- what is told of a series -/
def toldP (p : List Lbl × SerP) : List Lbl × List Smp := (p.1, keepP p.2.gone p.2.sm)
def fullP (q : List Lbl × List Smp) : Bool := decide (0 < q.2.length)
/-- what a head tells of all times, in the order of the series' numbers -/
def rawL (E : List (List Lbl)) (S : List SerP) : List (List Lbl × List Smp) := ((E.zip S).map toldP).filter fullP
def Ser.q (x : Ser) : List Lbl × List Smp := (x.lab.l, x.smp.l)
theorem keepP_of {l R : List Spn} (h : OfRes l R) (s : List Smp) : keepP R s = keepP l s := by
  unfold keepP
  congr 1
  funext x
  rw [h.has]
theorem rawL_take {E : List (List Lbl)} {S : List SerP} {k : Nat} {l : List Lbl} {s : SerP} (hl : E[k]? = some l) (hs : S[k]? = some s) :
    rawL (E.take (k + 1)) (S.take (k + 1)) = if 0 < (keepP s.gone s.sm).length then rawL (E.take k) (S.take k) ++ [(l, keepP s.gone s.sm)] else rawL (E.take k) (S.take k) := by
  have h1 := (List.getElem?_eq_some_iff.1 hl).1
  have h2 := (List.getElem?_eq_some_iff.1 hs).1
  unfold rawL
  rw [take_snoc? hl, take_snoc? hs, List.zip_append (by rw [List.length_take, List.length_take]; omega), List.map_append, List.filter_append]
  show _ ++ List.filter fullP [toldP (l, s)] = _
  by_cases h : 0 < (keepP s.gone s.sm).length
  · rw [if_pos h]
    have : fullP (toldP (l, s)) = true := decide_eq_true h
    rw [List.filter_cons_of_pos this, List.filter_nil]
    rfl
  · rw [if_neg h]
    have : ¬ fullP (toldP (l, s)) = true := fun e => h (of_decide_eq_true e)
    rw [List.filter_cons_of_neg this, List.filter_nil, List.append_nil]
/-- the answer of Raw, as it lies: all of it the call's own -/
structure RawO (w : World) (base : Nat) (v : Value) (L : List Ser) : Prop where
  row : w.ownsRow base 73 3 v L.length (L.flatMap Ser.cells)
  lab : ∀ x ∈ L, w.ownsRow base 70 2 x.lab.val x.lab.n (x.lab.l.flatMap Lbl.cells) ∧ x.lab.l.length = x.lab.n ∧ validP x.lab.l
  smp : ∀ x ∈ L, w.ownsRow base 68 2 x.smp.val x.smp.n (x.smp.l.flatMap Smp.cells) ∧ x.smp.l.length = x.smp.n
  win : ∀ x ∈ L, x.win = Sl.nil
section
variable {w w' : World} {base b : Nat} {v : Value} {L : List Ser} {ts : List TypeId} {mp : Bool}
theorem RawO.turn (h : RawO w base v L) (k : Turn b ts mp w w') (h1 : 73 ∉ ts) (h2 : 70 ∉ ts) (h3 : 68 ∉ ts) : RawO w' base v L :=
  ⟨k.own h.row (.inl h1), fun x hx => ⟨k.own (h.lab x hx).1 (.inl h2), (h.lab x hx).2⟩, fun x hx => ⟨k.own (h.smp x hx).1 (.inl h3), (h.smp x hx).2⟩, h.win⟩
theorem RawO.below (h : RawO w base v L) (hb : Below w.heap.size w w') : RawO w' base v L := h.turn (Turn.of_below hb 0 [] false) (by simp) (by simp) (by simp)
theorem RawO.more {base' : Nat} (h : RawO w base v L) (hb : base' ≤ base) : RawO w base' v L := ⟨own_more h.row hb, fun x hx => ⟨own_more (h.lab x hx).1 hb, (h.lab x hx).2⟩, fun x hx => ⟨own_more (h.smp x hx).1 hb, (h.smp x hx).2⟩, h.win⟩
theorem RawO.nil : RawO w base (.slice none 0 0) [] := ⟨World.ownsRow_nil _ _ _ _, by simp, by simp, by simp⟩
/-- a series more -/
theorem RawO.snoc {v' : Value} {x : Ser} (h : RawO w base v L) (hl : w.ownsRow base 70 2 x.lab.val x.lab.n (x.lab.l.flatMap Lbl.cells) ∧ x.lab.l.length = x.lab.n ∧ validP x.lab.l) (hs : w.ownsRow base 68 2 x.smp.val x.smp.n (x.smp.l.flatMap Smp.cells) ∧ x.smp.l.length = x.smp.n) (hw : x.win = Sl.nil)
    (hown : w'.ownsRow base 73 3 v' (L.length + 1) (L.flatMap Ser.cells ++ x.cells)) (hg : w.grownBy w' v.ownBlock) : RawO w' base v' (L ++ [x]) := by
  have k : Turn base [73] false w w' := Turn.of_own h.row (Nat.le_refl _) (by simp) hg
  refine ⟨by simpa using hown, fun y hy => ?_, fun y hy => ?_, fun y hy => ?_⟩
  · rcases List.mem_append.1 hy with hy | hy
    · exact ⟨k.own (h.lab y hy).1 (.inl (by decide)), (h.lab y hy).2⟩
    · rw [List.mem_singleton.1 hy]; exact ⟨k.own hl.1 (.inl (by decide)), hl.2⟩
  · rcases List.mem_append.1 hy with hy | hy
    · exact ⟨k.own (h.smp y hy).1 (.inl (by decide)), (h.smp y hy).2⟩
    · rw [List.mem_singleton.1 hy]; exact ⟨k.own hs.1 (.inl (by decide)), hs.2⟩
  · rcases List.mem_append.1 hy with hy | hy
    · exact h.win y hy
    · rw [List.mem_singleton.1 hy]; exact hw
/-- the row in another order -/
theorem RawO.perm {S : List Ser} (h : RawO w base v L) (hp : S.Perm L) (hown : w'.ownsRow base 73 3 v L.length (S.flatMap Ser.cells)) (hg : w.grownBy w' v.ownBlock) : RawO w' base v S := by
  have k : Turn base [73] false w w' := Turn.of_own h.row (Nat.le_refl _) (by simp) hg
  exact ⟨by rw [hp.length_eq]; exact hown, fun x hx => ⟨k.own (h.lab x (hp.mem_iff.1 hx)).1 (.inl (by decide)), (h.lab x (hp.mem_iff.1 hx)).2⟩, fun x hx => ⟨k.own (h.smp x (hp.mem_iff.1 hx)).1 (.inl (by decide)), (h.smp x (hp.mem_iff.1 hx)).2⟩, fun x hx => h.win x (hp.mem_iff.1 hx)⟩
end
/-! Raw's closures -/
theorem raw1_any (i : Nat) (x : HsR) (y : Smp) (V F base : Nat) (fr : Int) (w : World) (hx : x.At w base) (hV : Whole1 w V 108 #[x.ptr]) (hF : Whole1 w F 2 #[.int .i64 fr]) (hi : x.sm[i]? = some y) :
    Calls Tryz.prog 48 #[.int .i64 i, .pointer (some ⟨V, 0, none⟩), .pointer (some ⟨F, 0, none⟩)] w fun e w' => e = .returned (.bool (decide (fr ≤ y.t))) ∧ Below w.heap.size w w' := by
  obtain ⟨hil, _⟩ := List.getElem?_eq_some_iff.1 hi
  obtain ⟨As, cs, hsv, _, hrow⟩ := own_shape hx.smp
  obtain ⟨gs, os, z, rfl, _, hz, hc⟩ := row_at (enc := Smp.cells) (k := 2) (fun _ => rfl) hrow rfl i hil
  obtain rfl : y = z := by rw [hi] at hz; exact Option.some.inj hz
  have c0 : w.cell? ⟨gs, os + i * 2, none⟩ = some (.int .i64 y.t) := hc 0 (by omega)
  have b4 : w.cell? ⟨x.b, 4, none⟩ = some (.slice (some ⟨gs, os, none⟩) x.sm.length cs) := by rw [hx.blk.cell 4, ← hsv]; rfl
  have v0 : w.cell? ⟨V, 0, none⟩ = some (.pointer (some ⟨x.b, 0, none⟩)) := hV.cell 0
  have f0 : w.cell? ⟨F, 0, none⟩ = some (.int .i64 fr) := hF.cell 0
  obtain ⟨n, hn⟩ : ∃ n, x.sm.length = n := ⟨_, rfl⟩
  rw [hn] at hil b4
  have k0 : (0 : Int) ≤ (i : Int) := by omega
  have k1 : (i : Int) < (n : Int) := by omega
  clear hx hV hF hi hz hc hsv hrow hn
  go_enter Tryz.func48, Tryz.ntmps48
  go_wp2_with fail
  go_quiet (fail)
  go_wp2_with fail
  go_ret
  exact ⟨rfl, below_drewN (Below.refl _ _) _⟩
theorem raw2_any (i : Nat) (x : HsR) (y : Smp) (V F base : Nat) (fr : Int) (w : World) (hx : x.At w base) (hV : Whole1 w V 108 #[x.ptr]) (hF : Whole1 w F 2 #[.int .i64 fr]) (hi : x.sm[i]? = some y) :
    Calls Tryz.prog 49 #[.int .i64 i, .pointer (some ⟨V, 0, none⟩), .pointer (some ⟨F, 0, none⟩)] w fun e w' => e = .returned (.bool (decide (fr < y.t))) ∧ Below w.heap.size w w' := by
  obtain ⟨hil, _⟩ := List.getElem?_eq_some_iff.1 hi
  obtain ⟨As, cs, hsv, _, hrow⟩ := own_shape hx.smp
  obtain ⟨gs, os, z, rfl, _, hz, hc⟩ := row_at (enc := Smp.cells) (k := 2) (fun _ => rfl) hrow rfl i hil
  obtain rfl : y = z := by rw [hi] at hz; exact Option.some.inj hz
  have c0 : w.cell? ⟨gs, os + i * 2, none⟩ = some (.int .i64 y.t) := hc 0 (by omega)
  have b4 : w.cell? ⟨x.b, 4, none⟩ = some (.slice (some ⟨gs, os, none⟩) x.sm.length cs) := by rw [hx.blk.cell 4, ← hsv]; rfl
  have v0 : w.cell? ⟨V, 0, none⟩ = some (.pointer (some ⟨x.b, 0, none⟩)) := hV.cell 0
  have f0 : w.cell? ⟨F, 0, none⟩ = some (.int .i64 fr) := hF.cell 0
  obtain ⟨n, hn⟩ : ∃ n, x.sm.length = n := ⟨_, rfl⟩
  rw [hn] at hil b4
  have k0 : (0 : Int) ≤ (i : Int) := by omega
  have k1 : (i : Int) < (n : Int) := by omega
  clear hx hV hF hi hz hc hsv hrow hn
  go_enter Tryz.func49, Tryz.ntmps49
  go_wp2_with fail
  go_quiet (fail)
  go_wp2_with fail
  go_ret
  exact ⟨rfl, below_drewN (Below.refl _ _) _⟩
theorem raw3_any (x y : Ser) (w : World) (b : Nat) (hx : x.lab.At w b 2 Lbl.cells) (hy : y.lab.At w b 2 Lbl.cells) (hb : b ≤ w.heap.size) (hxn : x.lab.n ≤ 4611686018427387904) (hyn : y.lab.n ≤ 4611686018427387904) :
    Calls Tryz.prog 52 #[.agg #[.slice x.lab.A x.lab.n x.lab.c, .slice x.smp.A x.smp.n x.smp.c, .slice x.win.A x.win.n x.win.c], .agg #[.slice y.lab.A y.lab.n y.lab.c, .slice y.smp.A y.smp.n y.smp.c, .slice y.win.A y.win.n y.win.c]] w
      fun e w' => e = .returned (.int .i64 (cmpLs x.lab.l y.lab.l)) ∧ Gr w w' := by
  have HX := hidden hx
  have HY := hidden hy
  clear hx hy
  go_enter Tryz.func52, Tryz.ntmps52
  go_wp2_with fail
  have hG : Gr w ((w.alloc (.cells #[.slice x.lab.A x.lab.n x.lab.c, .slice x.smp.A x.smp.n x.smp.c, .slice x.win.A x.win.n x.win.c] 73)).alloc (.cells #[.slice y.lab.A y.lab.n y.lab.c, .slice y.smp.A y.smp.n y.smp.c, .slice y.win.A y.win.n y.win.c] 73)) := ((Gr.refl _).alloc _).alloc _
  have hB := hG.below
  have hs := hB.size
  refine (lcompare_any _ _ _ _ _ _ x.lab.l y.lab.l _ b b (HX.out.2.2.keep fun g hg => hB.block g (by omega)) (HY.out.2.2.keep fun g hg => hB.block g (by omega)) (by omega) (by omega) HX.out.2.1 HY.out.2.1 hxn hyn).mono ?_
  rintro e w' ⟨rfl, hG2⟩
  go_wp2_with fail
  go_ret
  exact ⟨rfl, hG.trans hG2⟩
theorem swo_labH : Go.Sort.SWO fun x y : Ser => decide (cmpLs x.lab.l y.lab.l < 0) where
  irrefl x := tri_Ls.swo.irrefl x.lab.l
  trans x y z := tri_Ls.swo.trans x.lab.l y.lab.l z.lab.l
  ntrans x y z := tri_Ls.swo.ntrans x.lab.l y.lab.l z.lab.l
/-- the sort of Raw's answer -/
theorem rawSort_any (v : Value) (base : Nat) (l : List Ser) (w : World) (h : RawO w base v l) (hn : l.length ≤ 1099511627776) (_hbase : base ≤ w.heap.size) :
    Calls Tryz.prog 51 #[v, .func (.func 52) #[] #[]] w
      fun e w' => e = .returned (.tuple #[]) ∧ ∃ S, SrfSer.SrtRes (fun x y => decide (cmpLs x.lab.l y.lab.l < 0)) l S ∧ RawO w' base v S ∧ w.grownBy w' v.ownBlock := by
  have hat : ∀ (x : Ser) (W : World) (g : Nat), x ∈ l → w.grownBy W (some g) → v.ownBlock = some g → x.lab.At W W.heap.size 2 Lbl.cells := fun x W g hx hW hv => by
    have k : Turn base [73] false w W := Turn.of_own h.row (Nat.le_refl _) (by simp) (by rw [hv]; exact hW)
    have h1 := k.own (h.lab x hx).1 (.inl (by decide))
    obtain ⟨A, c, e, hc, hr⟩ := own_shape h1
    obtain ⟨⟨lA, lN, lC, ll⟩, _, _⟩ := x
    simp only [Sl.val, Value.slice.injEq, true_and] at e
    obtain ⟨rfl, rfl⟩ := e
    exact ⟨hc, (h.lab _ hx).2.1, hr⟩
  have hlen : ∀ x ∈ l, x.lab.n ≤ 4611686018427387904 := fun x hx => by
    have h1 := (valid_small (h.lab x hx).2.2).1
    have h2 := (h.lab x hx).2.1
    omega
  rcases Nat.eq_zero_or_pos l.length with h0 | h0
  · obtain rfl : l = [] := List.eq_nil_of_length_eq_zero h0
    obtain ⟨A, c, rfl, hc, _⟩ := own_shape h.row
    refine (SrfSer.sort0_any A c _ w).mono ?_
    rintro e w' ⟨rfl, rfl⟩
    exact ⟨rfl, [], ⟨List.Perm.refl _, List.Pairwise.nil⟩, h, gb_refl _ _⟩
  · obtain ⟨g, c, rest, rfl, hg, hw, hnc, hc, _, hm⟩ := own_whole_g SrfSer.hk h.row h0
    refine (SrfSer.sort_any g c l.length (c * 3) l rest _ #[] (fun x y => cmpLs x.lab.l y.lab.l) w (enters_of Tryz.func52 (by kernel_rfl) rfl) swo_labH (fun x hx y hy W hW => ?_) hw hm rfl (by omega) h0).mono ?_
    · exact raw3_any x y W W.heap.size (hat x W g hx hW rfl) (hat y W g hy hW rfl) (Nat.le_refl _) (hlen x hx) (hlen y hy)
    · rintro e w' ⟨rfl, S, rest', hS, hw', hm', hg'⟩
      exact ⟨rfl, S, hS, h.perm hS.1 (own_of_whole_g SrfSer.hk hg hw' hnc hc (by rw [hS.1.length_eq]) hm') hg', hg'⟩
end Go.Proofs.YthncochjhbmceaaGreat

namespace Go.Proofs.YthncochjhbmceaaGreat
set_option maxRecDepth 100000
open Go.RowKit

section
variable {w w' : World} {b : Nat} {ts : List TypeId} {mp : Bool}
theorem fitB_turn (k : Turn b ts mp w w') (hn : ∀ u ∈ [9, 226, 332], u ∉ ts) {fv : Value} {F : ByteArray → Bool} (h : FitB w fv F) : FitB w' fv F := by
  rcases h with ⟨bx, value, e, h1, h2⟩ | ⟨nb, p, t, e, h1, h2, h3⟩
  · exact .inl ⟨bx, value, e, k.whole h1 (.inr (hn _ (by simp))), h2⟩
  · refine .inr ⟨nb, p, t, e, k.whole h1 (.inr (hn _ (by simp))), isTr_nodes (fun g u cs hu h => k.whole h (.inr ?_)) t p h2, h3⟩
    rcases hu with rfl | rfl
    · exact hn _ (by simp)
    · exact hn _ (by simp)
theorem MatAt.turn {M : Nat} {kind : Int} {name value : ByteArray} {F : ByteArray → Bool} (h : MatAt w M kind name value F) (k : Turn b ts mp w w') (hn : ∀ u ∈ [9, 226, 332, 223, 225], u ∉ ts) : MatAt w' M kind name value F := by
  have hn3 : ∀ u ∈ [9, 226, 332], u ∉ ts := fun u hu => hn u (by simp at hu ⊢; rcases hu with h | h | h <;> simp [h])
  obtain ⟨fv, h1, h2⟩ := h
  refine ⟨fv, k.whole h1 (.inr (hn _ (by simp))), ?_⟩
  rcases h2 with h2 | ⟨tb, fv0, F0, e, h2, h3, h4⟩
  · exact .inl (fitB_turn k hn3 h2)
  · exact .inr ⟨tb, fv0, F0, e, k.whole h2 (.inr (hn _ (by simp))), fitB_turn k hn3 h3, h4⟩
/-- matchers of the call's own -/
structure MsO (w : World) (base : Nat) (A : Option Addr) (c : Nat) (ms : List Mt) : Prop where
  row : w.ownsRow base 159 1 (.slice A ms.length c) ms.length (ms.map Mt.ptr)
  each : ∀ x ∈ ms, MatAt w x.M x.kind x.name x.value x.F
theorem MsO.turn {base c : Nat} {A : Option Addr} {ms : List Mt} (h : MsO w base A c ms) (k : Turn b ts mp w w') (hn : ∀ u ∈ [9, 226, 332, 223, 225], u ∉ ts) (h2 : 159 ∉ ts) : MsO w' base A c ms :=
  ⟨k.own h.row (.inl h2), fun x hx => (h.each x hx).turn k hn⟩
theorem MsO.below {base c : Nat} {A : Option Addr} {ms : List Mt} (h : MsO w base A c ms) (hb : Below w.heap.size w w') : MsO w' base A c ms := h.turn (Turn.of_below hb 0 [] false) (by simp) (by simp)
theorem MsO.mt {base c : Nat} {A : Option Addr} {ms : List Mt} (h : MsO w base A c ms) : MtRow w A ms.length ms := by
  obtain ⟨A', c', e, _, hr⟩ := own_shape h.row
  simp only [Value.slice.injEq, true_and] at e
  obtain ⟨rfl, rfl⟩ := e
  exact ⟨hr, rfl, h.each⟩
end
/-! the taking, series by series -/
theorem gonesP_off (i : Nat) : ∀ (G : List (Int × Int × List Spn)) (S : List SerP), (∀ q ∈ G, q.1.toNat ≠ i) → (gonesP S G)[i]? = S[i]?
  | [], _, _ => rfl
  | q :: G, S, h => by
    have h1 := gonesP_off i G (goneP S q) fun p hp => h p (List.mem_cons_of_mem _ hp)
    show (gonesP (goneP S q) G)[i]? = _
    rw [h1]
    unfold goneP
    split
    · rw [List.getElem?_set_ne (h q (by simp))]
    · rfl
theorem gonesP_on (i : Nat) : ∀ (G : List (Int × Int × List Spn)) (S : List SerP), (G.map fun q => q.1.toNat).Nodup → ∀ q ∈ G, q.1.toNat = i → (gonesP S G)[i]? = S[i]?.map fun s => ⟨s.mx, q.2.2, s.sm⟩
  | [], _, _, q, hq, _ => by cases hq
  | p :: G, S, hn, q, hq, e => by
    show (gonesP (goneP S p) G)[i]? = _
    rw [List.map_cons, List.nodup_cons] at hn
    rcases List.mem_cons.1 hq with rfl | hq
    · rw [gonesP_off i G _ fun r hr er => hn.1 (List.mem_map.2 ⟨r, hr, er.trans e.symm⟩)]
      unfold goneP
      rw [e]
      split
      · rename_i s hs
        rw [List.getElem?_set_self (List.getElem?_eq_some_iff.1 hs).1, hs]
        rfl
      · rename_i hs
        rw [hs]
        rfl
    · rw [gonesP_on i G _ hn.2 q hq e]
      have hne : p.1.toNat ≠ i := fun ep => hn.1 (List.mem_map.2 ⟨q, hq, e.trans ep.symm⟩)
      congr 1
      unfold goneP
      split
      · rw [List.getElem?_set_ne hne]
      · rfl
theorem gonesP_len : ∀ (G : List (Int × Int × List Spn)) (S : List SerP), (gonesP S G).length = S.length
  | [], _ => rfl
  | q :: G, S => by
    show (gonesP (goneP S q) G).length = _
    rw [gonesP_len G]
    unfold goneP
    split
    · rw [List.length_set]
    · rfl
theorem fitsTo_nodup (E : List (List Lbl)) (ms : List Mt) : ∀ k, ((fitsTo E ms k).map Int.toNat).Nodup
  | 0 => by simp [fitsTo]
  | k + 1 => by
    have ih := fitsTo_nodup E ms k
    cases hl : E[k]? with
    | none => rw [fitsTo, hl, List.append_nil]; exact ih
    | some l =>
      cases hf : allM l ms with
      | false => rw [fitsTo_no hl hf]; exact ih
      | true =>
        rw [fitsTo_yes hl hf, List.map_append, List.nodup_append]
        refine ⟨ih, by simp, fun a ha c hc e => ?_⟩
        obtain ⟨z, hz, rfl⟩ := List.mem_map.1 ha
        obtain ⟨i, _, hi, _, rfl, _⟩ := mem_fitsTo.1 hz
        simp only [List.map_cons, List.map_nil, Int.toNat_natCast, List.mem_singleton] at hc e
        omega
theorem eraL_nodup (mx : List Int) (T : List Spn) (E : List (List Lbl)) (ms : List Mt) (k : Nat) : ((eraL mx T (fitsTo E ms k)).map fun q => q.1.toNat).Nodup := by
  unfold eraL
  have h1 : (((fitsTo E ms k).map (eraG mx T)).map fun q => q.1.toNat) = (fitsTo E ms k).map Int.toNat := by rw [List.map_map]; rfl
  have h2 := fitsTo_nodup E ms k
  rw [← h1] at h2
  exact h2.sublist (List.filter_sublist.map _)
/-- what is left of each series' samples -/
theorem erased {E : List (List Lbl)} {S : List SerP} {ms : List Mt} {T : List Spn} {sp : Spn} (_hl : S.length = E.length) (hg : ∀ s ∈ S, s.gone = []) (hsm : ∀ s ∈ S, ∀ x ∈ s.sm, 0 ≤ x.t ∧ x.t ≤ s.mx ∧ x.t ≤ 1125899906842624) (hT : ∀ t, hasP T t = (inSpn sp t && inSpn ⟨0, 1125899906842624⟩ t)) :
    ∀ (i : Nat) (l : List Lbl) (s : SerP), E[i]? = some l → S[i]? = some s → ∃ g, (gonesP S (eraL (S.map SerP.mx) T (fitsTo E ms E.length)))[i]? = some ⟨s.mx, g, s.sm⟩ ∧ ∀ x ∈ s.sm, hasP g x.t = (allM l ms && inSpn sp x.t) := by
  intro i l s hi hs
  have hm := List.mem_of_getElem? hs
  have hmx : (S.map SerP.mx).getD ((i : Nat) : Int).toNat (-1) = s.mx := by rw [Int.toNat_natCast, List.getD_eq_getElem?_getD, List.getElem?_map, hs]; rfl
  have hhas : ∀ x ∈ s.sm, hasP (clipS 0 s.mx T) x.t = inSpn sp x.t := fun x hx => by
    obtain ⟨h1, h2, h3⟩ := hsm s hm x hx
    rw [clipS_has, hT]
    have e1 : inSpn ⟨0, 1125899906842624⟩ x.t = true := inSpn_iff.2 ⟨h1, h3⟩
    have e2 : inSpn ⟨0, s.mx⟩ x.t = true := inSpn_iff.2 ⟨h1, h2⟩
    rw [e1, e2, Bool.and_true, Bool.and_true]
  have hs0 : s = ⟨s.mx, [], s.sm⟩ := by rw [← hg s hm]
  cases hf : allM l ms with
  | false =>
    refine ⟨[], ?_, fun x _ => rfl⟩
    rw [gonesP_off i, hs, ← hs0]
    intro q hq e
    obtain ⟨z, hz, rfl⟩ := List.mem_map.1 (List.mem_filter.1 hq).1
    obtain ⟨j, l2, _, hj, rfl, hf2⟩ := mem_fitsTo.1 hz
    simp only [eraG, Int.toNat_natCast] at e
    subst e
    rw [hi] at hj
    cases hj
    rw [hf] at hf2
    cases hf2
  | true =>
    have hz : (i : Int) ∈ fitsTo E ms E.length := mem_fitsTo.2 ⟨i, l, (List.getElem?_eq_some_iff.1 hi).1, hi, rfl, hf⟩
    by_cases hl0 : 0 < (clipS 0 s.mx T).length
    · have hq : ((i : Int), (0 : Int), clipS 0 s.mx T) ∈ eraL (S.map SerP.mx) T (fitsTo E ms E.length) := by
        refine List.mem_filter.2 ⟨List.mem_map.2 ⟨(i : Int), hz, ?_⟩, decide_eq_true hl0⟩
        unfold eraG
        rw [hmx]
      refine ⟨clipS 0 s.mx T, ?_, fun x hx => by rw [hhas x hx]; rfl⟩
      rw [gonesP_on i _ _ (eraL_nodup _ _ _ _ _) _ hq (Int.toNat_natCast _), hs]
      rfl
    · have hnil : clipS 0 s.mx T = [] := List.eq_nil_of_length_eq_zero (by omega)
      refine ⟨[], ?_, fun x hx => ?_⟩
      · rw [gonesP_off i, hs, ← hs0]
        intro q hq e
        obtain ⟨h1, h2⟩ := List.mem_filter.1 hq
        obtain ⟨z, hz2, rfl⟩ := List.mem_map.1 h1
        obtain ⟨j, l2, _, hj, rfl, hf2⟩ := mem_fitsTo.1 hz2
        simp only [eraG, Int.toNat_natCast] at e
        subst e
        have h3 := of_decide_eq_true h2
        simp only [eraG] at h3
        rw [hmx] at h3
        exact hl0 h3
      · have := hhas x hx
        rw [hnil] at this
        rw [← this]
        rfl
/-- what the law keeps of a series -/
def leftF (ms : List Mt) (sp : Spn) (q : List Lbl × List Smp) : List Lbl × List Smp := (q.1, q.2.filter fun x => !(allM q.1 ms && inSpn sp x.t))
theorem raw_left (ms : List Mt) (sp : Spn) : ∀ (E : List (List Lbl)) (S S' : List SerP), S.length = E.length → S'.length = E.length → (∀ s ∈ S, s.gone = []) →
    (∀ (i : Nat) (l : List Lbl) (s : SerP), E[i]? = some l → S[i]? = some s → ∃ g, S'[i]? = some ⟨s.mx, g, s.sm⟩ ∧ ∀ x ∈ s.sm, hasP g x.t = (allM l ms && inSpn sp x.t)) → rawL E S' = ((rawL E S).map (leftF ms sp)).filter fullP
  | [], S, S', h1, h2, _, _ => by
    obtain rfl := List.eq_nil_of_length_eq_zero h1
    obtain rfl := List.eq_nil_of_length_eq_zero h2
    rfl
  | l :: E, [], _, h1, _, _, _ => by cases h1
  | l :: E, _ :: _, [], _, h2, _, _ => by cases h2
  | l :: E, s :: S, s' :: S', h1, h2, hg, h => by
    have ih := raw_left ms sp E S S' (by simpa using h1) (by simpa using h2) (fun x hx => hg x (List.mem_cons_of_mem _ hx)) (fun i l s hl hs => h (i + 1) l s (by simpa using hl) (by simpa using hs))
    obtain ⟨g, hg1, hg2⟩ := h 0 l s rfl rfl
    simp only [List.getElem?_cons_zero, Option.some.injEq] at hg1
    subst hg1
    have hk : keepP g s.sm = s.sm.filter fun x => !(allM l ms && inSpn sp x.t) := by
      unfold keepP
      exact List.filter_congr fun x hx => by rw [hg2 x hx]
    have hk0 : keepP s.gone s.sm = s.sm := by
      rw [hg s (by simp)]
      unfold keepP
      rw [List.filter_eq_self]
      intro x _
      rfl
    unfold rawL at ih ⊢
    rw [List.zip_cons_cons, List.zip_cons_cons, List.map_cons, List.map_cons]
    have e1 : toldP (l, (⟨s.mx, g, s.sm⟩ : SerP)) = leftF ms sp (toldP (l, s)) := by
      unfold toldP leftF
      simp only [hk, hk0]
    rw [e1]
    by_cases hf0 : fullP (toldP (l, s)) = true
    · rw [List.filter_cons_of_pos hf0, List.map_cons]
      by_cases hf1 : fullP (leftF ms sp (toldP (l, s))) = true
      · rw [List.filter_cons_of_pos hf1, List.filter_cons_of_pos hf1, ih]
      · rw [List.filter_cons_of_neg hf1, List.filter_cons_of_neg hf1, ih]
    · rw [List.filter_cons_of_neg hf0]
      have hf1 : ¬ fullP (leftF ms sp (toldP (l, s))) = true := fun e => hf0 (by
        have h3 := of_decide_eq_true e
        refine decide_eq_true (Nat.lt_of_lt_of_le h3 ?_)
        exact List.length_filter_le _ _)
      rw [List.filter_cons_of_neg hf1, ih]
theorem inj_of_nodup {α β : Type} {f : α → β} : ∀ {l : List α}, (l.map f).Nodup → ∀ {a b : α}, a ∈ l → b ∈ l → f a = f b → a = b
  | [], _, _, _, h, _, _ => by cases h
  | x :: l, hn, a, b, ha, hb, e => by
    rw [List.map_cons, List.nodup_cons] at hn
    rcases List.mem_cons.1 ha with ea | ha2
    · rcases List.mem_cons.1 hb with eb | hb2
      · rw [ea, eb]
      · exact absurd (List.mem_map.2 ⟨b, hb2, by rw [← e, ea]⟩) hn.1
    · rcases List.mem_cons.1 hb with eb | hb2
      · exact absurd (List.mem_map.2 ⟨a, ha2, by rw [e, eb]⟩) hn.1
      · exact inj_of_nodup hn.2 ha2 hb2 e
/-- two lists in the order of their sets, told alike, are alike -/
theorem sorted_left {E : List (List Lbl)} {S S' : List SerP} {L1 L2 : List Ser} {ms : List Mt} {sp : Spn} (hE : E.Nodup) (hl : S'.length = E.length) (h : rawL E S' = ((rawL E S).map (leftF ms sp)).filter fullP) (p1 : (L1.map Ser.q).Perm (rawL E S)) (s1 : L1.Pairwise fun x y => decide (cmpLs y.lab.l x.lab.l < 0) = false)
    (p2 : (L2.map Ser.q).Perm (rawL E S')) (s2 : L2.Pairwise fun x y => decide (cmpLs y.lab.l x.lab.l < 0) = false) : L2.map Ser.q = ((L1.map Ser.q).map (leftF ms sp)).filter fullP := by
  have hp : (L2.map Ser.q).Perm (((L1.map Ser.q).map (leftF ms sp)).filter fullP) := by
    refine p2.trans ?_
    rw [h]
    exact ((p1.map _).filter _).symm
  have hnd : ((rawL E S').map (·.1)).Nodup := by
    unfold rawL
    have h1 : (((E.zip S').map toldP).map (·.1)) = E := by
      rw [List.map_map]
      exact List.map_fst_zip (by omega)
    have h2 := hE
    rw [← h1] at h2
    exact h2.sublist (List.filter_sublist.map _)
  refine hp.eq_of_pairwise (le := fun a c => decide (cmpLs c.1 a.1 < 0) = false) (fun a c ha hc h1 h2 => ?_) ?_ ?_
  · have e : a.1 = c.1 := by
      have h3 := of_decide_eq_false h1
      have h4 := of_decide_eq_false h2
      have h5 := tri_Ls.turn a.1 c.1
      exact (tri_Ls.zero _ _).1 (by omega)
    have ha' := p2.mem_iff.1 ha
    have hc' := p2.mem_iff.1 (hp.mem_iff.2 hc)
    exact inj_of_nodup hnd ha' hc' e
  · rw [List.pairwise_map]; exact s2
  · refine List.Pairwise.sublist List.filter_sublist ?_
    rw [List.pairwise_map, List.pairwise_map]
    exact s1
end Go.Proofs.YthncochjhbmceaaGreat
