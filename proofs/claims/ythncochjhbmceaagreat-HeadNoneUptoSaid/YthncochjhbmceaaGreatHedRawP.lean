/- What Raw tells of a head, plainly, and how its answer lies; Raw's closures. Condition: the series' times are within the range. -/
import Derived.Test.YthncochjhbmceaaGreatHedAP
import Derived.Test.YthncochjhbmceaaGreatPk78afa221
import Derived.Test.YthncochjhbmceaaGreatPk0d6c2eab
import Derived.Test.YthncochjhbmceaaGreatPk6485189d
import Derived.Test.YthncochjhbmceaaGreatPk4a1fa525
import Derived.BigQuiet
namespace Go.Proofs.YthncochjhbmceaaGreat
set_option maxRecDepth 100000
open Go.RowKit Go.Shelf

/-- what is told of a series -/
def toldP (p : List Lbl × SerP) : List Lbl × List Smp := (p.1, keepP p.2.gone p.2.sm)
def fullP (q : List Lbl × List Smp) : Bool := decide (0 < q.2.length)
/-- what a head tells of all times, in the order of the series' numbers -/
def rawL (E : List (List Lbl)) (S : List SerP) : List (List Lbl × List Smp) := ((E.zip S).map toldP).filter fullP
def Ser.q (x : Ser) : List Lbl × List Smp := (x.lab.l, x.smp.l)
theorem keepP_of {l R : List Spn} (h : OfRes l R) (s : List Smp) : keepP R s = keepP l s := by
  unfold keepP
  congr 1
  funext x
  rw [h.has]
theorem rawL_take {E : List (List Lbl)} {S : List SerP} {k : Nat} {l : List Lbl} {s : SerP} (hl : E[k]? = some l) (hs : S[k]? = some s) :
    rawL (E.take (k + 1)) (S.take (k + 1)) = if 0 < (keepP s.gone s.sm).length then rawL (E.take k) (S.take k) ++ [(l, keepP s.gone s.sm)] else rawL (E.take k) (S.take k) := by
  have h1 := (List.getElem?_eq_some_iff.1 hl).1
  have h2 := (List.getElem?_eq_some_iff.1 hs).1
  unfold rawL
  rw [take_snoc? hl, take_snoc? hs, List.zip_append (by rw [List.length_take, List.length_take]; omega), List.map_append, List.filter_append]
  show _ ++ List.filter fullP [toldP (l, s)] = _
  by_cases h : 0 < (keepP s.gone s.sm).length
  · rw [if_pos h]
    have : fullP (toldP (l, s)) = true := decide_eq_true h
    rw [List.filter_cons_of_pos this, List.filter_nil]
    rfl
  · rw [if_neg h]
    have : ¬ fullP (toldP (l, s)) = true := fun e => h (of_decide_eq_true e)
    rw [List.filter_cons_of_neg this, List.filter_nil, List.append_nil]
/-- the answer of Raw, as it lies: all of it the call's own -/
structure RawO (w : World) (base : Nat) (v : Value) (L : List Ser) : Prop where
  row : w.ownsRow base 73 3 v L.length (L.flatMap Ser.cells)
  lab : ∀ x ∈ L, w.ownsRow base 70 2 x.lab.val x.lab.n (x.lab.l.flatMap Lbl.cells) ∧ x.lab.l.length = x.lab.n ∧ validP x.lab.l
  smp : ∀ x ∈ L, w.ownsRow base 68 2 x.smp.val x.smp.n (x.smp.l.flatMap Smp.cells) ∧ x.smp.l.length = x.smp.n
  win : ∀ x ∈ L, x.win = Sl.nil
section
variable {w w' : World} {base b : Nat} {v : Value} {L : List Ser} {ts : List TypeId} {mp : Bool}
theorem RawO.turn (h : RawO w base v L) (k : Turn b ts mp w w') (h1 : 73 ∉ ts) (h2 : 70 ∉ ts) (h3 : 68 ∉ ts) : RawO w' base v L :=
  ⟨k.own h.row (.inl h1), fun x hx => ⟨k.own (h.lab x hx).1 (.inl h2), (h.lab x hx).2⟩, fun x hx => ⟨k.own (h.smp x hx).1 (.inl h3), (h.smp x hx).2⟩, h.win⟩
theorem RawO.below (h : RawO w base v L) (hb : Below w.heap.size w w') : RawO w' base v L := h.turn (Turn.of_below hb 0 [] false) (by simp) (by simp) (by simp)
theorem RawO.more {base' : Nat} (h : RawO w base v L) (hb : base' ≤ base) : RawO w base' v L := ⟨own_more h.row hb, fun x hx => ⟨own_more (h.lab x hx).1 hb, (h.lab x hx).2⟩, fun x hx => ⟨own_more (h.smp x hx).1 hb, (h.smp x hx).2⟩, h.win⟩
theorem RawO.nil : RawO w base (.slice none 0 0) [] := ⟨World.ownsRow_nil _ _ _ _, by simp, by simp, by simp⟩
/-- a series more -/
theorem RawO.snoc {v' : Value} {x : Ser} (h : RawO w base v L) (hl : w.ownsRow base 70 2 x.lab.val x.lab.n (x.lab.l.flatMap Lbl.cells) ∧ x.lab.l.length = x.lab.n ∧ validP x.lab.l) (hs : w.ownsRow base 68 2 x.smp.val x.smp.n (x.smp.l.flatMap Smp.cells) ∧ x.smp.l.length = x.smp.n) (hw : x.win = Sl.nil)
    (hown : w'.ownsRow base 73 3 v' (L.length + 1) (L.flatMap Ser.cells ++ x.cells)) (hg : w.grownBy w' v.ownBlock) : RawO w' base v' (L ++ [x]) := by
  have k : Turn base [73] false w w' := Turn.of_own h.row (Nat.le_refl _) (by simp) hg
  refine ⟨by simpa using hown, fun y hy => ?_, fun y hy => ?_, fun y hy => ?_⟩
  · rcases List.mem_append.1 hy with hy | hy
    · exact ⟨k.own (h.lab y hy).1 (.inl (by decide)), (h.lab y hy).2⟩
    · rw [List.mem_singleton.1 hy]; exact ⟨k.own hl.1 (.inl (by decide)), hl.2⟩
  · rcases List.mem_append.1 hy with hy | hy
    · exact ⟨k.own (h.smp y hy).1 (.inl (by decide)), (h.smp y hy).2⟩
    · rw [List.mem_singleton.1 hy]; exact ⟨k.own hs.1 (.inl (by decide)), hs.2⟩
  · rcases List.mem_append.1 hy with hy | hy
    · exact h.win y hy
    · rw [List.mem_singleton.1 hy]; exact hw
/-- the row in another order -/
theorem RawO.perm {S : List Ser} (h : RawO w base v L) (hp : S.Perm L) (hown : w'.ownsRow base 73 3 v L.length (S.flatMap Ser.cells)) (hg : w.grownBy w' v.ownBlock) : RawO w' base v S := by
  have k : Turn base [73] false w w' := Turn.of_own h.row (Nat.le_refl _) (by simp) hg
  exact ⟨by rw [hp.length_eq]; exact hown, fun x hx => ⟨k.own (h.lab x (hp.mem_iff.1 hx)).1 (.inl (by decide)), (h.lab x (hp.mem_iff.1 hx)).2⟩, fun x hx => ⟨k.own (h.smp x (hp.mem_iff.1 hx)).1 (.inl (by decide)), (h.smp x (hp.mem_iff.1 hx)).2⟩, fun x hx => h.win x (hp.mem_iff.1 hx)⟩
end
/-! Raw's closures -/
theorem raw1_any (i : Nat) (x : HsR) (y : Smp) (V F base : Nat) (fr : Int) (w : World) (hx : x.At w base) (hV : Whole1 w V 108 #[x.ptr]) (hF : Whole1 w F 2 #[.int .i64 fr]) (hi : x.sm[i]? = some y) :
    Calls Tryz.prog 48 #[.int .i64 i, .pointer (some ⟨V, 0, none⟩), .pointer (some ⟨F, 0, none⟩)] w fun e w' => e = .returned (.bool (decide (fr ≤ y.t))) ∧ Below w.heap.size w w' := by
  obtain ⟨hil, _⟩ := List.getElem?_eq_some_iff.1 hi
  obtain ⟨As, cs, hsv, _, hrow⟩ := own_shape hx.smp
  obtain ⟨gs, os, z, rfl, _, hz, hc⟩ := row_at (enc := Smp.cells) (k := 2) (fun _ => rfl) hrow rfl i hil
  obtain rfl : y = z := by rw [hi] at hz; exact Option.some.inj hz
  have c0 : w.cell? ⟨gs, os + i * 2, none⟩ = some (.int .i64 y.t) := hc 0 (by omega)
  have b4 : w.cell? ⟨x.b, 4, none⟩ = some (.slice (some ⟨gs, os, none⟩) x.sm.length cs) := by rw [hx.blk.cell 4, ← hsv]; rfl
  have v0 : w.cell? ⟨V, 0, none⟩ = some (.pointer (some ⟨x.b, 0, none⟩)) := hV.cell 0
  have f0 : w.cell? ⟨F, 0, none⟩ = some (.int .i64 fr) := hF.cell 0
  obtain ⟨n, hn⟩ : ∃ n, x.sm.length = n := ⟨_, rfl⟩
  rw [hn] at hil b4
  have k0 : (0 : Int) ≤ (i : Int) := by omega
  have k1 : (i : Int) < (n : Int) := by omega
  clear hx hV hF hi hz hc hsv hrow hn
  go_enter Tryz.func48, Tryz.ntmps48
  go_wp2_with fail
  go_quiet (fail)
  go_wp2_with fail
  go_ret
  exact ⟨rfl, below_drewN (Below.refl _ _) _⟩
theorem raw2_any (i : Nat) (x : HsR) (y : Smp) (V F base : Nat) (fr : Int) (w : World) (hx : x.At w base) (hV : Whole1 w V 108 #[x.ptr]) (hF : Whole1 w F 2 #[.int .i64 fr]) (hi : x.sm[i]? = some y) :
    Calls Tryz.prog 49 #[.int .i64 i, .pointer (some ⟨V, 0, none⟩), .pointer (some ⟨F, 0, none⟩)] w fun e w' => e = .returned (.bool (decide (fr < y.t))) ∧ Below w.heap.size w w' := by
  obtain ⟨hil, _⟩ := List.getElem?_eq_some_iff.1 hi
  obtain ⟨As, cs, hsv, _, hrow⟩ := own_shape hx.smp
  obtain ⟨gs, os, z, rfl, _, hz, hc⟩ := row_at (enc := Smp.cells) (k := 2) (fun _ => rfl) hrow rfl i hil
  obtain rfl : y = z := by rw [hi] at hz; exact Option.some.inj hz
  have c0 : w.cell? ⟨gs, os + i * 2, none⟩ = some (.int .i64 y.t) := hc 0 (by omega)
  have b4 : w.cell? ⟨x.b, 4, none⟩ = some (.slice (some ⟨gs, os, none⟩) x.sm.length cs) := by rw [hx.blk.cell 4, ← hsv]; rfl
  have v0 : w.cell? ⟨V, 0, none⟩ = some (.pointer (some ⟨x.b, 0, none⟩)) := hV.cell 0
  have f0 : w.cell? ⟨F, 0, none⟩ = some (.int .i64 fr) := hF.cell 0
  obtain ⟨n, hn⟩ : ∃ n, x.sm.length = n := ⟨_, rfl⟩
  rw [hn] at hil b4
  have k0 : (0 : Int) ≤ (i : Int) := by omega
  have k1 : (i : Int) < (n : Int) := by omega
  clear hx hV hF hi hz hc hsv hrow hn
  go_enter Tryz.func49, Tryz.ntmps49
  go_wp2_with fail
  go_quiet (fail)
  go_wp2_with fail
  go_ret
  exact ⟨rfl, below_drewN (Below.refl _ _) _⟩
theorem raw3_any (x y : Ser) (w : World) (b : Nat) (hx : x.lab.At w b 2 Lbl.cells) (hy : y.lab.At w b 2 Lbl.cells) (hb : b ≤ w.heap.size) (hxn : x.lab.n ≤ 4611686018427387904) (hyn : y.lab.n ≤ 4611686018427387904) :
    Calls Tryz.prog 52 #[.agg #[.slice x.lab.A x.lab.n x.lab.c, .slice x.smp.A x.smp.n x.smp.c, .slice x.win.A x.win.n x.win.c], .agg #[.slice y.lab.A y.lab.n y.lab.c, .slice y.smp.A y.smp.n y.smp.c, .slice y.win.A y.win.n y.win.c]] w
      fun e w' => e = .returned (.int .i64 (cmpLs x.lab.l y.lab.l)) ∧ Gr w w' := by
  have HX := hidden hx
  have HY := hidden hy
  clear hx hy
  go_enter Tryz.func52, Tryz.ntmps52
  go_wp2_with fail
  have hG : Gr w ((w.alloc (.cells #[.slice x.lab.A x.lab.n x.lab.c, .slice x.smp.A x.smp.n x.smp.c, .slice x.win.A x.win.n x.win.c] 73)).alloc (.cells #[.slice y.lab.A y.lab.n y.lab.c, .slice y.smp.A y.smp.n y.smp.c, .slice y.win.A y.win.n y.win.c] 73)) := ((Gr.refl _).alloc _).alloc _
  have hB := hG.below
  have hs := hB.size
  refine (lcompare_any _ _ _ _ _ _ x.lab.l y.lab.l _ b b (HX.out.2.2.keep fun g hg => hB.block g (by omega)) (HY.out.2.2.keep fun g hg => hB.block g (by omega)) (by omega) (by omega) HX.out.2.1 HY.out.2.1 hxn hyn).mono ?_
  rintro e w' ⟨rfl, hG2⟩
  go_wp2_with fail
  go_ret
  exact ⟨rfl, hG.trans hG2⟩
theorem swo_labH : Go.Sort.SWO fun x y : Ser => decide (cmpLs x.lab.l y.lab.l < 0) where
  irrefl x := tri_Ls.swo.irrefl x.lab.l
  trans x y z := tri_Ls.swo.trans x.lab.l y.lab.l z.lab.l
  ntrans x y z := tri_Ls.swo.ntrans x.lab.l y.lab.l z.lab.l
/-- the sort of Raw's answer -/
theorem rawSort_any (v : Value) (base : Nat) (l : List Ser) (w : World) (h : RawO w base v l) (hn : l.length ≤ 1099511627776) (_hbase : base ≤ w.heap.size) :
    Calls Tryz.prog 51 #[v, .func (.func 52) #[] #[]] w
      fun e w' => e = .returned (.tuple #[]) ∧ ∃ S, SrfSer.SrtRes (fun x y => decide (cmpLs x.lab.l y.lab.l < 0)) l S ∧ RawO w' base v S ∧ w.grownBy w' v.ownBlock := by
  have hat : ∀ (x : Ser) (W : World) (g : Nat), x ∈ l → w.grownBy W (some g) → v.ownBlock = some g → x.lab.At W W.heap.size 2 Lbl.cells := fun x W g hx hW hv => by
    have k : Turn base [73] false w W := Turn.of_own h.row (Nat.le_refl _) (by simp) (by rw [hv]; exact hW)
    have h1 := k.own (h.lab x hx).1 (.inl (by decide))
    obtain ⟨A, c, e, hc, hr⟩ := own_shape h1
    obtain ⟨⟨lA, lN, lC, ll⟩, _, _⟩ := x
    simp only [Sl.val, Value.slice.injEq, true_and] at e
    obtain ⟨rfl, rfl⟩ := e
    exact ⟨hc, (h.lab _ hx).2.1, hr⟩
  have hlen : ∀ x ∈ l, x.lab.n ≤ 4611686018427387904 := fun x hx => by
    have h1 := (valid_small (h.lab x hx).2.2).1
    have h2 := (h.lab x hx).2.1
    omega
  rcases Nat.eq_zero_or_pos l.length with h0 | h0
  · obtain rfl : l = [] := List.eq_nil_of_length_eq_zero h0
    obtain ⟨A, c, rfl, hc, _⟩ := own_shape h.row
    refine (SrfSer.sort0_any A c _ w).mono ?_
    rintro e w' ⟨rfl, rfl⟩
    exact ⟨rfl, [], ⟨List.Perm.refl _, List.Pairwise.nil⟩, h, gb_refl _ _⟩
  · obtain ⟨g, c, rest, rfl, hg, hw, hnc, hc, _, hm⟩ := own_whole_g SrfSer.hk h.row h0
    refine (SrfSer.sort_any g c l.length (c * 3) l rest _ #[] (fun x y => cmpLs x.lab.l y.lab.l) w (enters_of Tryz.func52 (by kernel_rfl) rfl) swo_labH (fun x hx y hy W hW => ?_) hw hm rfl (by omega) h0).mono ?_
    · exact raw3_any x y W W.heap.size (hat x W g hx hW rfl) (hat y W g hy hW rfl) (Nat.le_refl _) (hlen x hx) (hlen y hy)
    · rintro e w' ⟨rfl, S, rest', hS, hw', hm', hg'⟩
      exact ⟨rfl, S, hS, h.perm hS.1 (own_of_whole_g SrfSer.hk hg hw' hnc hc (by rw [hS.1.length_eq]) hm') hg', hg'⟩
end Go.Proofs.YthncochjhbmceaaGreat
