/- MergeMerges: what is left of two merges when one of them is written into. No condition. -/
import Derived.Test.YtohocdbneopooaaMrgLaws
namespace Go.Proofs.Ytohocdbneopooaa
set_option maxRecDepth 100000
open Go.RowKit

def refLT : TypeId := 25
theorem info_refL : (Try.prog.info? 25).map (fun i => (i.zero, i.size, i.bytes)) = some (some (.slice none 0 0), 1, 24) := by kernel_rfl
/-- the law's seriesRef: where it lies -/
def RefO (w : World) (ss : List Ser) (n : Nat) (e : Ending) (w' : World) : Prop :=
  ∃ (A : Option Addr) (c : Nat) (L : List Ser), e = .returned (.slice A n c) ∧ SL w' A n L ∧ n ≤ c ∧ L.map Ser.sk = ss.map Ser.sk ∧ Below w.heap.size w w' ∧ (∀ j, j < w.heap.size → (Sl.mk A n c L).Off (some j)) ∧ ∀ x ∈ L, ∀ j, j < w.heap.size → x.Off (some j)
theorem refO_law (A : Option Addr) (n c : Nat) (ss : List Ser) (w : World) (h : SL w A n ss) : Calls Try.prog 26 #[.slice A n c] w (RefO w ss n) := by
  refine (seriesRef21_any A n c ss w h.row h.len (by have := h.few; omega) h.at_ h.fit).mono ?_
  rintro e w' ⟨v, L, rfl, ho, hs, hb⟩
  have hsk := hs.sks
  have hl := hs.len
  obtain ⟨A', c', rfl, hc, hr⟩ := own_shape ho
  refine ⟨A', c', L, rfl, ⟨hr, by rw [hs.len, h.len], hs.at_, fun x hx => ?_, h.few⟩, hc, hsk, hb, fun j hj => Sl.off_own ho hj, fun x hx j hj => hs.own x hx j hj⟩
  obtain ⟨i, hi⟩ := List.getElem?_of_mem hx
  have hi' : i < ss.length := by rw [← hl]; exact (List.getElem?_eq_some_iff.1 hi).1
  have hsm := hs.same i _ _ (List.getElem?_eq_getElem hi') hi
  have hy := List.getElem_mem hi'
  generalize ss[i] = y at *
  have ha := hs.at_ x hx
  have hy2 := h.at_ y hy
  have hz := h.small y hy
  have s1 : x.lab.n = y.lab.n := by rw [← ha.lab.2.1, ← hy2.lab.2.1, hsm.lab]
  have s2 : x.smp.n = y.smp.n := by rw [← ha.smp.2.1, ← hy2.smp.2.1, hsm.smp]
  have s3 : x.win.n = y.win.n := by rw [← ha.win.2.1, ← hy2.win.2.1, hsm.win]
  omega

/-- what was given, copied list by list -/
structure GSt (w wr : World) (v : Value) (GL LK : List (Sl Ser)) : Prop where
  row : wr.ownsRow w.heap.size refLT 1 v GL.length (GL.map Sl.val)
  sl : ∀ s ∈ GL, SS wr s
  off : ∀ s ∈ GL, s.Off v.ownBlock ∧ ∀ x ∈ s.l, x.Off v.ownBlock
  sks : GL.map (fun s => s.l.map Ser.sk) = LK.map (fun s => s.l.map Ser.sk)
  below : Below w.heap.size w wr
theorem GSt.nil (w : World) : GSt w w (.slice none 0 0) [] [] := ⟨World.ownsRow_nil _ _ _ _, by simp, by simp, rfl, Below.refl _ _⟩
theorem GSt.on {w wr wx : World} {v : Value} {GL LK : List (Sl Ser)} (h : GSt w wr v GL LK) (hb : Below wr.heap.size wr wx) : GSt w wx v GL LK :=
  ⟨own_below h.row hb (Nat.le_refl _), fun s hs => (h.sl s hs).on hb, h.off, h.sks, h.below.trans (hb.mono h.below.size)⟩
theorem SS.grown {w w' : World} {s : Sl Ser} {X : Option Nat} (h : SS w s) (hg : w.grownBy w' X) (ho : s.Off X) (hx : ∀ x ∈ s.l, x.Off X) : SS w' s :=
  ⟨⟨(h.1.row.grown hg ho (Nat.le_refl _)).more hg.size, h.1.len, fun x hxm => ((h.1.at_ x hxm).grown hg (hx x hxm) (Nat.le_refl _)).more hg.size, h.1.small, h.1.few⟩, h.2⟩
theorem SS.off_ge {w : World} {s : Sl Ser} {j : Nat} (h : SS w s) (hj : w.heap.size ≤ j) : s.Off (some j) ∧ ∀ x ∈ s.l, x.Off (some j) := by
  refine ⟨fun hn a ha e => ?_, fun x hx => (h.1.at_ x hx).off hj⟩
  obtain ⟨g, o, e1, hb, _⟩ := h.1.row.at_ hn
  rw [ha] at e1
  injection e1 with e1
  injection e with e
  rw [e1] at e
  simp only at e
  omega
/-- one list more -/
theorem GSt.more {w wr wy w9 : World} {v v9 : Value} {GL LK : List (Sl Ser)} {s t : Sl Ser} {c : Obj} (h : GSt w wr v GL LK) (hby : Below wr.heap.size wr wy) (hs : SS wy s) (hso : (∀ j, j < wr.heap.size → s.Off (some j)) ∧ ∀ x ∈ s.l, ∀ j, j < wr.heap.size → x.Off (some j)) (hk : s.l.map Ser.sk = t.l.map Ser.sk)
    (hg : (wy.alloc c).grownBy w9 v.ownBlock) (hat : v9.ownBlock = v.ownBlock ∨ v9.ownBlock = some (wy.alloc c).heap.size) (hrow : w9.ownsRow w.heap.size refLT 1 v9 (GL.length + 1) (GL.map Sl.val ++ [s.val])) : GSt w w9 v9 (GL ++ [s]) (LK ++ [t]) := by
  have hY := h.on hby
  have hbA : Below wy.heap.size wy (wy.alloc c) := (Below.refl _ _).alloc (Nat.le_refl _) _
  have hvo : ∀ q, v.ownBlock = some q → q < wr.heap.size := fun q hq => (h.row.lt q hq).2
  have hall : ∀ z ∈ GL ++ [s], SS wy z ∧ z.Off v.ownBlock ∧ ∀ x ∈ z.l, x.Off v.ownBlock := fun z hz => by
    rcases List.mem_append.1 hz with hz | hz
    · exact ⟨hY.sl z hz, h.off z hz⟩
    · rw [List.mem_singleton.1 hz]
      refine ⟨hs, ?_, fun x hx => ?_⟩
      · cases hv : v.ownBlock with
        | none => exact Sl.off_none _
        | some q => exact hso.1 q (hvo q hv)
      · cases hv : v.ownBlock with
        | none => exact Ser.off_none _
        | some q => exact hso.2 x hx q (hvo q hv)
  refine ⟨?_, fun z hz => ?_, fun z hz => ?_, ?_, ?_⟩
  · rw [List.length_append, List.map_append]; exact hrow
  · obtain ⟨h1, h2, h3⟩ := hall z hz
    exact (h1.on hbA).grown hg h2 h3
  · obtain ⟨h1, h2, h3⟩ := hall z hz
    rcases hat with e | e
    · rw [e]; exact ⟨h2, h3⟩
    · rw [e]
      exact (h1.on hbA).off_ge (Nat.le_refl _)
  · rw [List.map_append, List.map_append, h.sks, List.map_singleton, List.map_singleton, hk]
  · exact (hY.below.trans (hbA.mono hY.below.size)).grown hg (by have := hY.below.size; have := hbA.size; omega) (fun q hq => (h.row.lt q hq).1)
theorem flat_sks {GL LK : List (Sl Ser)} (h : GL.map (fun s => s.l.map Ser.sk) = LK.map (fun s => s.l.map Ser.sk)) : MR.allOf GL = MR.allOf LK := by
  have e : ∀ l : List (Sl Ser), MR.allOf l = (l.map fun s => s.l.map Ser.sk).flatten := fun l => by
    unfold MR.allOf
    induction l with
    | nil => rfl
    | cons a l ih => simp only [List.flatMap_cons, List.map_append, List.map_cons, List.flatten_cons, ih]
  rw [e, e, h]
/-- what was given, as the reference takes it -/
theorem GSt.sll {w wr : World} {A A' : Option Addr} {n n' c : Nat} {GL LL : List (Sl Ser)} (h : GSt w wr (.slice A n c) GL LL) (hn : GL.length = n) (hL : SLL w A' n' LL) : SLL wr A n GL := by
  have hr := h.row
  rw [hn] at hr
  obtain ⟨A2, c2, hv, _, hrow⟩ := own_shape hr
  injection hv with hv1 hv2 hv3
  subst hv1
  have hall := flat_sks h.sks
  have e1 : (MR.allOf GL).length = total GL := MR.allOf_len GL fun s hs => ⟨(h.sl s hs).2, (h.sl s hs).1.len, (h.sl s hs).1.row⟩
  have e2 : (MR.allOf LL).length = total LL := MR.allOf_len LL hL.at_
  have e3 : ∀ (X : List (Sl Ser)), (∀ s ∈ X, ∀ x ∈ s.l, x.smp.l.length = x.smp.n ∧ x.win.l.length = x.win.n) → MR.ssum (MR.allOf X) = wsum (X.flatMap Sl.l) := fun X hX => MR.ssum_ser _ fun u hu => by
    obtain ⟨s', hs', hu'⟩ := List.mem_flatMap.1 hu
    exact hX s' hs' u hu'
  have e4 := e3 GL fun s hs x hx => ⟨((h.sl s hs).1.at_ x hx).smp.2.1, ((h.sl s hs).1.at_ x hx).win.2.1⟩
  have e5 := e3 LL fun s hs x hx => ⟨(hL.sers s hs x hx).1.smp.2.1, (hL.sers s hs x hx).1.win.2.1⟩
  have hln : GL.length = LL.length := by have := congrArg List.length h.sks; simpa using this
  refine ⟨hrow, hn, fun s hs => ⟨(h.sl s hs).2, (h.sl s hs).1.len, (h.sl s hs).1.row⟩, fun s hs x hx => ⟨(h.sl s hs).1.at_ x hx, ((h.sl s hs).1.small x hx).1⟩, ?_, ?_, ?_⟩
  · rw [← e1, hall, e2]; exact hL.tot
  · rw [← e4, hall, e5]; exact hL.sum
  · have := hL.len; have := hL.few; omega

/-! Writing into what the first merge answered. -/
/-- a row that may be written into, wherever it lies between lo and hi, but not in block ga -/
def Tgt (wx : World) (A : Option Addr) (n k lo hi ga : Nat) : Prop := 0 < n → ∃ (g : Nat) (t : TypeId) (cs : Array Value), A = some ⟨g, 0, none⟩ ∧ Whole1 wx g t cs ∧ n * k ≤ cs.size ∧ lo ≤ g ∧ g < hi ∧ g ≠ ga
theorem Tgt.put {wx : World} {A : Option Addr} {n k lo hi ga : Nat} (h : Tgt wx A n k lo hi ga) (q i : Nat) (u : Value) : Tgt (wx.setCell ⟨q, i, none⟩ u) A n k lo hi ga := fun hn => by
  obtain ⟨g, t, cs, h1, h2, h3, h4⟩ := h hn
  by_cases hq : g = q
  · subst hq
    exact ⟨g, t, _, h1, h2.put i u, by simpa using h3, h4⟩
  · exact ⟨g, t, cs, h1, h2.off hq u, h3, h4⟩
theorem tgt_of_own {w : World} {base e size n c hi ga : Nat} {A : Option Addr} {xs : List Value} (h : w.ownsRow base e size (.slice A n c) n xs) (hi' : w.heap.size ≤ hi) (hga : (Value.slice A n c).ownBlock ≠ some ga) : Tgt w A n size base hi ga := fun hn => by
  have hne := hga
  obtain ⟨hl, h2⟩ := h
  rcases h2 with ⟨_, h0⟩ | ⟨g, cap, cur, hv, hb, hg, hnc, _, hs, _⟩
  · omega
  · injection hv with h1 _ _
    subst h1
    refine ⟨g, e, cur, rfl, hg, ?_, hb, ?_, fun e' => hne (by rw [e']; rfl)⟩
    · rw [hs]; exact Nat.mul_le_mul_right _ hnc
    · have := (Array.getElem?_eq_some_iff.1 hg).1
      omega
theorem Tgt.below {wx wy : World} {A : Option Addr} {n k lo hi ga : Nat} (h : Tgt wx A n k lo hi ga) (hb : Below hi wx wy) : Tgt wy A n k lo hi ga := fun hn => by
  obtain ⟨g, t, cs, h1, h2, h3, h4, h5, h6⟩ := h hn
  exact ⟨g, t, cs, h1, h2.below hb h5, h3, h4, h5, h6⟩
theorem tgt_smp {w : World} {base ga : Nat} {v : Value} {L : List Ser} {y : Ser} (h : MOut w base v L) (hy : y ∈ L) (hga : 0 < L.length → v.ownBlock = some ga) : Tgt w y.smp.A y.smp.n 2 base w.heap.size ga ∧ Tgt w y.lab.A y.lab.n 2 base w.heap.size ga := by
  have hv := hga (List.length_pos_of_mem hy)
  obtain ⟨h1, h2⟩ := h.out y hy ga hv
  refine ⟨tgt_of_own (h.own y hy).smp (Nat.le_refl _) (fun e => h1 (.inl e)), fun hn => tgt_of_own ((h.own y hy).labown hn) (Nat.le_refl _) (fun e => ?_) hn⟩
  rcases Sl.off_block h2 hn with e2 | e2
  · rw [show y.lab.val = Value.slice y.lab.A y.lab.n y.lab.c from rfl] at e2
    rw [e2] at e
    cases e
  · exact e2 e
theorem MOut.off_put {w : World} {base q : Nat} {v : Value} {L : List Ser} (h : MOut w base v L) (hq : q < base) (i : Nat) (u : Value) : MOut (w.setCell ⟨q, i, none⟩ u) base v L := by
  have hg : w.grownBy (w.setCell ⟨q, i, none⟩ u) (some q) := gb_put (gb_refl w _) i u
  refine ⟨h.row.kept hg ?_, fun y hy => (h.own y hy).grown hg fun p hp => ?_, h.out, h.sep⟩
  · cases hv : v.ownBlock with
    | none => exact .inl rfl
    | some p => exact .inr fun e => by injection e with e; have := (h.row.lt p hv).1; omega
  · injection hp with hp
    subst hp
    refine ⟨fun hb => by have := ((h.own y hy).lt hb).1; omega, fun hn => ?_⟩
    have hlo := (h.own y hy).labown hn
    exact Sl.off_own (l := y.lab.l) hlo hq hn
theorem MR.MOut.off_put {w w0 : World} {base q b : Nat} {v : Value} {L : List Ser} (h : MR.MOut w base v L) (hlab : ∀ y ∈ L, y.lab.At w0 b 2 Lbl.cells) (hq : q < base) (hb : b ≤ q) (i : Nat) (u : Value) : MR.MOut (w.setCell ⟨q, i, none⟩ u) base v L := by
  have hg : w.grownBy (w.setCell ⟨q, i, none⟩ u) (some q) := gb_put (gb_refl w _) i u
  refine ⟨h.row.kept hg ?_, fun y hy => (h.own y hy).grown hg fun p hp => ?_, h.out, h.sep⟩
  · cases hv : v.ownBlock with
    | none => exact .inl rfl
    | some p => exact .inr fun e => by injection e with e; have := (h.row.lt p hv).1; omega
  · injection hp with hp
    subst hp
    exact ⟨fun hb => by have := ((h.own y hy).lt hb).1; omega, (hlab y hy).off hb⟩
end Go.Proofs.Ytohocdbneopooaa
