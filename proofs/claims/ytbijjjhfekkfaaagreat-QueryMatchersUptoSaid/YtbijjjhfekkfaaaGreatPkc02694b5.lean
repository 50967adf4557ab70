/- Merging, stripping and clipping as the law of QueryBest needs them: lists by what they tell, as they lie. Condition: what comes in is within the reach. query.Best and the reference's: the resolution for questions from a time on. No condition. query.Run as the law's example runs it: Raw, from 5 to 9, nothing below 6, no matchers, nothing taken away. Condition: the sources are within the reach. -/
import Derived.Test.YtbijjjhfekkfaaaGreatPk741c0c2c
import Derived.Test.YtbijjjhfekkfaaaGreatPk056a60a8
import Derived.Test.YtbijjjhfekkfaaaGreatPk71c4278d
import Derived.Test.YtbijjjhfekkfaaaGreatPkfb9d4d2a
import Derived.Test.YtbijjjhfekkfaaaGreatPkc2774c96
import Derived.Test.YtbijjjhfekkfaaaGreatBase
import Derived.Deep.QuietTactic
import Derived.BigQuiet
import Derived.IntWalk
import Derived.Test.YtbijjjhfekkfaaaGreatPkeb949a40
import Derived.Deep.RegionHeld3
namespace Go.Proofs.YtbijjjhfekkfaaaGreat
set_option maxRecDepth 100000
open Go.RowKit Go.Shelf

namespace MR
def allOf (LL : List (Sl Ser)) : List SK := (LL.flatMap Sl.l).map Ser.sk
theorem allOf_len {w : World} {B : Nat} (LL : List (Sl Ser)) (h : ∀ s ∈ LL, s.At w B 3 Ser.cells) : (allOf LL).length = total LL := by
  unfold allOf
  rw [List.length_map]
  exact total_len LL fun s hs => (h s hs).2.1
def ssum (P : List SK) : Nat := (P.map fun s => s.2.1.length + s.2.2.length).sum
theorem ssum_app (a b : List SK) : ssum (a ++ b) = ssum a + ssum b := by simp [ssum]
theorem ssum_ser : ∀ (l : List Ser), (∀ x ∈ l, x.smp.l.length = x.smp.n ∧ x.win.l.length = x.win.n) → ssum (l.map Ser.sk) = wsum l
  | [], _ => rfl
  | x :: l, h => by
    have ih := ssum_ser l fun y hy => h y (List.mem_cons_of_mem _ hy)
    obtain ⟨h1, h2⟩ := h x (List.mem_cons_self ..)
    have e1 : ssum ((x :: l).map Ser.sk) = x.smp.l.length + x.win.l.length + ssum (l.map Ser.sk) := by simp [ssum, Ser.sk]
    have e2 : wsum (x :: l) = x.smp.n + x.win.n + wsum l := by simp [wsum]
    rw [e1, e2, h1, h2, ih]
end MR
/-- a list of series, as it lies -/
structure SL (w : World) (A : Option Addr) (n : Nat) (L : List Ser) : Prop where
  row : Row w w.heap.size 3 A n (serCells L)
  len : L.length = n
  at_ : ∀ x ∈ L, x.At w w.heap.size
  small : ∀ x ∈ L, x.lab.n ≤ 1048576 ∧ x.smp.n + x.win.n ≤ 1099511627776
  few : n ≤ 1099511627776
theorem SL.on {w w' : World} {A : Option Addr} {n : Nat} {L : List Ser} (h : SL w A n L) (hb : Below w.heap.size w w') : SL w' A n L :=
  ⟨(h.row.below hb).more hb.size, h.len, fun x hx => ((h.at_ x hx).below hb).more hb.size, h.small, h.few⟩
theorem SL.nil (w : World) : SL w none 0 [] := ⟨Row.nil, rfl, by simp, by simp, by omega⟩
theorem SL.fit {w : World} {A : Option Addr} {n : Nat} {L : List Ser} (h : SL w A n L) : ∀ x ∈ L, x.Fit := fun x hx => by
  have := h.small x hx
  exact ⟨by simp only [reachBytes]; omega, by simp only [reachBytes]; omega, by simp only [reachBytes]; omega⟩
/-- a list of lists of series, as it lies -/
structure SLL (w : World) (A : Option Addr) (n : Nat) (LL : List (Sl Ser)) : Prop where
  row : Row w w.heap.size 1 A n (LL.map Sl.val)
  len : LL.length = n
  at_ : ∀ s ∈ LL, s.At w w.heap.size 3 Ser.cells
  sers : ∀ s ∈ LL, ∀ x ∈ s.l, x.At w w.heap.size ∧ x.lab.n ≤ 1048576
  tot : total LL ≤ 1099511627776
  sum : wsum (LL.flatMap Sl.l) ≤ 1099511627776
  few : n ≤ 1099511627776
theorem SLL.on {w w' : World} {A : Option Addr} {n : Nat} {LL : List (Sl Ser)} (h : SLL w A n LL) (hb : Below w.heap.size w w') : SLL w' A n LL :=
  ⟨(h.row.below hb).more hb.size, h.len, fun s hs => ((h.at_ s hs).below hb).more hb.size, fun s hs x hx => ⟨((h.sers s hs x hx).1.below hb).more hb.size, (h.sers s hs x hx).2⟩, h.tot, h.sum, h.few⟩

theorem addK_len (K : List SK) (s : SK) : (addK K s).length ≤ K.length + 1 := by
  unfold addK
  split
  · simp
  · rename_i z hz
    have : K ≠ [] := fun e => by rw [e] at hz; cases hz
    have := List.length_pos_iff.2 this
    split
    · rw [List.length_append, List.length_dropLast, List.length_singleton]; omega
    · rw [List.length_append, List.length_singleton]; omega
theorem ssum_addK (K : List SK) (s : SK) : MR.ssum (addK K s) = MR.ssum K + (s.2.1.length + s.2.2.length) := by
  have h1 : ∀ x : SK, MR.ssum [x] = x.2.1.length + x.2.2.length := fun x => by simp [MR.ssum]
  rcases List.eq_nil_or_concat K with rfl | ⟨M, z, rfl⟩
  · show MR.ssum [s] = _
    rw [h1]; simp [MR.ssum]
  · rw [List.concat_eq_append]
    unfold addK
    rw [List.getLast?_concat]
    simp only
    split
    · rw [List.dropLast_concat, MR.ssum_app, MR.ssum_app, h1, h1]; simp only [List.length_append]; omega
    · rw [MR.ssum_app, h1]
theorem groupK_len : ∀ (S : List Ser), (groupK S).length ≤ S.length ∧ MR.ssum (groupK S) = MR.ssum (S.map Ser.sk) := by
  intro S
  generalize hn : S.length = n
  induction n generalizing S with
  | zero =>
    obtain rfl := List.eq_nil_of_length_eq_zero hn
    exact ⟨Nat.le_refl _, rfl⟩
  | succ n ih =>
    rcases List.eq_nil_or_concat S with rfl | ⟨M, x, rfl⟩
    · simp at hn
    · rw [List.concat_eq_append] at hn ⊢
      obtain ⟨h1, h2⟩ := ih M (by simpa using hn)
      rw [groupK_snoc, List.map_append, MR.ssum_app]
      refine ⟨Nat.le_trans (addK_len _ _) (by omega), ?_⟩
      rw [ssum_addK, h2]
      simp [MR.ssum]
theorem onced_sum : ∀ {K : List SK} {R : List Ser}, Onced K R → MR.ssum (R.map Ser.sk) ≤ MR.ssum K
  | [], [], _ => Nat.le_refl _
  | [], _ :: _, h => by have := h.1; simp at this
  | _ :: _, [], h => by have := h.1; simp at this
  | k :: K, y :: R, h => by
    have h0 := h.2 0 k rfl
    obtain ⟨y', e, _, h3, h4⟩ := h0
    obtain rfl : y = y' := Option.some.inj e
    have ih : MR.ssum (R.map Ser.sk) ≤ MR.ssum K := onced_sum ⟨by have := h.1; simpa using this, fun i k' hk => by
      have := h.2 (i + 1) k' (by simpa using hk)
      simpa using this⟩
    have e1 : MR.ssum ((y :: R).map Ser.sk) = y.smp.l.length + y.win.l.length + MR.ssum (R.map Ser.sk) := by simp [MR.ssum, Ser.sk]
    have e2 : MR.ssum (k :: K) = k.2.1.length + k.2.2.length + MR.ssum K := by simp [MR.ssum]
    have := onceS_len h3
    have := onceW_len h4
    omega
theorem ssum_sub : ∀ {a b : List SK}, a.Sublist b → MR.ssum a ≤ MR.ssum b := by
  intro a b h
  have e : ∀ (x : SK) (l : List SK), MR.ssum (x :: l) = x.2.1.length + x.2.2.length + MR.ssum l := fun x l => by simp [MR.ssum]
  induction h with
  | slnil => exact Nat.le_refl _
  | cons a _ ih => rw [e]; omega
  | cons_cons a _ ih => rw [e, e]; omega

/-- what merge.Merge answers, as the laws see it -/
def MRes (all : List SK) (w : World) (e : Ending) (w' : World) : Prop :=
  ∃ (A : Option Addr) (c : Nat) (L : List Ser), e = .returned (.slice A L.length c) ∧ MOut w' w.heap.size (.slice A L.length c) L ∧ SL w' A L.length L ∧ Canon (L.map Ser.sk) ∧ Eqv (L.map Ser.sk) all ∧ Below w.heap.size w w' ∧ L.length ≤ all.length ∧ MR.ssum (L.map Ser.sk) ≤ MR.ssum all ∧ L.length ≤ c
theorem sl_of_mout {w : World} {base : Nat} {v : Value} {L : List Ser} (h : MOut w base v L) (hs : ∀ y ∈ L, y.lab.n ≤ 1048576 ∧ y.smp.n + y.win.n ≤ 1099511627776) (hn : L.length ≤ 1099511627776) : ∃ A c, v = .slice A L.length c ∧ L.length ≤ c ∧ SL w A L.length L := by
  obtain ⟨A, c, rfl, hc, hr⟩ := own_shape h.row
  exact ⟨A, c, rfl, hc, hr, rfl, fun x hx => (h.own x hx).at_, hs, hn⟩
theorem merge_law (A : Option Addr) (n c : Nat) (LL : List (Sl Ser)) (w : World) (h : SLL w A n LL) : Calls Tryz.prog 20 #[.slice A n c] w (MRes (MR.allOf LL) w) := by
  refine (mergeS_any A n c LL w h.row h.len h.at_ h.sers h.tot h.sum (by have := h.few; omega)).mono ?_
  rintro e w' ⟨v, S, R, H, rfl, hS, hR, hH, hM, hsz, hlen, hb⟩
  have hall : (MR.allOf LL).length ≤ 1099511627776 := by rw [MR.allOf_len LL h.at_]; exact h.tot
  have hSl : S.length = (MR.allOf LL).length := by unfold MR.allOf; rw [List.length_map]; exact hS.1.length_eq
  have hK := groupK_len S
  have hfl : (R.filter full).length ≤ (MR.allOf LL).length := by
    have := List.length_filter_le full R
    have := hR.1
    omega
  obtain ⟨A', c', rfl, hcap, hsl⟩ := sl_of_mout hM (fun y hy => hsz y (List.mem_filter.1 hy).1) (by omega)
  obtain ⟨hc, he⟩ := canon_of_merge hS hR hlen
  refine ⟨A', c', R.filter full, rfl, hM.base hH, hsl, hc, he, hb, hfl, ?_, hcap⟩
  have h1 : MR.ssum ((R.filter full).map Ser.sk) ≤ MR.ssum (R.map Ser.sk) := ssum_sub (List.filter_sublist.map _)
  have h2 := onced_sum hR
  have h3 : MR.ssum (S.map Ser.sk) = MR.ssum (MR.allOf LL) := by
    unfold MR.ssum MR.allOf
    exact ((hS.1.map Ser.sk).map _).sum_nat
  omega
/-- a list of series, as it lies, within the reach -/
structure SF (w : World) (A : Option Addr) (n : Nat) (L : List Ser) : Prop where
  row : Row w w.heap.size 3 A n (serCells L)
  len : L.length = n
  at_ : ∀ x ∈ L, x.At w w.heap.size
  fit : ∀ x ∈ L, x.Fit
  few : n * 72 ≤ 140737488351232
theorem SF.on {w w' : World} {A : Option Addr} {n : Nat} {L : List Ser} (h : SF w A n L) (hb : Below w.heap.size w w') : SF w' A n L :=
  ⟨(h.row.below hb).more hb.size, h.len, fun x hx => ((h.at_ x hx).below hb).more hb.size, h.fit, h.few⟩
theorem SL.sf {w : World} {A : Option Addr} {n : Nat} {L : List Ser} (h : SL w A n L) : SF w A n L := ⟨h.row, h.len, h.at_, h.fit, by have := h.few; omega⟩
theorem kept_count {ps : Ser → Smp → Bool} {pw : Ser → Win → Bool} {L ss : List Ser} (h : L.map Ser.sk = keptAll ps pw ss) : L.length ≤ ss.length := by
  have := congrArg List.length h
  rw [List.length_map] at this
  rw [this]
  refine Nat.le_trans (List.length_filter_le _ _) ?_
  rw [List.length_map]
  exact Nat.le_refl _
theorem kept_small {ps : Ser → Smp → Bool} {pw : Ser → Win → Bool} {L ss : List Ser} {w w' : World} {B B' : Nat} (h : L.map Ser.sk = keptAll ps pw ss) (ha : ∀ x ∈ L, x.At w B) (hs : ∀ x ∈ ss, x.At w' B') (hz : ∀ x ∈ ss, x.lab.n ≤ 1048576 ∧ x.smp.n + x.win.n ≤ 1099511627776) : ∀ x ∈ L, x.lab.n ≤ 1048576 ∧ x.smp.n + x.win.n ≤ 1099511627776 := by
  intro x hx
  have hm : x.sk ∈ keptAll ps pw ss := by rw [← h]; exact List.mem_map.2 ⟨x, hx, rfl⟩
  obtain ⟨s, hsm, he⟩ := List.mem_map.1 (List.mem_filter.1 hm).1
  have h1 := ha x hx
  have h2 := hs s hsm
  have h3 := hz s hsm
  have e1 : s.lab.l = x.lab.l := congrArg (fun q : SK => q.1) he
  have e2 : s.smp.l.filter (ps s) = x.smp.l := congrArg (fun q : SK => q.2.1) he
  have e3 : s.win.l.filter (pw s) = x.win.l := congrArg (fun q : SK => q.2.2) he
  have l1 := h1.lab.2.1
  have l2 := h1.smp.2.1
  have l3 := h1.win.2.1
  have m1 := h2.lab.2.1
  have m2 := h2.smp.2.1
  have m3 := h2.win.2.1
  have f2 := List.length_filter_le (ps s) s.smp.l
  have f3 := List.length_filter_le (pw s) s.win.l
  rw [e2] at f2
  rw [e3] at f3
  rw [e1] at m1
  omega
theorem sf_of_mout {w : World} {base : Nat} {v : Value} {L : List Ser} (h : MOut w base v L) (hs : ∀ y ∈ L, y.Fit) (hn : L.length * 72 ≤ 140737488351232) : ∃ A c, v = .slice A L.length c ∧ L.length ≤ c ∧ SF w A L.length L := by
  obtain ⟨A, c, rfl, hc, hr⟩ := own_shape h.row
  exact ⟨A, c, rfl, hc, hr, rfl, fun x hx => (h.own x hx).at_, hs, hn⟩
/-- what is kept, as the laws see it -/
def KResF (w : World) (K : List SK) (e : Ending) (w' : World) : Prop :=
  ∃ (A : Option Addr) (c : Nat) (L : List Ser), e = .returned (.slice A L.length c) ∧ SF w' A L.length L ∧ L.map Ser.sk = K ∧ Below w.heap.size w w' ∧ L.length ≤ c
theorem clipF_law (A : Option Addr) (n c : Nat) (ss : List Ser) (a b : Int) (w : World) (h : SF w A n ss) : Calls Tryz.prog 132 #[.slice A n c, .int .i64 a, .int .i64 b] w (KResF w (clipAll a b ss)) := by
  refine (clip_any A n c ss a b w h.row h.len h.at_ h.fit h.few).mono ?_
  rintro e w' ⟨v, L, rfl, hM, hk, hb, hsm⟩
  have hl := kept_count hk
  obtain ⟨A', c', rfl, hcap, hsl⟩ := sf_of_mout hM hsm (by have := h.few; have := h.len; omega)
  exact ⟨A', c', L, rfl, hsl, hk, hb, hcap⟩
theorem strip_count {res : Int} {gones : List Gon} {L ss : List Ser} (h : L.map Ser.sk = stripAll res gones ss) : L.length ≤ ss.length := by
  unfold stripAll at h
  split at h
  · have := congrArg List.length h
    rw [List.length_map] at this
    rw [this]; exact Nat.zero_le _
  · exact kept_count h
theorem stripF_law (res : Int) (A : Option Addr) (n c : Nat) (ss : List Ser) (G : Option Addr) (gn gc : Nat) (gones : List Gon) (w : World) (h : SF w A n ss) (hG : GonsAt w G gn gones) : Calls Tryz.prog 133 #[.int .i64 res, .slice A n c, .slice G gn gc] w (KResF w (stripAll res gones ss)) := by
  refine (strip_any res A n c ss G gn gc gones w h.row h.len h.at_ h.fit h.few hG).mono ?_
  rintro e w' ⟨v, L, rfl, hM, hk, hb, hsm⟩
  have hl := strip_count hk
  obtain ⟨A', c', rfl, hcap, hsl⟩ := sf_of_mout hM hsm (by have := h.few; have := h.len; omega)
  exact ⟨A', c', L, rfl, hsl, hk, hb, hcap⟩
/-- clipping, by what a list tells -/
def clipSK (a b : Int) (l : List SK) : List SK := fulls (l.map fun s => (s.1, s.2.1.filter (fun y => inR a b y.t), s.2.2.filter (fun y => inR a b y.start)))
theorem clipAll_sk (a b : Int) (L : List Ser) : clipAll a b L = clipSK a b (L.map Ser.sk) := by
  unfold clipAll keptAll clipSK
  rw [List.map_map]
  rfl
def stripSK (res : Int) (gones : List Gon) (l : List SK) : List SK := if res < 0 ∨ 3 ≤ res then [] else fulls (l.map fun s => (s.1, s.2.1.filter (fun y => decide (res = 0) && !tk gones res s.1 y.t), s.2.2.filter (fun y => decide (res ≠ 0) && !tk gones res s.1 y.start)))
theorem stripAll_sk (res : Int) (gones : List Gon) (L : List Ser) : stripAll res gones L = stripSK res gones (L.map Ser.sk) := by
  unfold stripAll stripSK keptAll
  rw [List.map_map]
  rfl

theorem Row.on {w w' : World} {size n : Nat} {A : Option Addr} {xs : List Value} (h : Row w w.heap.size size A n xs) (hb : Below w.heap.size w w') : Row w' w'.heap.size size A n xs := (h.below hb).more hb.size
theorem fresh_row (w : World) (t : TypeId) (size n : Nat) (cs : List Value) (h : cs.length = n * size) : ∃ wa, wa = w.alloc (.cells cs.toArray t) ∧ Row wa wa.heap.size size (some ⟨w.heap.size, 0, none⟩) n cs ∧ Below w.heap.size w wa ∧ wa.heap.size = w.heap.size + 1 :=
  ⟨_, rfl, (Row.fresh w t size n cs h).more (by rw [World.size_alloc]; exact Nat.le_refl _), (Below.refl _ _).alloc (Nat.le_refl _) _, World.size_alloc _ _⟩
theorem wsum_sk {w : World} {A : Option Addr} {n : Nat} {L : List Ser} (h : SL w A n L) : wsum L = MR.ssum (L.map Ser.sk) := (MR.ssum_ser L fun x hx => ⟨(h.at_ x hx).smp.2.1, (h.at_ x hx).win.2.1⟩).symm
theorem wsum_flat : ∀ (LL : List (Sl Ser)), wsum (LL.flatMap Sl.l) = (LL.map fun s => wsum s.l).sum
  | [] => rfl
  | s :: LL => by
    have ih := wsum_flat LL
    rw [List.flatMap_cons, List.map_cons, List.sum_cons, ← ih]
    unfold wsum
    rw [List.map_append, List.sum_append]
theorem sll_mk {w : World} {A : Option Addr} {n : Nat} {LL : List (Sl Ser)} (hr : Row w w.heap.size 1 A n (LL.map Sl.val)) (hl : LL.length = n) (h : ∀ s ∈ LL, SL w s.A s.n s.l ∧ s.n ≤ s.c) (ht : total LL ≤ 1099511627776) (hs : (LL.map fun s => wsum s.l).sum ≤ 1099511627776) (hn : n ≤ 1099511627776) : SLL w A n LL :=
  ⟨hr, hl, fun s hs => ⟨(h s hs).2, (h s hs).1.len, (h s hs).1.row⟩, fun s hs x hx => ⟨(h s hs).1.at_ x hx, ((h s hs).1.small x hx).1⟩, ht, by rw [wsum_flat]; exact hs, hn⟩
def SS (w : World) (s : Sl Ser) : Prop := SL w s.A s.n s.l ∧ s.n ≤ s.c
theorem SS.on {w w' : World} {s : Sl Ser} (h : SS w s) (hb : Below w.heap.size w w') : SS w' s := ⟨h.1.on hb, h.2⟩
theorem SS.nil (w : World) : SS w Sl.nil := ⟨SL.nil w, Nat.le_refl _⟩
def MResL (LL : List (Sl Ser)) (w : World) (e : Ending) (w' : World) : Prop :=
  ∃ s : Sl Ser, e = .returned (.slice s.A s.n s.c) ∧ SS w' s ∧ Canon (s.l.map Ser.sk) ∧ Eqv (s.l.map Ser.sk) (MR.allOf LL) ∧ Below w.heap.size w w' ∧ s.n ≤ total LL ∧ wsum s.l ≤ (LL.map fun s => wsum s.l).sum
theorem mergeK_law (w : World) (LL : List (Sl Ser)) (n : Nat) (hl : LL.length = n) (h : ∀ s ∈ LL, SS w s) (ht : total LL ≤ 1099511627776) (hs : (LL.map fun s => wsum s.l).sum ≤ 1099511627776) (hn : n ≤ 1099511627776) :
    Calls Tryz.prog 20 #[.slice (some ⟨w.heap.size, 0, none⟩) n n] (w.alloc (.cells (LL.map Sl.val).toArray 43)) (MResL LL w) := by
  have hb0 : Below w.heap.size w (w.alloc (.cells (LL.map Sl.val).toArray 43)) := (Below.refl _ _).alloc (Nat.le_refl _) _
  have hr : Row (w.alloc (.cells (LL.map Sl.val).toArray 43)) (w.alloc (.cells (LL.map Sl.val).toArray 43)).heap.size 1 (some ⟨w.heap.size, 0, none⟩) n (LL.map Sl.val) := (Row.fresh w 43 1 n (LL.map Sl.val) (by rw [List.length_map, hl, Nat.mul_one])).more (by rw [World.size_alloc]; exact Nat.le_refl _)
  have hS : SLL _ _ n LL := sll_mk hr hl (fun s hs => (h s hs).on hb0) ht hs hn
  refine (merge_law _ n n LL _ hS).mono ?_
  rintro e w' ⟨A, c, L, rfl, _, h1, h2, h3, h4, h5, h6, h7⟩
  refine ⟨⟨A, L.length, c, L⟩, rfl, ⟨h1, h7⟩, h2, h3, hb0.trans (h4.mono hb0.size), ?_, ?_⟩
  · rw [MR.allOf_len LL hS.at_] at h5; exact h5
  · have e1 := wsum_sk h1
    have e2 : MR.ssum (MR.allOf LL) = wsum (LL.flatMap Sl.l) := MR.ssum_ser _ fun u hu => by
      obtain ⟨s', hs', hu'⟩ := List.mem_flatMap.1 hu
      have := (hS.sers s' hs' u hu').1
      exact ⟨this.smp.2.1, this.win.2.1⟩
    rw [e2, wsum_flat] at h6
    show wsum L ≤ _
    omega
theorem allOf_one (a : Sl Ser) : MR.allOf [a] = a.l.map Ser.sk := by simp [MR.allOf]
theorem mem_one {w : World} {a : Sl Ser} (ha : SS w a) : ∀ s ∈ [a], SS w s := by
  intro s hs
  rw [List.mem_singleton.1 hs]; exact ha
end Go.Proofs.YtbijjjhfekkfaaaGreat

namespace Go.Proofs.YtbijjjhfekkfaaaGreat
set_option maxRecDepth 100000
open Go.RowKit

/-- the best resolution -/
def bestP (f a b c : Int) : Int := if a ≤ f then 0 else if b ≤ f then 1 else if c ≤ f then 2 else if b < a then (if c < b then 2 else 1) else (if c < a then 2 else 0)

set_option maxHeartbeats 3200000 in
theorem best_any (f a b c r0 r1 r2 : Int) (w : World) :
    Calls Tryz.prog 62 #[.int .i64 f, .agg #[.int .i64 a, .int .i64 b, .int .i64 c, .int .i64 r0, .int .i64 r1, .int .i64 r2]] w fun e w' => e = .returned (.int .i64 (bestP f a b c)) ∧ Below w.heap.size w w' := by
  have x0 : ∀ w, (Instr.index 36 (.agg #[.int .i64 a, .int .i64 b, .int .i64 c]) (.int .i64 0)).run Tryz.prog w = .ok (.int .i64 a) w := fun _ => by kernel_rfl
  have x1 : ∀ w, (Instr.index 36 (.agg #[.int .i64 a, .int .i64 b, .int .i64 c]) (.int .i64 1)).run Tryz.prog w = .ok (.int .i64 b) w := fun _ => by kernel_rfl
  have x2 : ∀ w, (Instr.index 36 (.agg #[.int .i64 a, .int .i64 b, .int .i64 c]) (.int .i64 2)).run Tryz.prog w = .ok (.int .i64 c) w := fun _ => by kernel_rfl
  obtain ⟨v, hv⟩ : ∃ v, bestP f a b c = v := ⟨_, rfl⟩
  rw [hv]
  unfold bestP at hv
  have hX0 := Whole1.new w 38 #[.int .i64 a, .int .i64 b, .int .i64 c, .int .i64 r0, .int .i64 r1, .int .i64 r2]
  have hB0 : Below w.heap.size w (w.alloc (.cells #[.int .i64 a, .int .i64 b, .int .i64 c, .int .i64 r0, .int .i64 r1, .int .i64 r2] 38)) := (Below.refl _ _).alloc (Nat.le_refl _) _
  go_enter Tryz.func62, Tryz.ntmps62
  go_wp2_with fail
  generalize w.alloc (.cells #[.int .i64 a, .int .i64 b, .int .i64 c, .int .i64 r0, .int .i64 r1, .int .i64 r2] 38) = w1 at hX0 hB0 ⊢
  obtain ⟨g, hg⟩ : ∃ g, w.heap.size = g := ⟨_, rfl⟩
  have HB := hidden hB0
  rw [hg] at hX0 ⊢
  have HX := hidden hX0
  have c0 := hX0.cell 0
  have c1 := hX0.cell 1
  have c2 := hX0.cell 2
  clear hX0 hB0 hg
  refine wp_loop_rounds 4 ?_
  rw [rounds_succ]
  by_cases ha : a ≤ f
  · rw [if_pos ha] at hv
    subst hv
    go_wp2_with fail
    go_ret
    exact ⟨rfl, HB.out⟩
  · have ha' : decide (a ≤ f) = false := decide_eq_false ha
    rw [if_neg ha] at hv
    go_wp2_with fail
    rw [rounds_succ]
    by_cases hb : b ≤ f
    · rw [if_pos hb] at hv
      subst hv
      go_wp2_with fail
      go_ret
      exact ⟨rfl, HB.out⟩
    · have hb' : decide (b ≤ f) = false := decide_eq_false hb
      rw [if_neg hb] at hv
      by_cases hba : b < a
      · rw [if_pos hba] at hv
        go_wp2_with fail
        rw [rounds_succ]
        by_cases hc : c ≤ f
        · rw [if_pos hc] at hv
          subst hv
          go_wp2_with fail
          go_ret
          exact ⟨rfl, HB.out⟩
        · rw [if_neg hc] at hv
          by_cases hcb : c < b
          · rw [if_pos hcb] at hv
            subst hv
            go_wp2_with fail
            rw [rounds_succ]
            go_wp2_with fail
            go_ret
            exact ⟨rfl, HB.out⟩
          · rw [if_neg hcb] at hv
            subst hv
            go_wp2_with fail
            rw [rounds_succ]
            go_wp2_with fail
            go_ret
            exact ⟨rfl, HB.out⟩
      · rw [if_neg hba] at hv
        go_wp2_with fail
        rw [rounds_succ]
        by_cases hc : c ≤ f
        · rw [if_pos hc] at hv
          subst hv
          go_wp2_with fail
          go_ret
          exact ⟨rfl, HB.out⟩
        · rw [if_neg hc] at hv
          by_cases hca : c < a
          · rw [if_pos hca] at hv
            subst hv
            go_wp2_with fail
            rw [rounds_succ]
            go_wp2_with fail
            go_ret
            exact ⟨rfl, HB.out⟩
          · rw [if_neg hca] at hv
            subst hv
            go_wp2_with fail
            rw [rounds_succ]
            go_wp2_with fail
            go_ret
            exact ⟨rfl, HB.out⟩

end Go.Proofs.YtbijjjhfekkfaaaGreat

namespace Go.Proofs.YtbijjjhfekkfaaaGreat
set_option maxRecDepth 100000
open Go.RowKit Go.Shelf

theorem gons_nil (w : World) : GonsAt w none 0 [] := ⟨Row.nil, rfl, by simp, by omega, by simp⟩
/-- match.All of no matchers -/
theorem all_none (A : Option Addr) (n c : Nat) (w : World) :
    Calls Tryz.prog 22 #[.slice A n c, .slice none 0 0] w fun e w' => e = .returned (.bool true) ∧ w = w' := by
  go_enter Tryz.func22, Tryz.ntmps22
  go_wp2_with fail
  refine wp_loop_rounds 1 ?_
  rw [rounds_succ]
  go_wp2_with fail
  go_ret
  exact ⟨rfl, rfl⟩
/-- the closure that Run hands to DeleteFunc -/
theorem run1_any (A B C : Option Addr) (n c m d k e0 : Nat) (g : Nat) (w : World) (hq : w.cell? ⟨g, 3, none⟩ = some (.slice none 0 0)) (hg : g < w.heap.size) :
    Calls Tryz.prog 134 #[.agg #[.slice A n c, .slice B m d, .slice C k e0], .pointer (some ⟨g, 0, none⟩)] w fun e w' => e = .returned (.bool false) ∧ Below w.heap.size w w' := by
  have hb : Below w.heap.size w (w.alloc (.cells #[.slice A n c, .slice B m d, .slice C k e0] 57)) := (Below.refl _ _).alloc (Nat.le_refl _) _
  have c3 := (hb.cell (p := ⟨g, 3, none⟩) hg).trans hq
  have HB := hidden hb
  clear hb
  go_enter Tryz.func134, Tryz.ntmps134
  go_wp2_with fail
  refine (all_none _ _ _ _).mono ?_
  rintro e w2 ⟨rfl, rfl⟩
  go_wp2_with fail
  go_ret
  exact ⟨rfl, HB.out⟩
theorem run1_eg : ∀ args w, (callFunc 134 args).run Tryz.prog w = .ok (.enter 134 args) w := enters_of Tryz.func134 (by kernel_rfl) rfl
/-- DeleteFunc where nothing is to be deleted -/
theorem del_none (A : Option Addr) (n c : Nat) (l : List Ser) (f : FuncId) (cb : Array Value) (w : World) (eg : ∀ args w, (callFunc f args).run Tryz.prog w = .ok (.enter f args) w) (hp : DelSer.PredOk f cb (fun _ => false) l (fun W => Below w.heap.size w W)) (hr : Row w w.heap.size 3 A n (l.flatMap Ser.cells)) (hl : l.length = n) (hn : n ≤ 4611686018427387904) :
    Calls Tryz.prog 74 #[.slice A n c, .func (.func f) #[] cb] w fun e w' => e = .returned (.slice A n c) ∧ Below w.heap.size w w' := by
  have S1 := hidden (DelSer.index_any A n c l f cb (fun _ => false) w eg hp hr hl hn)
  clear hp hr
  go_enter Tryz.func74, Tryz.ntmps74
  go_wp2_with fail
  refine S1.out.mono ?_
  rintro e w2 ⟨r, rfl, hx, b2⟩
  obtain rfl : r = -1 := by
    rcases hx with ⟨h, _⟩ | ⟨i, x, _, _, h, _⟩
    · exact h
    · cases h
  have HB := hidden b2
  clear hx b2
  go_wp2_with fail
  go_ret
  exact ⟨rfl, HB.out⟩
set_option maxHeartbeats 3200000 in
theorem run_any (A : Option Addr) (n c : Nat) (LL : List (Sl Ser)) (w : World) (h : SLL w A n LL) :
    Calls Tryz.prog 61 #[.agg #[.int .i64 0, .int .i64 5, .int .i64 9, .slice none 0 0], .agg #[.int .i64 6, .int .i64 0, .int .i64 0, .int .i64 0, .int .i64 0, .int .i64 0], .slice none 0 0, .slice A n c] w fun e w' =>
      ∃ (B : Option Addr) (c' : Nat) (M : List SK) (L : List Ser), e = .returned (.tuple #[.slice B L.length c', .int .i64 0]) ∧ SF w' B L.length L ∧ Canon M ∧ Eqv M (MR.allOf LL) ∧ L.map Ser.sk = clipSK 6 9 (stripSK 0 [] M) ∧ Below w.heap.size w w' := by
  have hQ0 := (Whole1.new w 153 #[.int .i64 0, .int .i64 5, .int .i64 9, .slice none 0 0]).alloc (.cells #[.int .i64 6, .int .i64 0, .int .i64 0, .int .i64 0, .int .i64 0, .int .i64 0] 38)
  have hH0 := Whole1.new (w.alloc (.cells #[.int .i64 0, .int .i64 5, .int .i64 9, .slice none 0 0] 153)) 38 #[.int .i64 6, .int .i64 0, .int .i64 0, .int .i64 0, .int .i64 0, .int .i64 0]
  have hB0 : Below w.heap.size w ((w.alloc (.cells #[.int .i64 0, .int .i64 5, .int .i64 9, .slice none 0 0] 153)).alloc (.cells #[.int .i64 6, .int .i64 0, .int .i64 0, .int .i64 0, .int .i64 0, .int .i64 0] 38)) := ((Below.refl _ _).alloc (Nat.le_refl _) _).alloc (by simp) _
  rw [show (w.alloc (.cells #[.int .i64 0, .int .i64 5, .int .i64 9, .slice none 0 0] 153)).heap.size = w.heap.size + 1 by simp] at hH0
  have H := hidden h
  clear h
  go_enter Tryz.func61, Tryz.ntmps61
  go_upto_region 1 with (fail)
  generalize (w.alloc (.cells #[.int .i64 0, .int .i64 5, .int .i64 9, .slice none 0 0] 153)).alloc (.cells #[.int .i64 6, .int .i64 0, .int .i64 0, .int .i64 0, .int .i64 0, .int .i64 0] 38) = w1 at hQ0 hH0 hB0 ⊢
  obtain ⟨g, hg⟩ : ∃ g, w.heap.size = g := ⟨_, rfl⟩
  have HB1 := hidden hB0
  rw [hg] at hQ0 hH0 ⊢
  have HQ1 := hidden hQ0
  have q0 := hQ0.cell 0
  have q1 := hQ0.cell 1
  have q2 := hQ0.cell 2
  have h0 := hH0.cell 0
  clear hQ0 hH0 hB0
  go_wp2_with fail
  go_quiet (fail)
  have HB2 := hidden (below_drewN HB1.out nq)
  have HQ2 := hidden (HQ1.out.drewN nq)
  have hbz := HB1.out.size
  clear q0 q1 q2 h0 HQ1 HB1
  generalize w1.drewN nq = w2 at HB2 HQ2 ⊢
  have hS := hidden (H.out.on HB2.out)
  have q0 := HQ2.out.cell 0
  have hs2 := HB2.out.size
  have HS := hidden (fun W (hW : Below w2.heap.size w2 W) => (HQ2.out.below hW HQ2.out.lt).cell 0)
  go_wp2_with fail
  go_region_held3 (fun W => W.cell? ⟨g, 0, none⟩ = some (.int .i64 0))
    (first | exact HS.out _ (Below.refl _ _) | exact HS.out _ (Below.refl _ _).drew | exact HS.out _ (by assumption))
    (first
      | (go_at_call 20; refine (merge_law _ _ _ _ _ (hS.out.on (Below.refl _ _).drew)).mono ?_; rintro e w3 ⟨A3, c3, L3, rfl, _, p1, p2, p3, b3, _, _, p4⟩; have k3 : Below w2.heap.size w2 w3 := (Below.refl _ _).drew.trans b3; have HL3 := hidden p1.sf; have HC3 := hidden (And.intro p2 p3); clear p1 p2 p3)
      | (go_at_call 133; refine (stripF_law 0 _ _ _ _ none 0 0 [] _ HL3.out (gons_nil _)).mono ?_; rintro e w4 ⟨A4, c4, L4, rfl, p1, p2, b4, p5⟩; have k4 : Below w2.heap.size w2 w4 := k3.trans (b4.mono k3.size); have HL4 := hidden p1; have HC4 := hidden p2; clear p1 p2)
      | (go_at_call 132; refine (clipF_law _ _ _ _ 6 9 _ HL4.out).mono ?_; rintro e w5 ⟨A5, c5, L5, rfl, p1, p2, b5, p6⟩; have k5 : Below w2.heap.size w2 w5 := k4.trans (b5.mono k4.size); have HL5 := hidden p1; have HC5 := hidden p2; clear p1 p2))
  have HF := hidden (show L5.map Ser.sk = clipSK 6 9 (stripSK 0 [] (L3.map Ser.sk)) by rw [HC5.out, clipAll_sk, HC4.out, stripAll_sk])
  have HK5 := hidden k5
  have hgl : g < w5.heap.size := by have := HQ2.out.lt; have := k5.size; omega
  have q3 := (HQ2.out.below k5 HQ2.out.lt).cell 3
  have S6 := hidden (del_none A5 L5.length c5 L5 134 #[.pointer (some ⟨g, 0, none⟩)] w5 run1_eg (fun x hx W hW => run1_any _ _ _ _ _ _ _ _ _ g W ((hW.cell (p := ⟨g, 3, none⟩) hgl).trans q3) (by have := hW.size; omega)) HL5.out.row rfl (by have := HL5.out.few; omega))
  clear k3 k4 k5 b3 b4 b5 q0
  go_wp2_with fail
  refine S6.out.mono ?_
  rintro e w6 ⟨rfl, b6⟩
  have HB6 := hidden (HB2.out.trans ((HK5.out.trans (b6.mono HK5.out.size)).mono hs2))
  have HL6 := hidden (HL5.out.on b6)
  clear b6
  go_wp2_with fail
  go_ret2
  exact ⟨A5, c5, L3.map Ser.sk, L5, rfl, HL6.out, HC3.out.1, HC3.out.2, HF.out, HB6.out⟩
def wkA : List Lbl := [⟨⟨#[97]⟩, ⟨#[120]⟩⟩]
def wkM : List Smp := [⟨5, 0⟩, ⟨6, 0⟩, ⟨9, 0⟩, ⟨10, 0⟩]
theorem wkK_canon : Canon [(wkA, wkM, [])] := by
  refine ⟨List.pairwise_singleton _ _, ?_, ?_, ?_⟩
  · intro e he
    rw [List.mem_singleton.1 he]
    simp [wkM]
  · intro e he
    rw [List.mem_singleton.1 he]
    exact List.Pairwise.nil
  · intro e he
    rw [List.mem_singleton.1 he]
    exact .inl (by simp [wkM])
theorem wkK_run : (clipSK 6 9 (stripSK 0 [] [(wkA, wkM, [])])).map (fun s => s.2.1.length) = [2] := by decide +kernel
/-- the example's one series, as it lies -/
def wkSer (g : Nat) : Ser := ⟨⟨some ⟨g, 0, none⟩, 1, 1, wkA⟩, ⟨some ⟨g + 1, 0, none⟩, 4, 4, wkM⟩, Sl.nil⟩
def wkSl (g : Nat) : Sl Ser := ⟨some ⟨g + 1 + 1, 0, none⟩, 1, 1, [wkSer g]⟩
theorem one_of {L : List Ser} (h : L.map (fun x => x.smp.l.length) = [2]) : ∃ x, L = [x] ∧ x.smp.l.length = 2 := by
  cases L with
  | nil => simp at h
  | cons x r =>
    cases r with
    | nil => exact ⟨x, rfl, by simpa using h⟩
    | cons y r => simp at h
set_option maxHeartbeats 1600000 in
theorem wakes26_any (w : World) :
    Calls Tryz.prog 16 #[] w fun e w' => e = .returned (.bool true) ∧ Below w.heap.size w w' := by
  obtain ⟨wa, hwa, X1, B1, s1⟩ := fresh_row w 114 2 1 (lblCells wkA) rfl
  obtain ⟨wb, hwb, X2, B2, s2⟩ := fresh_row wa 112 2 4 (smpCells wkM) rfl
  obtain ⟨wc, hwc, X3, B3, s3⟩ := fresh_row wb 57 3 1 (serCells [wkSer w.heap.size]) rfl
  obtain ⟨wd, hwd, X4, B4, s4⟩ := fresh_row wc 43 1 1 ([wkSl w.heap.size].map Sl.val) rfl
  have Y1 := ((X1.on B2).on B3).on B4
  have Y2 := (X2.on B3).on B4
  have Y3 := X3.on B4
  rw [s1] at Y2
  rw [s2, s1] at Y3
  have hbw : Below w.heap.size w wd := ((B1.trans (B2.mono B1.size)).trans (B3.mono (by omega))).trans (B4.mono (by omega))
  have hat : (wkSer w.heap.size).At wd wd.heap.size := ⟨⟨Nat.le_refl _, rfl, Y1⟩, ⟨Nat.le_refl _, rfl, Y2⟩, ⟨Nat.le_refl _, rfl, Row.nil⟩⟩
  have hSL : SL wd (some ⟨w.heap.size + 1 + 1, 0, none⟩) 1 [wkSer w.heap.size] := ⟨Y3, rfl, fun x hx => by rw [List.mem_singleton.1 hx]; exact hat, fun x hx => by rw [List.mem_singleton.1 hx]; exact ⟨by show (1 : Nat) ≤ _; omega, by show 4 + 0 ≤ _; omega⟩, by omega⟩
  have hSLL : SLL wd (some ⟨wc.heap.size, 0, none⟩) 1 [wkSl w.heap.size] := sll_mk X4 rfl (fun s hs => by rw [List.mem_singleton.1 hs]; exact ⟨hSL, Nat.le_refl _⟩) (by show 1 + 0 ≤ _; omega) (by show (4 + 0 + 0) + 0 ≤ _; omega) (by omega)
  rw [s3, s2, s1] at hSLL
  have S1 := hidden (run_any _ 1 1 _ _ hSLL)
  rw [hwd, hwc, hwb, hwa] at S1
  go_enter Tryz.func16, Tryz.ntmps16
  go_wp2_with fail
  refine S1.out.mono ?_
  rintro e w5 ⟨B5, c5, M, L, rfl, hL, hC, hE, hK, b5⟩
  have hM : M = [(wkA, wkM, [])] := canon_unique hC wkK_canon hE
  have hlen : L.map (fun x => x.smp.l.length) = [2] := by
    have h1 := congrArg (List.map fun s : SK => s.2.1.length) hK
    rw [hM, wkK_run, List.map_map] at h1
    exact h1
  obtain ⟨x, rfl, hx2⟩ := one_of hlen
  have hat := hL.at_ x (by simp)
  have hn2 : x.smp.n = 2 := by have := hat.smp.2.1; omega
  obtain ⟨gB, oB, rfl, _, hc⟩ := hL.row.at_ (by simp)
  have d1 : w5.cell? ⟨gB, oB + 1, none⟩ = some (.slice x.smp.A 2 x.smp.c) := by
    rw [hc 1 (by simp), ← hn2]; rfl
  have S2 := hidden (fun W => best_any 5 6 0 0 0 0 0 W)
  have hb1 : bestP 5 6 0 0 = 1 := by decide
  rw [hb1] at S2
  have HB5 := hidden (show Below w.heap.size w w5 from by
    rw [← hwa, ← hwb, ← hwc, ← hwd] at b5
    exact hbw.trans (b5.mono hbw.size))
  clear hM hlen hx2 hat hn2 hc hL hC hE hK b5 hb1 hSLL hSL Y1 Y2 Y3 X1 X2 X3 X4 B1 B2 B3 B4 hbw
  clear hwd
  clear hwc
  clear hwb
  clear hwa
  go_wp2_with (go_at_call 62; refine (S2.out _).mono ?_; rintro e w6 ⟨rfl, b6⟩; have HB6 := hidden (HB5.out.trans (b6.mono HB5.out.size)); clear b6)
  go_ret
  exact ⟨rfl, HB6.out⟩
end Go.Proofs.YtbijjjhfekkfaaaGreat
