/- Merging, stripping and clipping as the law of QueryBest needs them: lists by what they tell, as they lie. Condition: what comes in is within the reach. -/
import Derived.Test.YtcndncklgbeloaaMrgP
import Derived.Test.YtcndncklgbeloaaMrg1
import Derived.Test.YtcndncklgbeloaaKept
import Derived.Test.YtcndncklgbeloaaStrip
import Derived.Test.YtcndncklgbeloaaArgs
namespace Go.Proofs.Ytcndncklgbeloaa
set_option maxRecDepth 100000
open Go.RowKit Go.Shelf

namespace MR
def allOf (LL : List (Sl Ser)) : List SK := (LL.flatMap Sl.l).map Ser.sk
theorem allOf_len {w : World} {B : Nat} (LL : List (Sl Ser)) (h : ∀ s ∈ LL, s.At w B 3 Ser.cells) : (allOf LL).length = total LL := by
  unfold allOf
  rw [List.length_map]
  exact total_len LL fun s hs => (h s hs).2.1
def ssum (P : List SK) : Nat := (P.map fun s => s.2.1.length + s.2.2.length).sum
theorem ssum_app (a b : List SK) : ssum (a ++ b) = ssum a + ssum b := by simp [ssum]
theorem ssum_ser : ∀ (l : List Ser), (∀ x ∈ l, x.smp.l.length = x.smp.n ∧ x.win.l.length = x.win.n) → ssum (l.map Ser.sk) = wsum l
  | [], _ => rfl
  | x :: l, h => by
    have ih := ssum_ser l fun y hy => h y (List.mem_cons_of_mem _ hy)
    obtain ⟨h1, h2⟩ := h x (List.mem_cons_self ..)
    have e1 : ssum ((x :: l).map Ser.sk) = x.smp.l.length + x.win.l.length + ssum (l.map Ser.sk) := by simp [ssum, Ser.sk]
    have e2 : wsum (x :: l) = x.smp.n + x.win.n + wsum l := by simp [wsum]
    rw [e1, e2, h1, h2, ih]
end MR
/-- a list of series, as it lies -/
structure SL (w : World) (A : Option Addr) (n : Nat) (L : List Ser) : Prop where
  row : Row w w.heap.size 3 A n (serCells L)
  len : L.length = n
  at_ : ∀ x ∈ L, x.At w w.heap.size
  small : ∀ x ∈ L, x.lab.n ≤ 1048576 ∧ x.smp.n + x.win.n ≤ 1099511627776
  few : n ≤ 1099511627776
theorem SL.on {w w' : World} {A : Option Addr} {n : Nat} {L : List Ser} (h : SL w A n L) (hb : Below w.heap.size w w') : SL w' A n L :=
  ⟨(h.row.below hb).more hb.size, h.len, fun x hx => ((h.at_ x hx).below hb).more hb.size, h.small, h.few⟩
theorem SL.nil (w : World) : SL w none 0 [] := ⟨Row.nil, rfl, by simp, by simp, by omega⟩
theorem SL.fit {w : World} {A : Option Addr} {n : Nat} {L : List Ser} (h : SL w A n L) : ∀ x ∈ L, x.Fit := fun x hx => by
  have := h.small x hx
  exact ⟨by simp only [reachBytes]; omega, by simp only [reachBytes]; omega, by simp only [reachBytes]; omega⟩
/-- a list of lists of series, as it lies -/
structure SLL (w : World) (A : Option Addr) (n : Nat) (LL : List (Sl Ser)) : Prop where
  row : Row w w.heap.size 1 A n (LL.map Sl.val)
  len : LL.length = n
  at_ : ∀ s ∈ LL, s.At w w.heap.size 3 Ser.cells
  sers : ∀ s ∈ LL, ∀ x ∈ s.l, x.At w w.heap.size ∧ x.lab.n ≤ 1048576
  tot : total LL ≤ 1099511627776
  sum : wsum (LL.flatMap Sl.l) ≤ 1099511627776
  few : n ≤ 1099511627776
theorem SLL.on {w w' : World} {A : Option Addr} {n : Nat} {LL : List (Sl Ser)} (h : SLL w A n LL) (hb : Below w.heap.size w w') : SLL w' A n LL :=
  ⟨(h.row.below hb).more hb.size, h.len, fun s hs => ((h.at_ s hs).below hb).more hb.size, fun s hs x hx => ⟨((h.sers s hs x hx).1.below hb).more hb.size, (h.sers s hs x hx).2⟩, h.tot, h.sum, h.few⟩

theorem addK_len (K : List SK) (s : SK) : (addK K s).length ≤ K.length + 1 := by
  unfold addK
  split
  · simp
  · rename_i z hz
    have : K ≠ [] := fun e => by rw [e] at hz; cases hz
    have := List.length_pos_iff.2 this
    split
    · rw [List.length_append, List.length_dropLast, List.length_singleton]; omega
    · rw [List.length_append, List.length_singleton]; omega
theorem ssum_addK (K : List SK) (s : SK) : MR.ssum (addK K s) = MR.ssum K + (s.2.1.length + s.2.2.length) := by
  have h1 : ∀ x : SK, MR.ssum [x] = x.2.1.length + x.2.2.length := fun x => by simp [MR.ssum]
  rcases List.eq_nil_or_concat K with rfl | ⟨M, z, rfl⟩
  · show MR.ssum [s] = _
    rw [h1]; simp [MR.ssum]
  · rw [List.concat_eq_append]
    unfold addK
    rw [List.getLast?_concat]
    simp only
    split
    · rw [List.dropLast_concat, MR.ssum_app, MR.ssum_app, h1, h1]; simp only [List.length_append]; omega
    · rw [MR.ssum_app, h1]
theorem groupK_len : ∀ (S : List Ser), (groupK S).length ≤ S.length ∧ MR.ssum (groupK S) = MR.ssum (S.map Ser.sk) := by
  intro S
  generalize hn : S.length = n
  induction n generalizing S with
  | zero =>
    obtain rfl := List.eq_nil_of_length_eq_zero hn
    exact ⟨Nat.le_refl _, rfl⟩
  | succ n ih =>
    rcases List.eq_nil_or_concat S with rfl | ⟨M, x, rfl⟩
    · simp at hn
    · rw [List.concat_eq_append] at hn ⊢
      obtain ⟨h1, h2⟩ := ih M (by simpa using hn)
      rw [groupK_snoc, List.map_append, MR.ssum_app]
      refine ⟨Nat.le_trans (addK_len _ _) (by omega), ?_⟩
      rw [ssum_addK, h2]
      simp [MR.ssum]
theorem onced_sum : ∀ {K : List SK} {R : List Ser}, Onced K R → MR.ssum (R.map Ser.sk) ≤ MR.ssum K
  | [], [], _ => Nat.le_refl _
  | [], _ :: _, h => by have := h.1; simp at this
  | _ :: _, [], h => by have := h.1; simp at this
  | k :: K, y :: R, h => by
    have h0 := h.2 0 k rfl
    obtain ⟨y', e, _, h3, h4⟩ := h0
    obtain rfl : y = y' := Option.some.inj e
    have ih : MR.ssum (R.map Ser.sk) ≤ MR.ssum K := onced_sum ⟨by have := h.1; simpa using this, fun i k' hk => by
      have := h.2 (i + 1) k' (by simpa using hk)
      simpa using this⟩
    have e1 : MR.ssum ((y :: R).map Ser.sk) = y.smp.l.length + y.win.l.length + MR.ssum (R.map Ser.sk) := by simp [MR.ssum, Ser.sk]
    have e2 : MR.ssum (k :: K) = k.2.1.length + k.2.2.length + MR.ssum K := by simp [MR.ssum]
    have := onceS_len h3
    have := onceW_len h4
    omega
theorem ssum_sub : ∀ {a b : List SK}, a.Sublist b → MR.ssum a ≤ MR.ssum b := by
  intro a b h
  have e : ∀ (x : SK) (l : List SK), MR.ssum (x :: l) = x.2.1.length + x.2.2.length + MR.ssum l := fun x l => by simp [MR.ssum]
  induction h with
  | slnil => exact Nat.le_refl _
  | cons a _ ih => rw [e]; omega
  | cons_cons a _ ih => rw [e, e]; omega

/-- what merge.Merge answers, as the laws see it -/
def MRes (all : List SK) (w : World) (e : Ending) (w' : World) : Prop :=
  ∃ (A : Option Addr) (c : Nat) (L : List Ser), e = .returned (.slice A L.length c) ∧ MOut w' w.heap.size (.slice A L.length c) L ∧ SL w' A L.length L ∧ Canon (L.map Ser.sk) ∧ Eqv (L.map Ser.sk) all ∧ Below w.heap.size w w' ∧ L.length ≤ all.length ∧ MR.ssum (L.map Ser.sk) ≤ MR.ssum all ∧ L.length ≤ c
theorem sl_of_mout {w : World} {base : Nat} {v : Value} {L : List Ser} (h : MOut w base v L) (hs : ∀ y ∈ L, y.lab.n ≤ 1048576 ∧ y.smp.n + y.win.n ≤ 1099511627776) (hn : L.length ≤ 1099511627776) : ∃ A c, v = .slice A L.length c ∧ L.length ≤ c ∧ SL w A L.length L := by
  obtain ⟨A, c, rfl, hc, hr⟩ := own_shape h.row
  exact ⟨A, c, rfl, hc, hr, rfl, fun x hx => (h.own x hx).at_, hs, hn⟩
theorem merge_law (A : Option Addr) (n c : Nat) (LL : List (Sl Ser)) (w : World) (h : SLL w A n LL) : Calls Try.prog 10 #[.slice A n c] w (MRes (MR.allOf LL) w) := by
  refine (mergeS_any A n c LL w h.row h.len h.at_ h.sers h.tot h.sum (by have := h.few; omega)).mono ?_
  rintro e w' ⟨v, S, R, H, rfl, hS, hR, hH, hM, hsz, hlen, hb⟩
  have hall : (MR.allOf LL).length ≤ 1099511627776 := by rw [MR.allOf_len LL h.at_]; exact h.tot
  have hSl : S.length = (MR.allOf LL).length := by unfold MR.allOf; rw [List.length_map]; exact hS.1.length_eq
  have hK := groupK_len S
  have hfl : (R.filter full).length ≤ (MR.allOf LL).length := by
    have := List.length_filter_le full R
    have := hR.1
    omega
  obtain ⟨A', c', rfl, hcap, hsl⟩ := sl_of_mout hM (fun y hy => hsz y (List.mem_filter.1 hy).1) (by omega)
  obtain ⟨hc, he⟩ := canon_of_merge hS hR hlen
  refine ⟨A', c', R.filter full, rfl, hM.base hH, hsl, hc, he, hb, hfl, ?_, hcap⟩
  have h1 : MR.ssum ((R.filter full).map Ser.sk) ≤ MR.ssum (R.map Ser.sk) := ssum_sub (List.filter_sublist.map _)
  have h2 := onced_sum hR
  have h3 : MR.ssum (S.map Ser.sk) = MR.ssum (MR.allOf LL) := by
    unfold MR.ssum MR.allOf
    exact ((hS.1.map Ser.sk).map _).sum_nat
  omega
/-- a list of series, as it lies, within the reach -/
structure SF (w : World) (A : Option Addr) (n : Nat) (L : List Ser) : Prop where
  row : Row w w.heap.size 3 A n (serCells L)
  len : L.length = n
  at_ : ∀ x ∈ L, x.At w w.heap.size
  fit : ∀ x ∈ L, x.Fit
  few : n * 72 ≤ 140737488351232
theorem SF.on {w w' : World} {A : Option Addr} {n : Nat} {L : List Ser} (h : SF w A n L) (hb : Below w.heap.size w w') : SF w' A n L :=
  ⟨(h.row.below hb).more hb.size, h.len, fun x hx => ((h.at_ x hx).below hb).more hb.size, h.fit, h.few⟩
theorem SL.sf {w : World} {A : Option Addr} {n : Nat} {L : List Ser} (h : SL w A n L) : SF w A n L := ⟨h.row, h.len, h.at_, h.fit, by have := h.few; omega⟩
theorem kept_count {ps : Ser → Smp → Bool} {pw : Ser → Win → Bool} {L ss : List Ser} (h : L.map Ser.sk = keptAll ps pw ss) : L.length ≤ ss.length := by
  have := congrArg List.length h
  rw [List.length_map] at this
  rw [this]
  refine Nat.le_trans (List.length_filter_le _ _) ?_
  rw [List.length_map]
  exact Nat.le_refl _
theorem kept_small {ps : Ser → Smp → Bool} {pw : Ser → Win → Bool} {L ss : List Ser} {w w' : World} {B B' : Nat} (h : L.map Ser.sk = keptAll ps pw ss) (ha : ∀ x ∈ L, x.At w B) (hs : ∀ x ∈ ss, x.At w' B') (hz : ∀ x ∈ ss, x.lab.n ≤ 1048576 ∧ x.smp.n + x.win.n ≤ 1099511627776) : ∀ x ∈ L, x.lab.n ≤ 1048576 ∧ x.smp.n + x.win.n ≤ 1099511627776 := by
  intro x hx
  have hm : x.sk ∈ keptAll ps pw ss := by rw [← h]; exact List.mem_map.2 ⟨x, hx, rfl⟩
  obtain ⟨s, hsm, he⟩ := List.mem_map.1 (List.mem_filter.1 hm).1
  have h1 := ha x hx
  have h2 := hs s hsm
  have h3 := hz s hsm
  have e1 : s.lab.l = x.lab.l := congrArg (fun q : SK => q.1) he
  have e2 : s.smp.l.filter (ps s) = x.smp.l := congrArg (fun q : SK => q.2.1) he
  have e3 : s.win.l.filter (pw s) = x.win.l := congrArg (fun q : SK => q.2.2) he
  have l1 := h1.lab.2.1
  have l2 := h1.smp.2.1
  have l3 := h1.win.2.1
  have m1 := h2.lab.2.1
  have m2 := h2.smp.2.1
  have m3 := h2.win.2.1
  have f2 := List.length_filter_le (ps s) s.smp.l
  have f3 := List.length_filter_le (pw s) s.win.l
  rw [e2] at f2
  rw [e3] at f3
  rw [e1] at m1
  omega
theorem sf_of_mout {w : World} {base : Nat} {v : Value} {L : List Ser} (h : MOut w base v L) (hs : ∀ y ∈ L, y.Fit) (hn : L.length * 72 ≤ 140737488351232) : ∃ A c, v = .slice A L.length c ∧ L.length ≤ c ∧ SF w A L.length L := by
  obtain ⟨A, c, rfl, hc, hr⟩ := own_shape h.row
  exact ⟨A, c, rfl, hc, hr, rfl, fun x hx => (h.own x hx).at_, hs, hn⟩
/-- what is kept, as the laws see it -/
def KResF (w : World) (K : List SK) (e : Ending) (w' : World) : Prop :=
  ∃ (A : Option Addr) (c : Nat) (L : List Ser), e = .returned (.slice A L.length c) ∧ SF w' A L.length L ∧ L.map Ser.sk = K ∧ Below w.heap.size w w' ∧ L.length ≤ c
theorem clipF_law (A : Option Addr) (n c : Nat) (ss : List Ser) (a b : Int) (w : World) (h : SF w A n ss) : Calls Try.prog 8 #[.slice A n c, .int .i64 a, .int .i64 b] w (KResF w (clipAll a b ss)) := by
  refine (clip_any A n c ss a b w h.row h.len h.at_ h.fit h.few).mono ?_
  rintro e w' ⟨v, L, rfl, hM, hk, hb, hsm⟩
  have hl := kept_count hk
  obtain ⟨A', c', rfl, hcap, hsl⟩ := sf_of_mout hM hsm (by have := h.few; have := h.len; omega)
  exact ⟨A', c', L, rfl, hsl, hk, hb, hcap⟩
theorem strip_count {res : Int} {gones : List Gon} {L ss : List Ser} (h : L.map Ser.sk = stripAll res gones ss) : L.length ≤ ss.length := by
  unfold stripAll at h
  split at h
  · have := congrArg List.length h
    rw [List.length_map] at this
    rw [this]; exact Nat.zero_le _
  · exact kept_count h
theorem stripF_law (res : Int) (A : Option Addr) (n c : Nat) (ss : List Ser) (G : Option Addr) (gn gc : Nat) (gones : List Gon) (w : World) (h : SF w A n ss) (hG : GonsAt w G gn gones) : Calls Try.prog 9 #[.int .i64 res, .slice A n c, .slice G gn gc] w (KResF w (stripAll res gones ss)) := by
  refine (strip_any res A n c ss G gn gc gones w h.row h.len h.at_ h.fit h.few hG).mono ?_
  rintro e w' ⟨v, L, rfl, hM, hk, hb, hsm⟩
  have hl := strip_count hk
  obtain ⟨A', c', rfl, hcap, hsl⟩ := sf_of_mout hM hsm (by have := h.few; have := h.len; omega)
  exact ⟨A', c', L, rfl, hsl, hk, hb, hcap⟩
/-- clipping, by what a list tells -/
def clipSK (a b : Int) (l : List SK) : List SK := fulls (l.map fun s => (s.1, s.2.1.filter (fun y => inR a b y.t), s.2.2.filter (fun y => inR a b y.start)))
theorem clipAll_sk (a b : Int) (L : List Ser) : clipAll a b L = clipSK a b (L.map Ser.sk) := by
  unfold clipAll keptAll clipSK
  rw [List.map_map]
  rfl
def stripSK (res : Int) (gones : List Gon) (l : List SK) : List SK := if res < 0 ∨ 3 ≤ res then [] else fulls (l.map fun s => (s.1, s.2.1.filter (fun y => decide (res = 0) && !tk gones res s.1 y.t), s.2.2.filter (fun y => decide (res ≠ 0) && !tk gones res s.1 y.start)))
theorem stripAll_sk (res : Int) (gones : List Gon) (L : List Ser) : stripAll res gones L = stripSK res gones (L.map Ser.sk) := by
  unfold stripAll stripSK keptAll
  rw [List.map_map]
  rfl

theorem Row.on {w w' : World} {size n : Nat} {A : Option Addr} {xs : List Value} (h : Row w w.heap.size size A n xs) (hb : Below w.heap.size w w') : Row w' w'.heap.size size A n xs := (h.below hb).more hb.size
theorem fresh_row (w : World) (t : TypeId) (size n : Nat) (cs : List Value) (h : cs.length = n * size) : ∃ wa, wa = w.alloc (.cells cs.toArray t) ∧ Row wa wa.heap.size size (some ⟨w.heap.size, 0, none⟩) n cs ∧ Below w.heap.size w wa ∧ wa.heap.size = w.heap.size + 1 :=
  ⟨_, rfl, (Row.fresh w t size n cs h).more (by rw [World.size_alloc]; exact Nat.le_refl _), (Below.refl _ _).alloc (Nat.le_refl _) _, World.size_alloc _ _⟩
theorem wsum_sk {w : World} {A : Option Addr} {n : Nat} {L : List Ser} (h : SL w A n L) : wsum L = MR.ssum (L.map Ser.sk) := (MR.ssum_ser L fun x hx => ⟨(h.at_ x hx).smp.2.1, (h.at_ x hx).win.2.1⟩).symm
theorem wsum_flat : ∀ (LL : List (Sl Ser)), wsum (LL.flatMap Sl.l) = (LL.map fun s => wsum s.l).sum
  | [] => rfl
  | s :: LL => by
    have ih := wsum_flat LL
    rw [List.flatMap_cons, List.map_cons, List.sum_cons, ← ih]
    unfold wsum
    rw [List.map_append, List.sum_append]
theorem sll_mk {w : World} {A : Option Addr} {n : Nat} {LL : List (Sl Ser)} (hr : Row w w.heap.size 1 A n (LL.map Sl.val)) (hl : LL.length = n) (h : ∀ s ∈ LL, SL w s.A s.n s.l ∧ s.n ≤ s.c) (ht : total LL ≤ 1099511627776) (hs : (LL.map fun s => wsum s.l).sum ≤ 1099511627776) (hn : n ≤ 1099511627776) : SLL w A n LL :=
  ⟨hr, hl, fun s hs => ⟨(h s hs).2, (h s hs).1.len, (h s hs).1.row⟩, fun s hs x hx => ⟨(h s hs).1.at_ x hx, ((h s hs).1.small x hx).1⟩, ht, by rw [wsum_flat]; exact hs, hn⟩
def SS (w : World) (s : Sl Ser) : Prop := SL w s.A s.n s.l ∧ s.n ≤ s.c
theorem SS.on {w w' : World} {s : Sl Ser} (h : SS w s) (hb : Below w.heap.size w w') : SS w' s := ⟨h.1.on hb, h.2⟩
theorem SS.nil (w : World) : SS w Sl.nil := ⟨SL.nil w, Nat.le_refl _⟩
def MResL (LL : List (Sl Ser)) (w : World) (e : Ending) (w' : World) : Prop :=
  ∃ s : Sl Ser, e = .returned (.slice s.A s.n s.c) ∧ SS w' s ∧ Canon (s.l.map Ser.sk) ∧ Eqv (s.l.map Ser.sk) (MR.allOf LL) ∧ Below w.heap.size w w' ∧ s.n ≤ total LL ∧ wsum s.l ≤ (LL.map fun s => wsum s.l).sum
theorem mergeK_law (w : World) (LL : List (Sl Ser)) (n : Nat) (hl : LL.length = n) (h : ∀ s ∈ LL, SS w s) (ht : total LL ≤ 1099511627776) (hs : (LL.map fun s => wsum s.l).sum ≤ 1099511627776) (hn : n ≤ 1099511627776) :
    Calls Try.prog 10 #[.slice (some ⟨w.heap.size, 0, none⟩) n n] (w.alloc (.cells (LL.map Sl.val).toArray 30)) (MResL LL w) := by
  have hb0 : Below w.heap.size w (w.alloc (.cells (LL.map Sl.val).toArray 30)) := (Below.refl _ _).alloc (Nat.le_refl _) _
  have hr : Row (w.alloc (.cells (LL.map Sl.val).toArray 30)) (w.alloc (.cells (LL.map Sl.val).toArray 30)).heap.size 1 (some ⟨w.heap.size, 0, none⟩) n (LL.map Sl.val) := (Row.fresh w 30 1 n (LL.map Sl.val) (by rw [List.length_map, hl, Nat.mul_one])).more (by rw [World.size_alloc]; exact Nat.le_refl _)
  have hS : SLL _ _ n LL := sll_mk hr hl (fun s hs => (h s hs).on hb0) ht hs hn
  refine (merge_law _ n n LL _ hS).mono ?_
  rintro e w' ⟨A, c, L, rfl, _, h1, h2, h3, h4, h5, h6, h7⟩
  refine ⟨⟨A, L.length, c, L⟩, rfl, ⟨h1, h7⟩, h2, h3, hb0.trans (h4.mono hb0.size), ?_, ?_⟩
  · rw [MR.allOf_len LL hS.at_] at h5; exact h5
  · have e1 := wsum_sk h1
    have e2 : MR.ssum (MR.allOf LL) = wsum (LL.flatMap Sl.l) := MR.ssum_ser _ fun u hu => by
      obtain ⟨s', hs', hu'⟩ := List.mem_flatMap.1 hu
      have := (hS.sers s' hs' u hu').1
      exact ⟨this.smp.2.1, this.win.2.1⟩
    rw [e2, wsum_flat] at h6
    show wsum L ≤ _
    omega
theorem allOf_one (a : Sl Ser) : MR.allOf [a] = a.l.map Ser.sk := by simp [MR.allOf]
theorem mem_one {w : World} {a : Sl Ser} (ha : SS w a) : ∀ s ∈ [a], SS w s := by
  intro s hs
  rw [List.mem_singleton.1 hs]; exact ha
end Go.Proofs.Ytcndncklgbeloaa
