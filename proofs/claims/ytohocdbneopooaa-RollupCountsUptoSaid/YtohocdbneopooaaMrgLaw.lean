/- Merging as the laws see it: what is answered, as it lies and what it tells; the laws' own helper same. Condition: what comes in is within the reach. -/
import Derived.Test.YtohocdbneopooaaMrg1
import Derived.Test.YtohocdbneopooaaMrgR
import Derived.Test.YtohocdbneopooaaStrip
import Derived.Test.YtohocdbneopooaaRClip
import Derived.Test.YtohocdbneopooaaSerRef21
namespace Go.Proofs.Ytohocdbneopooaa
set_option maxRecDepth 100000
open Go.RowKit Go.Shelf

/-- a list of series, as it lies -/
structure SL (w : World) (A : Option Addr) (n : Nat) (L : List Ser) : Prop where
  row : Row w w.heap.size 3 A n (serCells L)
  len : L.length = n
  at_ : ∀ x ∈ L, x.At w w.heap.size
  small : ∀ x ∈ L, x.lab.n ≤ 1048576 ∧ x.smp.n + x.win.n ≤ 1099511627776
  few : n ≤ 1099511627776
theorem SL.on {w w' : World} {A : Option Addr} {n : Nat} {L : List Ser} (h : SL w A n L) (hb : Below w.heap.size w w') : SL w' A n L :=
  ⟨(h.row.below hb).more hb.size, h.len, fun x hx => ((h.at_ x hx).below hb).more hb.size, h.small, h.few⟩
theorem SL.nil (w : World) : SL w none 0 [] := ⟨Row.nil, rfl, by simp, by simp, by omega⟩
theorem SL.fit {w : World} {A : Option Addr} {n : Nat} {L : List Ser} (h : SL w A n L) : ∀ x ∈ L, x.Fit := fun x hx => by
  have := h.small x hx
  exact ⟨by simp only [reachBytes]; omega, by simp only [reachBytes]; omega, by simp only [reachBytes]; omega⟩
/-- a list of lists of series, as it lies -/
structure SLL (w : World) (A : Option Addr) (n : Nat) (LL : List (Sl Ser)) : Prop where
  row : Row w w.heap.size 1 A n (LL.map Sl.val)
  len : LL.length = n
  at_ : ∀ s ∈ LL, s.At w w.heap.size 3 Ser.cells
  sers : ∀ s ∈ LL, ∀ x ∈ s.l, x.At w w.heap.size ∧ x.lab.n ≤ 1048576
  tot : total LL ≤ 1099511627776
  sum : wsum (LL.flatMap Sl.l) ≤ 1099511627776
  few : n ≤ 1099511627776
theorem SLL.on {w w' : World} {A : Option Addr} {n : Nat} {LL : List (Sl Ser)} (h : SLL w A n LL) (hb : Below w.heap.size w w') : SLL w' A n LL :=
  ⟨(h.row.below hb).more hb.size, h.len, fun s hs => ((h.at_ s hs).below hb).more hb.size, fun s hs x hx => ⟨((h.sers s hs x hx).1.below hb).more hb.size, (h.sers s hs x hx).2⟩, h.tot, h.sum, h.few⟩

theorem addK_len (K : List SK) (s : SK) : (addK K s).length ≤ K.length + 1 := by
  unfold addK
  split
  · simp
  · rename_i z hz
    have : K ≠ [] := fun e => by rw [e] at hz; cases hz
    have := List.length_pos_iff.2 this
    split
    · rw [List.length_append, List.length_dropLast, List.length_singleton]; omega
    · rw [List.length_append, List.length_singleton]; omega
theorem ssum_addK (K : List SK) (s : SK) : MR.ssum (addK K s) = MR.ssum K + (s.2.1.length + s.2.2.length) := by
  have h1 : ∀ x : SK, MR.ssum [x] = x.2.1.length + x.2.2.length := fun x => by simp [MR.ssum]
  rcases List.eq_nil_or_concat K with rfl | ⟨M, z, rfl⟩
  · show MR.ssum [s] = _
    rw [h1]; simp [MR.ssum]
  · rw [List.concat_eq_append]
    unfold addK
    rw [List.getLast?_concat]
    simp only
    split
    · rw [List.dropLast_concat, MR.ssum_app, MR.ssum_app, h1, h1]; simp only [List.length_append]; omega
    · rw [MR.ssum_app, h1]
theorem groupK_len : ∀ (S : List Ser), (groupK S).length ≤ S.length ∧ MR.ssum (groupK S) = MR.ssum (S.map Ser.sk) := by
  intro S
  generalize hn : S.length = n
  induction n generalizing S with
  | zero =>
    obtain rfl := List.eq_nil_of_length_eq_zero hn
    exact ⟨Nat.le_refl _, rfl⟩
  | succ n ih =>
    rcases List.eq_nil_or_concat S with rfl | ⟨M, x, rfl⟩
    · simp at hn
    · rw [List.concat_eq_append] at hn ⊢
      obtain ⟨h1, h2⟩ := ih M (by simpa using hn)
      rw [groupK_snoc, List.map_append, MR.ssum_app]
      refine ⟨Nat.le_trans (addK_len _ _) (by omega), ?_⟩
      rw [ssum_addK, h2]
      simp [MR.ssum]
theorem onced_sum : ∀ {K : List SK} {R : List Ser}, Onced K R → MR.ssum (R.map Ser.sk) ≤ MR.ssum K
  | [], [], _ => Nat.le_refl _
  | [], _ :: _, h => by have := h.1; simp at this
  | _ :: _, [], h => by have := h.1; simp at this
  | k :: K, y :: R, h => by
    have h0 := h.2 0 k rfl
    obtain ⟨y', e, _, h3, h4⟩ := h0
    obtain rfl : y = y' := Option.some.inj e
    have ih : MR.ssum (R.map Ser.sk) ≤ MR.ssum K := onced_sum ⟨by have := h.1; simpa using this, fun i k' hk => by
      have := h.2 (i + 1) k' (by simpa using hk)
      simpa using this⟩
    have e1 : MR.ssum ((y :: R).map Ser.sk) = y.smp.l.length + y.win.l.length + MR.ssum (R.map Ser.sk) := by simp [MR.ssum, Ser.sk]
    have e2 : MR.ssum (k :: K) = k.2.1.length + k.2.2.length + MR.ssum K := by simp [MR.ssum]
    have := onceS_len h3
    have := onceW_len h4
    omega
theorem ssum_sub : ∀ {a b : List SK}, a.Sublist b → MR.ssum a ≤ MR.ssum b := by
  intro a b h
  have e : ∀ (x : SK) (l : List SK), MR.ssum (x :: l) = x.2.1.length + x.2.2.length + MR.ssum l := fun x l => by simp [MR.ssum]
  induction h with
  | slnil => exact Nat.le_refl _
  | cons a _ ih => rw [e]; omega
  | cons_cons a _ ih => rw [e, e]; omega

/-- what merge.Merge answers, as the laws see it -/
def MRes (all : List SK) (w : World) (e : Ending) (w' : World) : Prop :=
  ∃ (A : Option Addr) (c : Nat) (L : List Ser), e = .returned (.slice A L.length c) ∧ MOut w' w.heap.size (.slice A L.length c) L ∧ SL w' A L.length L ∧ Canon (L.map Ser.sk) ∧ Eqv (L.map Ser.sk) all ∧ Below w.heap.size w w' ∧ L.length ≤ all.length ∧ MR.ssum (L.map Ser.sk) ≤ MR.ssum all ∧ L.length ≤ c
theorem sl_of_mout {w : World} {base : Nat} {v : Value} {L : List Ser} (h : MOut w base v L) (hs : ∀ y ∈ L, y.lab.n ≤ 1048576 ∧ y.smp.n + y.win.n ≤ 1099511627776) (hn : L.length ≤ 1099511627776) : ∃ A c, v = .slice A L.length c ∧ L.length ≤ c ∧ SL w A L.length L := by
  obtain ⟨A, c, rfl, hc, hr⟩ := own_shape h.row
  exact ⟨A, c, rfl, hc, hr, rfl, fun x hx => (h.own x hx).at_, hs, hn⟩
theorem merge_law (A : Option Addr) (n c : Nat) (LL : List (Sl Ser)) (w : World) (h : SLL w A n LL) : Calls Try.prog 23 #[.slice A n c] w (MRes (MR.allOf LL) w) := by
  refine (mergeS_any A n c LL w h.row h.len h.at_ h.sers h.tot h.sum (by have := h.few; omega)).mono ?_
  rintro e w' ⟨v, S, R, H, rfl, hS, hR, hH, hM, hsz, hlen, hb⟩
  have hall : (MR.allOf LL).length ≤ 1099511627776 := by rw [MR.allOf_len LL h.at_]; exact h.tot
  have hSl : S.length = (MR.allOf LL).length := by unfold MR.allOf; rw [List.length_map]; exact hS.1.length_eq
  have hK := groupK_len S
  have hfl : (R.filter full).length ≤ (MR.allOf LL).length := by
    have := List.length_filter_le full R
    have := hR.1
    omega
  obtain ⟨A', c', rfl, hcap, hsl⟩ := sl_of_mout hM (fun y hy => hsz y (List.mem_filter.1 hy).1) (by omega)
  obtain ⟨hc, he⟩ := canon_of_merge hS hR hlen
  refine ⟨A', c', R.filter full, rfl, hM.base hH, hsl, hc, he, hb, hfl, ?_, hcap⟩
  have h1 : MR.ssum ((R.filter full).map Ser.sk) ≤ MR.ssum (R.map Ser.sk) := ssum_sub (List.filter_sublist.map _)
  have h2 := onced_sum hR
  have h3 : MR.ssum (S.map Ser.sk) = MR.ssum (MR.allOf LL) := by
    unfold MR.ssum MR.allOf
    exact ((hS.1.map Ser.sk).map _).sum_nat
  omega
/-- what the reference answers -/
def RRes (b0 : Nat) (all : List SK) (w : World) (e : Ending) (w' : World) : Prop :=
  ∃ (A : Option Addr) (c : Nat) (L : List Ser), e = .returned (.slice A L.length c) ∧ SL w' A L.length L ∧ Canon (L.map Ser.sk) ∧ Eqv (L.map Ser.sk) all ∧ Below w.heap.size w w' ∧ MR.RSt b0 w w' (.slice A L.length c) L (fulls all)
theorem mergeR_law (b0 : Nat) (A : Option Addr) (n c : Nat) (LL : List (Sl Ser)) (w : World) (h : SLL w A n LL) (hlo : ∀ s ∈ LL, ∀ x ∈ s.l, x.lab.At w b0 2 Lbl.cells) : Calls Try.prog 27 #[.slice A n c] w (RRes b0 (MR.allOf LL) w) := by
  refine (MR.mergeR_any b0 A n c LL w h.row h.len h.at_ h.sers h.tot h.sum (by have := h.few; omega) hlo).mono ?_
  rintro e w' ⟨v, L, rfl, hst⟩
  have hall : (MR.allOf LL).length ≤ 1099511627776 := by rw [MR.allOf_len LL h.at_]; exact h.tot
  have hfl := MR.fulls_len (MR.allOf LL)
  have hfew := hst.few
  obtain ⟨hc, he⟩ := hst.tells.canon (fulls_full _)
  have hss : MR.ssum (fulls (MR.allOf LL)) ≤ 1099511627776 := by
    have h1 := MR.ssum_fulls (MR.allOf LL)
    have h2 : MR.ssum (MR.allOf LL) = wsum (LL.flatMap Sl.l) := MR.ssum_ser _ fun u hu => by
      obtain ⟨s', hs', hu'⟩ := List.mem_flatMap.1 hu
      have := (h.sers s' hs' u hu').1
      exact ⟨this.smp.2.1, this.win.2.1⟩
    have := h.sum
    omega
  obtain ⟨A', c', rfl, _, hr⟩ := own_shape hst.out.row
  refine ⟨A', c', L, rfl, ⟨hr, rfl, fun x hx => (hst.out.own x hx).at_, fun y hy => ⟨hst.labn y hy, ?_⟩, by omega⟩, hc, he.trans (eqv_fulls _), hst.below, hst⟩
  have hm : y.sk ∈ L.map Ser.sk := List.mem_map.2 ⟨y, hy, rfl⟩
  have h1 := onceS_len (hst.tells.smps _ hm)
  have h2 := onceW_len (hst.tells.wins _ hm)
  have h3 := MR.of_len y.sk.1 (fulls (MR.allOf LL))
  have h4 := (hst.out.own y hy).lens
  have h5 : y.sk.2.1.length = y.smp.n := h4.1
  have h6 : y.sk.2.2.length = y.win.n := h4.2
  omega

/-- lists that tell the same, in the same words, are the same -/
theorem same_of_sk {L M : List Ser} (h : L.map Ser.sk = M.map Ser.sk) (i : Nat) (x y : Ser) (hx : L[i]? = some x) (hy : M[i]? = some y) : y.Same x := by
  have h1 : (L.map Ser.sk)[i]? = (M.map Ser.sk)[i]? := by rw [h]
  rw [List.getElem?_map, List.getElem?_map, hx, hy] at h1
  simp only [Option.map_some, Option.some.injEq, Ser.sk, Prod.mk.injEq] at h1
  exact ⟨h1.1.symm, h1.2.1.symm, h1.2.2.symm⟩
theorem len_of_sk {L M : List Ser} (h : L.map Ser.sk = M.map Ser.sk) : L.length = M.length := by
  have := congrArg List.length h
  simpa using this
theorem SersAs.sks {w : World} {base : Nat} {ss L : List Ser} (h : SersAs w base ss L) : L.map Ser.sk = ss.map Ser.sk := by
  apply List.ext_getElem?
  intro i
  rw [List.getElem?_map, List.getElem?_map]
  rcases Nat.lt_or_ge i ss.length with hi | hi
  · have hi' : i < L.length := by rw [h.len]; exact hi
    have := h.same i _ _ (List.getElem?_eq_getElem hi) (List.getElem?_eq_getElem hi')
    rw [List.getElem?_eq_getElem hi, List.getElem?_eq_getElem hi', Option.map_some, Option.map_some]
    unfold Ser.sk
    rw [this.lab, this.smp, this.win]
  · rw [List.getElem?_eq_none hi, List.getElem?_eq_none (by rw [h.len]; exact hi)]
/-- the law's seriesRef -/
def RefRes (w : World) (ss : List Ser) (e : Ending) (w' : World) : Prop :=
  ∃ (A : Option Addr) (c : Nat) (L : List Ser), e = .returned (.slice A ss.length c) ∧ SL w' A ss.length L ∧ L.map Ser.sk = ss.map Ser.sk ∧ Below w.heap.size w w'
theorem ref_law (A : Option Addr) (n c : Nat) (ss : List Ser) (w : World) (h : SL w A n ss) : Calls Try.prog 26 #[.slice A n c] w (RefRes w ss) := by
  refine (seriesRef21_any A n c ss w h.row h.len (by have := h.few; omega) h.at_ h.fit).mono ?_
  rintro e w' ⟨v, L, rfl, ho, hs, hb⟩
  have hsk := hs.sks
  have hl := hs.len
  obtain ⟨A', c', rfl, _, hr⟩ := own_shape ho
  refine ⟨A', c', L, by rw [h.len], ⟨by rw [h.len]; exact hr, hs.len, hs.at_, fun x hx => ?_, by rw [h.len]; exact h.few⟩, hsk, hb⟩
  obtain ⟨i, hi⟩ := List.getElem?_of_mem hx
  have hi' : i < ss.length := by rw [← hl]; exact (List.getElem?_eq_some_iff.1 hi).1
  have hsm := hs.same i _ _ (List.getElem?_eq_getElem hi') hi
  have hy := List.getElem_mem hi'
  generalize ss[i] = y at *
  have ha := hs.at_ x hx
  have hy2 := h.at_ y hy
  have hz := h.small y hy
  have s1 : x.lab.n = y.lab.n := by rw [← ha.lab.2.1, ← hy2.lab.2.1, hsm.lab]
  have s2 : x.smp.n = y.smp.n := by rw [← ha.smp.2.1, ← hy2.smp.2.1, hsm.smp]
  have s3 : x.win.n = y.win.n := by rw [← ha.win.2.1, ← hy2.win.2.1, hsm.win]
  omega
set_option maxHeartbeats 1600000 in
theorem same_law (A B : Option Addr) (n m c c2 : Nat) (L M : List Ser) (w : World) (h : SL w A n L) (k : SL w B m M) (hs : L.map Ser.sk = M.map Ser.sk) :
    Calls Try.prog 29 #[.slice A n c, .slice B m c2] w fun e w' => e = .returned (.bool true) ∧ Below w.heap.size w w' := by
  have S1 := hidden (ref_law A n c L w h)
  have K := hidden k
  have HS := hidden hs
  have HN := hidden h.few
  clear h k hs
  go_enter Try.func29, Try.ntmps29
  go_wp2_with fail
  refine S1.out.mono ?_
  rintro e w1 ⟨A1, c1, L1, rfl, h1, h2, hb1⟩
  have K1 := K.out.on hb1
  have hlm : L.length = m := by rw [← K1.len]; exact len_of_sk HS.out
  have hfew := K1.few
  rw [hlm] at h1 ⊢
  have hb2 := hb1.size
  have S2 := hidden (rseries_yes A1 B m c1 c2 L1 M w1 w1.heap.size w1.heap.size h1.row K1.row h1.len K1.len (by omega) h1.at_ K1.at_ (same_of_sk (h2.trans HS.out)) (fun x hx => by have := h1.small x hx; omega))
  have HB := hidden hb1
  clear h1 h2 hb1 K1 hlm S1
  go_wp2_with fail
  refine S2.out.mono ?_
  rintro e w2 ⟨rfl, q, rfl⟩
  go_wp2_with fail
  go_ret
  exact ⟨rfl, below_drewN HB.out q⟩
/-- a list of series, as it lies, within the reach -/
structure SF (w : World) (A : Option Addr) (n : Nat) (L : List Ser) : Prop where
  row : Row w w.heap.size 3 A n (serCells L)
  len : L.length = n
  at_ : ∀ x ∈ L, x.At w w.heap.size
  fit : ∀ x ∈ L, x.Fit
  few : n * 72 ≤ 140737488351232
theorem SF.on {w w' : World} {A : Option Addr} {n : Nat} {L : List Ser} (h : SF w A n L) (hb : Below w.heap.size w w') : SF w' A n L :=
  ⟨(h.row.below hb).more hb.size, h.len, fun x hx => ((h.at_ x hx).below hb).more hb.size, h.fit, h.few⟩
theorem SL.sf {w : World} {A : Option Addr} {n : Nat} {L : List Ser} (h : SL w A n L) : SF w A n L := ⟨h.row, h.len, h.at_, h.fit, by have := h.few; omega⟩
def RefF (w : World) (n : Nat) (ss : List Ser) (e : Ending) (w' : World) : Prop :=
  ∃ (A : Option Addr) (c : Nat) (L : List Ser), e = .returned (.slice A n c) ∧ SF w' A n L ∧ L.map Ser.sk = ss.map Ser.sk ∧ Below w.heap.size w w'
theorem refF_law (A : Option Addr) (n c : Nat) (ss : List Ser) (w : World) (h : SF w A n ss) : Calls Try.prog 26 #[.slice A n c] w (RefF w n ss) := by
  refine (seriesRef21_any A n c ss w h.row h.len h.few h.at_ h.fit).mono ?_
  rintro e w' ⟨v, L, rfl, ho, hs, hb⟩
  have hsk := hs.sks
  have hl := hs.len
  obtain ⟨A', c', rfl, _, hr⟩ := own_shape ho
  refine ⟨A', c', L, rfl, ⟨hr, by rw [hs.len, h.len], hs.at_, fun x hx => ?_, h.few⟩, hsk, hb⟩
  obtain ⟨i, hi⟩ := List.getElem?_of_mem hx
  have hi' : i < ss.length := by rw [← hl]; exact (List.getElem?_eq_some_iff.1 hi).1
  have hsm := hs.same i _ _ (List.getElem?_eq_getElem hi') hi
  have hy := List.getElem_mem hi'
  generalize ss[i] = y at *
  have ha := hs.at_ x hx
  have hy2 := h.at_ y hy
  have hz := h.fit y hy
  have s1 : x.lab.n = y.lab.n := by rw [← ha.lab.2.1, ← hy2.lab.2.1, hsm.lab]
  have s2 : x.smp.n = y.smp.n := by rw [← ha.smp.2.1, ← hy2.smp.2.1, hsm.smp]
  have s3 : x.win.n = y.win.n := by rw [← ha.win.2.1, ← hy2.win.2.1, hsm.win]
  exact ⟨by rw [s1]; exact hz.labn, by rw [s2]; exact hz.smpn, by rw [s3]; exact hz.winn⟩
set_option maxHeartbeats 1600000 in
theorem sameF_law (A B : Option Addr) (n m c c2 : Nat) (L M : List Ser) (w : World) (h : SF w A n L) (k : SF w B m M) (hs : L.map Ser.sk = M.map Ser.sk) :
    Calls Try.prog 29 #[.slice A n c, .slice B m c2] w fun e w' => e = .returned (.bool true) ∧ Below w.heap.size w w' := by
  have S1 := hidden (refF_law A n c L w h)
  have K := hidden k
  have HS := hidden hs
  have hln := h.len
  have HLN := hidden hln
  clear h k hs hln
  go_enter Try.func29, Try.ntmps29
  go_wp2_with fail
  refine S1.out.mono ?_
  rintro e w1 ⟨A1, c1, L1, rfl, h1, h2, hb1⟩
  have K1 := K.out.on hb1
  have hlm : n = m := by rw [← K1.len, ← HLN.out]; exact len_of_sk HS.out
  have hfew := K1.few
  rw [hlm] at h1 ⊢
  have S2 := hidden (rseries_yes A1 B m c1 c2 L1 M w1 w1.heap.size w1.heap.size h1.row K1.row h1.len K1.len (by omega) h1.at_ K1.at_ (same_of_sk (h2.trans HS.out)) (fun x hx => by
    obtain ⟨f1, f2, f3⟩ := h1.fit x hx
    simp only [reachBytes] at f1 f2 f3
    omega))
  have HB := hidden hb1
  clear h1 h2 hb1 K1 hlm S1
  go_wp2_with fail
  refine S2.out.mono ?_
  rintro e w2 ⟨rfl, q, rfl⟩
  go_wp2_with fail
  go_ret
  exact ⟨rfl, below_drewN HB.out q⟩
theorem kept_count {ps : Ser → Smp → Bool} {pw : Ser → Win → Bool} {L ss : List Ser} (h : L.map Ser.sk = keptAll ps pw ss) : L.length ≤ ss.length := by
  have := congrArg List.length h
  rw [List.length_map] at this
  rw [this]
  refine Nat.le_trans (List.length_filter_le _ _) ?_
  rw [List.length_map]
  exact Nat.le_refl _
theorem kept_small {ps : Ser → Smp → Bool} {pw : Ser → Win → Bool} {L ss : List Ser} {w w' : World} {B B' : Nat} (h : L.map Ser.sk = keptAll ps pw ss) (ha : ∀ x ∈ L, x.At w B) (hs : ∀ x ∈ ss, x.At w' B') (hz : ∀ x ∈ ss, x.lab.n ≤ 1048576 ∧ x.smp.n + x.win.n ≤ 1099511627776) : ∀ x ∈ L, x.lab.n ≤ 1048576 ∧ x.smp.n + x.win.n ≤ 1099511627776 := by
  intro x hx
  have hm : x.sk ∈ keptAll ps pw ss := by rw [← h]; exact List.mem_map.2 ⟨x, hx, rfl⟩
  obtain ⟨s, hsm, he⟩ := List.mem_map.1 (List.mem_filter.1 hm).1
  have h1 := ha x hx
  have h2 := hs s hsm
  have h3 := hz s hsm
  have e1 : s.lab.l = x.lab.l := congrArg (fun q : SK => q.1) he
  have e2 : s.smp.l.filter (ps s) = x.smp.l := congrArg (fun q : SK => q.2.1) he
  have e3 : s.win.l.filter (pw s) = x.win.l := congrArg (fun q : SK => q.2.2) he
  have l1 := h1.lab.2.1
  have l2 := h1.smp.2.1
  have l3 := h1.win.2.1
  have m1 := h2.lab.2.1
  have m2 := h2.smp.2.1
  have m3 := h2.win.2.1
  have f2 := List.length_filter_le (ps s) s.smp.l
  have f3 := List.length_filter_le (pw s) s.win.l
  rw [e2] at f2
  rw [e3] at f3
  rw [e1] at m1
  omega
theorem sf_of_mout {w : World} {base : Nat} {v : Value} {L : List Ser} (h : MOut w base v L) (hs : ∀ y ∈ L, y.Fit) (hn : L.length * 72 ≤ 140737488351232) : ∃ A c, v = .slice A L.length c ∧ L.length ≤ c ∧ SF w A L.length L := by
  obtain ⟨A, c, rfl, hc, hr⟩ := own_shape h.row
  exact ⟨A, c, rfl, hc, hr, rfl, fun x hx => (h.own x hx).at_, hs, hn⟩
/-- what is kept, as the laws see it -/
def KResF (w : World) (K : List SK) (e : Ending) (w' : World) : Prop :=
  ∃ (A : Option Addr) (c : Nat) (L : List Ser), e = .returned (.slice A L.length c) ∧ SF w' A L.length L ∧ L.map Ser.sk = K ∧ Below w.heap.size w w' ∧ L.length ≤ c
theorem clipF_law (A : Option Addr) (n c : Nat) (ss : List Ser) (a b : Int) (w : World) (h : SF w A n ss) : Calls Try.prog 24 #[.slice A n c, .int .i64 a, .int .i64 b] w (KResF w (clipAll a b ss)) := by
  refine (clip_any A n c ss a b w h.row h.len h.at_ h.fit h.few).mono ?_
  rintro e w' ⟨v, L, rfl, hM, hk, hb, hsm⟩
  have hl := kept_count hk
  obtain ⟨A', c', rfl, hcap, hsl⟩ := sf_of_mout hM hsm (by have := h.few; have := h.len; omega)
  exact ⟨A', c', L, rfl, hsl, hk, hb, hcap⟩
theorem rclipF_law (A : Option Addr) (n c : Nat) (ss : List Ser) (a b : Int) (w : World) (h : SF w A n ss) : Calls Try.prog 30 #[.slice A n c, .int .i64 a, .int .i64 b] w (KResF w (clipAll a b ss)) := by
  refine (MR.rclip_any A n c ss a b w h.row h.len h.at_ h.fit h.few).mono ?_
  rintro e w' ⟨v, L, rfl, hst⟩
  have hl := kept_count hst.tells
  obtain ⟨A', c', rfl, hcap, hr⟩ := own_shape hst.out.row
  exact ⟨A', c', L, rfl, ⟨hr, rfl, fun x hx => (hst.out.own x hx).at_, hst.small, by have := h.few; have := h.len; omega⟩, hst.tells, hst.below, hcap⟩
theorem strip_count {res : Int} {gones : List Gon} {L ss : List Ser} (h : L.map Ser.sk = stripAll res gones ss) : L.length ≤ ss.length := by
  unfold stripAll at h
  split at h
  · have := congrArg List.length h
    rw [List.length_map] at this
    rw [this]; exact Nat.zero_le _
  · exact kept_count h
theorem stripF_law (res : Int) (A : Option Addr) (n c : Nat) (ss : List Ser) (G : Option Addr) (gn gc : Nat) (gones : List Gon) (w : World) (h : SF w A n ss) (hG : GonsAt w G gn gones) : Calls Try.prog 31 #[.int .i64 res, .slice A n c, .slice G gn gc] w (KResF w (stripAll res gones ss)) := by
  refine (strip_any res A n c ss G gn gc gones w h.row h.len h.at_ h.fit h.few hG).mono ?_
  rintro e w' ⟨v, L, rfl, hM, hk, hb, hsm⟩
  have hl := strip_count hk
  obtain ⟨A', c', rfl, hcap, hsl⟩ := sf_of_mout hM hsm (by have := h.few; have := h.len; omega)
  exact ⟨A', c', L, rfl, hsl, hk, hb, hcap⟩
theorem clip_law (A : Option Addr) (n c : Nat) (ss : List Ser) (a b : Int) (w : World) (h : SL w A n ss) :
    Calls Try.prog 24 #[.slice A n c, .int .i64 a, .int .i64 b] w fun e w' => ∃ (A' : Option Addr) (c' : Nat) (L : List Ser), e = .returned (.slice A' L.length c') ∧ SL w' A' L.length L ∧ L.map Ser.sk = clipAll a b ss ∧ Below w.heap.size w w' ∧ L.length ≤ c' := by
  refine (clipF_law A n c ss a b w h.sf).mono ?_
  rintro e w' ⟨A', c', L, rfl, hf, hk, hb, hcap⟩
  have hl := kept_count hk
  exact ⟨A', c', L, rfl, ⟨hf.row, hf.len, hf.at_, kept_small hk hf.at_ h.at_ h.small, by have := h.few; have := h.len; omega⟩, hk, hb, hcap⟩
end Go.Proofs.Ytohocdbneopooaa
