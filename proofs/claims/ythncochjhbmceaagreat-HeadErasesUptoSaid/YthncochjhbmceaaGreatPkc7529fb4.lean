/- The document's reader of patterns: an atom, walked. Condition: the tree is one, nothing has failed, there is a byte; what stands in brackets has a contract. The document's reader of patterns: pieces, branches, walked. Condition: the tree is one, nothing has failed. -/
import Derived.Test.YthncochjhbmceaaGreatPk37991a68
import Derived.Test.YthncochjhbmceaaGreatPke9aa02e7
import Derived.Test.YthncochjhbmceaaGreatPk9c41787b
namespace Go.Proofs.YthncochjhbmceaaGreat
set_option maxRecDepth 100000
open Go.RowKit

/-- a number of a node came back -/
def NumAns (base T : Nat) (s : ByteArray) (n i d m c : Nat) (p : PR Tr) (w : World) (x : Ending) (w' : World) : Prop :=
  ∃ (nv' : Value) (k i' f' : Nat), x = .returned (.int .i64 (k : Int)) ∧ TrV w' base T nv' s (k + 1) i' d f' ∧ TT base w w' ∧ n ≤ k ∧ k + c ≤ n + 2 * (i' - i) ∧ i ≤ i' ∧ i' ≤ s.size + 1 + m ∧ f' ≤ 1000 ∧ Res 0 p (fun _ j => i' = j ∧ j ≤ s.size) f'
theorem node0 : Tryz.zeroCells286 = (.int .i64 0 :: (List.replicate 256 (Value.bool false) ++ [.int .i64 0, .int .i64 0])).toArray := by kernel_rfl
/-- a node's cells, its set empty -/
theorem node_ndf (a b c : Value) (ha : a.oneCell' = true) (hb : b.oneCell' = true) (hc : c.oneCell' = true) : NdF ((a :: (List.replicate 256 (Value.bool false) ++ [b, c])).toArray) BS.zero.has := by
  refine ⟨by simp, fun u hu => ?_, fun x hx => ?_⟩
  · simp only [List.mem_cons, List.mem_append, List.mem_replicate, List.not_mem_nil, or_false] at hu
    rcases hu with rfl | ⟨_, rfl⟩ | rfl | rfl
    · exact ha
    · rfl
    · exact hb
    · exact hc
  · rw [List.getElem?_toArray, Nat.add_comm, List.getElem?_cons_succ, List.getElem?_append_left (by simpa using hx), List.getElem?_replicate, if_pos hx, BS.has_zero]
theorem node_set0 (v : Value) : (Tryz.zeroCells286).setIfInBounds 0 v = (v :: (List.replicate 256 (Value.bool false) ++ [.int .i64 0, .int .i64 0])).toArray := by
  rw [node0, List.setIfInBounds_toArray]
  rfl
/-- branches answer, at this depth -/
def RBrsOk (m : Nat) : Prop := ∀ (base T : Nat) (nv : Value) (s : ByteArray) (n i d : Nat) (w : World), TrV w base T nv s n i d 0 → d + m = 16 → s.size ≤ 64 → i ≤ s.size → n ≤ 3 * i + 1 →
  Calls Tryz.prog 147 #[.pointer (some ⟨T, 0, none⟩)] w (NumAns base T s n i d m 0 (depthP s.data.toList m i) w)
theorem items_in {s : List UInt8} : ∀ (f i : Nat) (S : BS) (n : Nat) (fl : Bool) {a : BS × Nat × Bool} {j : Nat}, itemsP s f i S n fl = .ok a j → j ≤ s.length
  | 0, _, _, _, _, _, _, h => by cases h
  | f + 1, i, S, n, fl, a, j, h => by
    unfold itemsP at h
    split at h
    · cases h
      omega
    · split at h
      · cases h
      · rename_i lo hi k hit
        exact items_in f _ _ _ _ h
theorem class_in {s : List UInt8} {i j : Nat} {B : BS} (h : classP s i = .ok B j) : j ≤ s.length := by
  rw [class_end] at h
  cases hI : itemsP s (s.length + 1) (if decide (i < s.length ∧ byteN s i = 94) then i + 1 else i) .zero 0 false with
  | bad e => rw [hI] at h; cases h
  | ok a k =>
    have h1 := items_in _ _ _ _ _ hI
    rw [hI] at h
    obtain ⟨S, n, fl⟩ := a
    unfold endC at h
    simp only at h
    by_cases hc : n = 0 ∨ fl = true ∨ (if decide (i < s.length ∧ byteN s i = 94) then S.not else S).isZero = true
    · rw [if_pos hc] at h; cases h
    · rw [if_neg hc] at h
      simp only [PR.ok.injEq] at h
      omega
/-- what is laid last -/
theorem node_end {base T X n d i f : Nat} {nv : Value} {s : ByteArray} {w0 w : World} {F : Nat → Bool} (h : ClR base T X nv s n d w0 w F i f) (hn : n ≤ 1000000) :
    ∃ cs : Array Value, (Instr.loadAt 286 (.pointer (some ⟨X, 0, none⟩))).run Tryz.prog w = .ok (.agg cs) w ∧
    Calls Tryz.prog 148 #[.pointer (some ⟨T, 0, none⟩), .agg cs] w fun e w' => e = .returned (.int .i64 (n : Int)) ∧ (∃ nv', TrV w' base T nv' s (n + 1) i d f) ∧ TT base w0 w' := by
  obtain ⟨cs, h1, h2⟩ := h.nd
  refine ⟨cs, run_loadW nodeAgg nodeSize h1 h2.1, (rput_any base T nv s n i d f cs h2.1 h2.2.1 w h.tr hn).mono ?_⟩
  rintro e w' ⟨rfl, a, b⟩
  exact ⟨rfl, a, h.turn.trans b⟩
set_option maxHeartbeats 3200000 in
theorem ratom_any (m : Nat) (hm : ∀ k, m = k + 1 → RBrsOk k) (base T : Nat) (nv : Value) (s : ByteArray) (n i d : Nat) (w : World) (h : TrV w base T nv s n i d 0) (hd : d + m = 16) (hs : s.size ≤ 64) (hi : i < s.size) (hn : n ≤ 3 * i + 1) :
    Calls Tryz.prog 214 #[.pointer (some ⟨T, 0, none⟩)] w (NumAns base T s n i d m 2 (atomP s.data.toList m (subP s.data.toList m) i) w) := by
  have S1 := hidden (rnext_any base T nv s n i d 0 w h hs (by omega) (by omega))
  rw [nextB_ok hi] at S1
  obtain ⟨l, hl⟩ : ∃ l, s.data.toList = l := ⟨_, rfl⟩
  have hsl : l.length = s.size := by rw [← hl]; rfl
  rw [hl] at S1
  rw [hl]
  obtain ⟨RR, hRR⟩ : ∃ RR, atomP l m (subP l m) i = RR := ⟨_, rfl⟩
  rw [hRR]
  unfold atomP at hRR
  have hb := byteN_lt l i
  obtain ⟨b, hbb⟩ : ∃ b, byteN l i = b := ⟨_, rfl⟩
  rw [hbb] at S1 hRR hb
  have HL := hidden hl
  have HRR := hidden hRR
  have H := hidden h
  clear hl h hRR hbb
  go_enter Tryz.func214, Tryz.ntmps214
  go_wp2_with fail
  refine S1.out.mono ?_
  rintro e w1 ⟨rfl, q1, rfl⟩
  have H1 := hidden (H.out.drewN q1)
  have T1 := hidden (Turn.of_below (below_drewN (Below.refl w.heap.size w) q1) base [282, 286] false)
  generalize w.drewN q1 = w1 at *
  clear S1 H
  obtain ⟨c1, c2, c3, c4, fr⟩ := H1.out.c
  have f2 := fr 2
  have fw : IntKind.i64.wrap ((i : Int) + 1) = (i : Int) + 1 := Go.IntWalk.i64_in _ (by omega)
  have HS := hidden (H1.out.store 2 (.int .i64 ((i : Int) + 1)) (i + 1) d 0 (.inl ⟨rfl, moved i, rfl, rfl⟩))
  clear c1 c3 c4 fr
  have hsz1 : (w1.setCell ⟨T, 2, none⟩ (.int .i64 ((i : Int) + 1))).heap.size = w1.heap.size := by simp
  have HST : (storeCells ⟨w1.heap.size, 0, none⟩ ((Tryz.zeroCells286).toList.set 0 (.int .i64 1)) 0).run Tryz.prog ((w1.setCell ⟨T, 2, none⟩ (.int .i64 ((i : Int) + 1))).alloc (.cells Tryz.zeroCells286 286)) = .ok () ((w1.setCell ⟨T, 2, none⟩ (.int .i64 ((i : Int) + 1))).alloc (.cells ((Tryz.zeroCells286).setIfInBounds 0 (.int .i64 1)) 286)) := by
    have := run_storeCells_new (P := Tryz.prog) (w1.setCell ⟨T, 2, none⟩ (.int .i64 ((i : Int) + 1))) 286 Tryz.zeroCells286 ((Tryz.zeroCells286).setIfInBounds 0 (.int .i64 1)) (by kernel_rfl) (by kernel_rfl) (by kernel_rfl)
    rw [hsz1, Array.toList_setIfInBounds] at this
    exact this
  go_upto_region 4 with (fail)
  obtain ⟨w2, hw2⟩ : ∃ w2, (w1.setCell ⟨T, 2, none⟩ (.int .i64 ((i : Int) + 1))).alloc (.cells ((Tryz.zeroCells286).setIfInBounds 0 (.int .i64 1)) 286) = w2 := ⟨_, rfl⟩
  obtain ⟨X, hXX⟩ : ∃ X, w1.heap.size = X := ⟨_, rfl⟩
  have HX := hidden (show base ≤ X ∧ nv.ownBlock ≠ some X from ⟨hXX ▸ H1.out.bs, fun e => by
    obtain ⟨xs, ho⟩ := H1.out.own
    have := (ho.lt X e).2
    omega⟩)
  have HC := hidden (show ClR base T X nv s n d w w2 BS.zero.has (i + 1) 0 from by
    refine ⟨hw2 ▸ HS.out.1.on ((Below.refl _ _).alloc (Nat.le_refl _) _), ⟨(Tryz.zeroCells286).setIfInBounds 0 (.int .i64 1), ?_, ?_⟩, ?_⟩
    · rw [← hw2, ← hXX, ← hsz1]
      exact Whole1.new _ _ _
    · rw [node_set0]
      exact node_ndf _ _ _ rfl rfl rfl
    · exact T1.out.trans ((HS.out.2.wider (Nat.le_refl _) (by simp) (by simp)).trans (hw2 ▸ (Turn.refl _ _ _ _).alloc _)))
  rw [hw2, hXX]
  clear hw2 hXX HST hsz1 H1 T1 HS f2 fw
  clear c2
  by_cases h42 : b = 42
  · subst h42
    rw [if_pos (by omega)] at HRR
    have HSF := hidden (rfail_any base T nv s n (i + 1) d 0 64 w2 HC.out.tr)
    go_wp2_with fail
    refine HSF.out.mono ?_
    rintro e w6 ⟨rfl, t6, b6⟩
    have HCF := hidden (HC.out.tree t6 b6)
    clear HSF t6 b6 HC
    obtain ⟨cs, hld, hput⟩ := node_end HCF.out (by omega)
    have HLD := hidden hld
    have HPUT := hidden hput
    clear hld hput
    go_wp2_with (first | refine wpList_loadW rfl _ _ rfl _ rfl _ HLD.out ?_)
    refine HPUT.out.mono ?_
    rintro e w7 ⟨rfl, ⟨nv7, t7⟩, u7⟩
    have HF := hidden (And.intro t7 u7)
    clear HPUT t7 u7
    go_wp2_with fail
    go_ret
    refine ⟨nv7, n, i + 1, 64, rfl, HF.out.1, HF.out.2, Nat.le_refl _, by omega, by omega, by omega, by omega, ?_⟩
    rw [← HRR.out]
    exact Res.of_bad (by omega)
  by_cases h43 : b = 43
  · subst h43
    rw [if_pos (by omega)] at HRR
    have HSF := hidden (rfail_any base T nv s n (i + 1) d 0 64 w2 HC.out.tr)
    go_wp2_with fail
    refine HSF.out.mono ?_
    rintro e w6 ⟨rfl, t6, b6⟩
    have HCF := hidden (HC.out.tree t6 b6)
    clear HSF t6 b6 HC
    obtain ⟨cs, hld, hput⟩ := node_end HCF.out (by omega)
    have HLD := hidden hld
    have HPUT := hidden hput
    clear hld hput
    go_wp2_with (first | refine wpList_loadW rfl _ _ rfl _ rfl _ HLD.out ?_)
    refine HPUT.out.mono ?_
    rintro e w7 ⟨rfl, ⟨nv7, t7⟩, u7⟩
    have HF := hidden (And.intro t7 u7)
    clear HPUT t7 u7
    go_wp2_with fail
    go_ret
    refine ⟨nv7, n, i + 1, 64, rfl, HF.out.1, HF.out.2, Nat.le_refl _, by omega, by omega, by omega, by omega, ?_⟩
    rw [← HRR.out]
    exact Res.of_bad (by omega)
  by_cases h63 : b = 63
  · subst h63
    rw [if_pos (by omega)] at HRR
    have HSF := hidden (rfail_any base T nv s n (i + 1) d 0 64 w2 HC.out.tr)
    go_wp2_with fail
    refine HSF.out.mono ?_
    rintro e w6 ⟨rfl, t6, b6⟩
    have HCF := hidden (HC.out.tree t6 b6)
    clear HSF t6 b6 HC
    obtain ⟨cs, hld, hput⟩ := node_end HCF.out (by omega)
    have HLD := hidden hld
    have HPUT := hidden hput
    clear hld hput
    go_wp2_with (first | refine wpList_loadW rfl _ _ rfl _ rfl _ HLD.out ?_)
    refine HPUT.out.mono ?_
    rintro e w7 ⟨rfl, ⟨nv7, t7⟩, u7⟩
    have HF := hidden (And.intro t7 u7)
    clear HPUT t7 u7
    go_wp2_with fail
    go_ret
    refine ⟨nv7, n, i + 1, 64, rfl, HF.out.1, HF.out.2, Nat.le_refl _, by omega, by omega, by omega, by omega, ?_⟩
    rw [← HRR.out]
    exact Res.of_bad (by omega)
  rw [if_neg (by omega)] at HRR
  have e42 : ((b : Int) == 42) = false := by simp; omega
  have e43 : ((b : Int) == 43) = false := by simp; omega
  have e63 : ((b : Int) == 63) = false := by simp; omega
  clear h42 h43 h63
  by_cases h40 : b = 40
  · subst h40
    rw [if_pos rfl] at HRR
    cases m with
    | zero =>
      rw [if_pos rfl] at HRR
      have hd16 : 16 ≤ d := by omega
      have hd16' : (16 : Int) ≤ (d : Int) := by omega
      have c3 := HC.out.tr.blk.cell 3
      have HSF := hidden (rfail_any base T nv s n (i + 1) d 0 66 w2 HC.out.tr)
      go_wp2_with fail
      refine HSF.out.mono ?_
      rintro e w6 ⟨rfl, t6, b6⟩
      have HCF := hidden (HC.out.tree t6 b6)
      clear HSF t6 b6 HC
      obtain ⟨cs, hld, hput⟩ := node_end HCF.out (by omega)
      have HLD := hidden hld
      have HPUT := hidden hput
      clear hld hput
      go_wp2_with (first | refine wpList_loadW rfl _ _ rfl _ rfl _ HLD.out ?_)
      refine HPUT.out.mono ?_
      rintro e w7 ⟨rfl, ⟨nv7, t7⟩, u7⟩
      have HF := hidden (And.intro t7 u7)
      clear HPUT t7 u7
      go_wp2_with fail
      go_ret
      refine ⟨nv7, n, i + 1, 66, rfl, HF.out.1, HF.out.2, Nat.le_refl _, by omega, by omega, by omega, by omega, ?_⟩
      rw [← HRR.out]
      exact Res.of_bad (by omega)
    | succ k =>
      rw [if_neg (by omega)] at HRR
      have hd16 : ¬ 16 ≤ d := by omega
      have hd16' : ¬ (16 : Int) ≤ (d : Int) := by omega
      obtain ⟨c1, c2, c3, c4, fr⟩ := HC.out.tr.c
      have f3 := fr 3
      have fwd : IntKind.i64.wrap ((d : Int) + 1) = (d : Int) + 1 := Go.IntWalk.i64_in _ (by omega)
      have HS := hidden (HC.out.tr.store 3 (.int .i64 ((d : Int) + 1)) (i + 1) (d + 1) 0 (.inr (.inl ⟨rfl, moved d, rfl, rfl⟩)))
      have HT := hidden (HC.out.turn.trans (HS.out.2.wider (Nat.le_refl _) (by simp) (by simp)))
      have S5 := hidden (hm k rfl base T nv s n (i + 1) (d + 1) _ HS.out.1 (by omega) hs (by omega) (by omega))
      rw [HL.out] at S5
      clear c1 c2 c4 fr
      go_wp2_with fail
      refine S5.out.mono ?_
      rintro e w5 ⟨nv5, k5, j5, f5, rfl, t5, u5, hk5, hk5', hj5, hj5', hf5, r5⟩
      obtain ⟨D, hD⟩ : ∃ D, d + 1 = D := ⟨_, rfl⟩
      rw [hD] at t5
      have H5 := hidden t5
      have U5 := hidden (HT.out.trans u5)
      have hcase : (j5 < s.size ∧ f5 = 0 ∧ Res 0 RR (fun _ j => j5 + 1 = j ∧ j ≤ s.size) 0) ∨ ((f5 ≠ 0 ∨ s.size ≤ j5) ∧ failN f5 61 ≤ 1000 ∧ Res 0 RR (fun _ j => j5 + 1 = j ∧ j ≤ s.size) (failN f5 61)) := by
        rw [← HRR.out]
        rcases r5.2 rfl with ⟨t, j, e1, ⟨rfl, e3⟩, rfl⟩ | ⟨e, e1, rfl, e3⟩
        · show (_ ∧ _ ∧ Res 0 (match depthP l k (i + 1) with | .bad e => .bad e | .ok t j => if j < l.length then .ok t (j + 1) else .bad 61) _ _) ∨ (_ ∧ _ ∧ Res 0 (match depthP l k (i + 1) with | .bad e => .bad e | .ok t j => if j < l.length then .ok t (j + 1) else .bad 61) _ _)
          rw [e1]
          dsimp only
          by_cases hlt : j5 < s.size
          · rw [if_pos (by omega)]
            exact .inl ⟨hlt, rfl, Res.of_ok ⟨rfl, hlt⟩⟩
          · rw [if_neg (by omega)]
            exact .inr ⟨.inr (by omega), by have : failN 0 61 = 61 := rfl; omega, Res.of_bad (by omega)⟩
        · show (_ ∧ _ ∧ Res 0 (match depthP l k (i + 1) with | .bad e => .bad e | .ok t j => if j < l.length then .ok t (j + 1) else .bad 61) _ _) ∨ (_ ∧ _ ∧ Res 0 (match depthP l k (i + 1) with | .bad e => .bad e | .ok t j => if j < l.length then .ok t (j + 1) else .bad 61) _ _)
          rw [e1]
          dsimp only
          have hne : failN f5 61 = f5 := if_neg e3
          rw [hne]
          exact .inr ⟨.inl e3, hf5, Res.of_bad e3⟩
      have S6 := hidden (rnext_any base T nv5 s (k5 + 1) j5 D f5 w5 H5.out hs (by omega) hf5)
      clear S5 HC HS HT t5 u5 r5 c3 f3 fwd
      rcases hcase with ⟨hlt, rfl, hres⟩ | ⟨hor, hfl, hres⟩
      · have HRES := hidden hres
        rw [nextB_ok hlt] at S6
        obtain ⟨nb, hnb⟩ : ∃ nb, byteN s.data.toList j5 = nb := ⟨_, rfl⟩
        rw [hnb] at S6
        clear hnb hres
        have hnb0 : ¬ (nb : Int) < 0 := by omega
        go_wp2_with fail
        refine S6.out.mono ?_
        rintro e w6 ⟨rfl, q6, rfl⟩
        have HX := hidden (H5.out.drewN q6)
        have HTX := hidden (U5.out.trans (Turn.of_below (below_drewN (Below.refl w5.heap.size w5) q6) base [282, 286] false))
        generalize w5.drewN q6 = w6 at *
        clear S6 H5 U5
        obtain ⟨c1, c2, c3, c4, fr⟩ := HX.out.c
        have fr2 := fr 2
        have fr3 := fr 3
        clear fr
        have fw : IntKind.i64.wrap ((j5 : Int) + 1) = (j5 : Int) + 1 := Go.IntWalk.i64_in _ (by omega)
        have fwd : IntKind.i64.wrap ((D : Int) - 1) = (D : Int) - 1 := Go.IntWalk.i64_in _ (by omega)
        have HS1 := hidden (HX.out.store 2 (.int .i64 ((j5 : Int) + 1)) (j5 + 1) D 0 (.inl ⟨rfl, moved j5, rfl, rfl⟩))
        have HS2 := hidden (HS1.out.1.store 3 (.int .i64 ((D : Int) - 1)) (j5 + 1) d 0 (.inr (.inl ⟨rfl, by congr 1; omega, rfl, rfl⟩)))
        clear c1 c4
        go_wp2_with fail
        go_ret
        refine ⟨nv5, k5, j5 + 1, 0, rfl, HS2.out.1, HTX.out.trans (((HS1.out.2.trans HS2.out.2)).wider (Nat.le_refl _) (by simp) (by simp)), hk5, by omega, by omega, by omega, by omega, ?_⟩
        exact HRES.out
      · have HRES := hidden hres
        rw [nextB_end hor] at S6
        clear hres hor
        go_wp2_with fail
        refine S6.out.mono ?_
        rintro e w6 ⟨rfl, q6, rfl⟩
        have HX0 := hidden (H5.out.drewN q6)
        have HTX0 := hidden (U5.out.trans (Turn.of_below (below_drewN (Below.refl w5.heap.size w5) q6) base [282, 286] false))
        generalize w5.drewN q6 = w6 at *
        clear S6 H5 U5
        have HSF := hidden (rfail_any base T nv5 s (k5 + 1) j5 D f5 61 w6 HX0.out)
        obtain ⟨fl, hfle⟩ : ∃ fl, failN f5 61 = fl := ⟨_, rfl⟩
        rw [hfle] at HSF hfl HRES
        clear hfle
        go_wp2_with fail
        refine HSF.out.mono ?_
        rintro e w8 ⟨rfl, t8, u8⟩
        have HX := hidden t8
        have HTX := hidden (HTX0.out.trans (u8.wider (Nat.le_refl _) (by simp) (by simp)))
        clear HSF t8 u8 HX0 HTX0
        obtain ⟨c1, c2, c3, c4, fr⟩ := HX.out.c
        have fr2 := fr 2
        have fr3 := fr 3
        clear fr
        have fw : IntKind.i64.wrap ((j5 : Int) + 1) = (j5 : Int) + 1 := Go.IntWalk.i64_in _ (by omega)
        have fwd : IntKind.i64.wrap ((D : Int) - 1) = (D : Int) - 1 := Go.IntWalk.i64_in _ (by omega)
        have HS1 := hidden (HX.out.store 2 (.int .i64 ((j5 : Int) + 1)) (j5 + 1) D fl (.inl ⟨rfl, moved j5, rfl, rfl⟩))
        have HS2 := hidden (HS1.out.1.store 3 (.int .i64 ((D : Int) - 1)) (j5 + 1) d fl (.inr (.inl ⟨rfl, by congr 1; omega, rfl, rfl⟩)))
        clear c1 c4
        go_wp2_with fail
        go_ret
        refine ⟨nv5, k5, j5 + 1, fl, rfl, HS2.out.1, HTX.out.trans (((HS1.out.2.trans HS2.out.2)).wider (Nat.le_refl _) (by simp) (by simp)), hk5, by omega, by omega, by omega, by omega, ?_⟩
        exact HRES.out
  rw [if_neg h40] at HRR
  have e40 : ((b : Int) == 40) = false := by simp; omega
  clear h40
  by_cases h91 : b = 91
  · subst h91
    rw [if_pos rfl] at HRR
    have S5 : Hid (Calls Tryz.prog 223 #[.pointer (some ⟨T, 0, none⟩), .pointer (some ⟨X, 0, none⟩)] w2 (ClassAns base T X nv s n (i + 1) d w2)) := by
      obtain ⟨cs, h1, h2⟩ := HC.out.nd
      exact hidden (rclass_any base T X nv s n (i + 1) d w2 HC.out.tr cs h1 h2 HX.out.1 HX.out.2 hs (by omega))
    have HT := hidden HC.out.turn
    clear HC
    go_wp2_with fail
    refine S5.out.mono ?_
    rintro e w6 ⟨i6, f6, F6, rfl, t6, hi6, hi6', hf6, r6⟩
    have HCF := hidden (show ClR base T X nv s n d w w6 F6 i6 f6 from ⟨t6.tr, t6.nd, HT.out.trans t6.turn⟩)
    rw [HL.out] at r6
    have HRES := hidden (show Res 0 RR (fun _ j => i6 = j ∧ j ≤ s.size) f6 from by
      rw [← HRR.out]
      rcases r6.2 rfl with ⟨t, j, e1, rfl, rfl⟩ | ⟨e, e1, rfl, e3⟩
      · show Res 0 (match classP l (i + 1) with | .bad e => .bad e | .ok S j => .ok S.tr j) _ _
        rw [e1]
        exact Res.of_ok ⟨rfl, by have := class_in e1; omega⟩
      · show Res 0 (match classP l (i + 1) with | .bad e => .bad e | .ok S j => .ok S.tr j) _ _
        rw [e1]
        exact Res.of_bad e3)
    clear S5 t6 r6
    obtain ⟨cs, hld, hput⟩ := node_end HCF.out (by omega)
    have HLD := hidden hld
    have HPUT := hidden hput
    clear hld hput
    go_wp2_with (first | refine wpList_loadW rfl _ _ rfl _ rfl _ HLD.out ?_)
    refine HPUT.out.mono ?_
    rintro e w7 ⟨rfl, ⟨nv7, t7⟩, u7⟩
    have HF := hidden (And.intro t7 u7)
    clear HPUT t7 u7
    go_wp2_with fail
    go_ret
    refine ⟨nv7, n, i6, f6, rfl, HF.out.1, HF.out.2, Nat.le_refl _, by omega, by omega, by omega, by omega, ?_⟩
    exact HRES.out
  have e91 : ((b : Int) == 91) = false := by simp; omega
  by_cases h46 : b = 46
  · subst h46
    rw [if_neg (by omega)] at HRR
    rw [if_pos rfl] at HRR
    go_wp2_with fail
    go_loopw [6] (fun vi wr => ∃ q : Nat, vi = .int .i64 (q : Int) ∧ q ≤ 256 ∧ Hid (∃ F, ClR base T X nv s n d w wr F (i + 1) 0)) (fun vi _ => 256 - (intOf vi).toNat)
    case atStart => exact ⟨0, rfl, by omega, ⟨_, HC.out⟩⟩
    case round =>
      obtain ⟨q, rfl, hq, hcq⟩ := hrel
      obtain ⟨F, hcq⟩ := hcq.out
      have HCQ := hidden hcq
      clear hcq HC
      by_cases hlq : q < 256
      · have q0 : (0 : Int) ≤ (q : Int) := by omega
        have q1 : (q : Int) < 256 := by omega
        have fwq : IntKind.i64.wrap ((q : Int) + 1) = (q : Int) + 1 := Go.IntWalk.i64_in _ (by omega)
        have HCF := hidden (HCQ.out.put HX.out.1 HX.out.2 hlq true)
        obtain ⟨d0, e0⟩ := HCQ.out.cell hlq
        clear HCQ
        go_wp2_with fail
        clear d0 e0
        generalize wr.setCell ⟨X, 1 + q, none⟩ (.bool true) = w8 at *
        go_roundw
        case rel => exact ⟨q + 1, by go_num, by omega, ⟨_, HCF.out⟩⟩
        case measure => simp [intOf]; omega
      · have q1 : ¬ (q : Int) < 256 := by omega
        obtain ⟨cs, hld, hput⟩ := node_end HCQ.out (by omega)
        have HLD := hidden hld
        have HPUT := hidden hput
        clear hld hput
        go_wp2_with (first | refine wpList_loadW rfl _ _ rfl _ rfl _ HLD.out ?_)
        refine HPUT.out.mono ?_
        rintro e w7 ⟨rfl, ⟨nv7, t7⟩, u7⟩
        have HF := hidden (And.intro t7 u7)
        clear HPUT t7 u7
        go_wp2_with fail
        go_ret
        refine ⟨nv7, n, i + 1, 0, rfl, HF.out.1, HF.out.2, Nat.le_refl _, by omega, by omega, by omega, by omega, ?_⟩
        rw [← HRR.out]
        exact Res.of_ok ⟨rfl, by omega⟩
  have e46 : ((b : Int) == 46) = false := by simp; omega
  by_cases h92 : b = 92
  · subst h92
    rw [if_neg (by omega), if_neg (by omega)] at HRR
    rw [if_pos rfl] at HRR
    have S5 := hidden (rescaped_any base T nv s n (i + 1) d 0 w2 HC.out.tr hs (by omega) (by omega))
    rw [HL.out] at S5
    go_wp2_with fail
    refine S5.out.mono ?_
    rintro e w6 ⟨b6, i6, f6, rfl, t6, u6, hb6, hi6, hj6, hf6, r6⟩
    have HC6 := hidden (HC.out.tree t6 u6)
    have i60 : (0 : Int) ≤ (b6 : Int) := by omega
    have i61 : (b6 : Int) < 256 := by omega
    have HCF := hidden (HC6.out.put HX.out.1 HX.out.2 hb6 true)
    have HRES := hidden (show Res 0 RR (fun _ j => i6 = j ∧ j ≤ s.size) f6 from by
      rw [← HRR.out]
      rcases r6.2 rfl with ⟨t, j, e1, ⟨rfl, rfl⟩, rfl⟩ | ⟨e, e1, rfl, e3⟩
      · show Res 0 (match escP l (i + 1) with | .bad e => .bad e | .ok x j => .ok (BS.zero.put x x).tr j) _ _
        rw [e1]
        have h1 : i + 1 < l.length := by
          unfold escP at e1
          split at e1
          · assumption
          · cases e1
        have h2 : i6 = i + 2 := by
          unfold escP at e1
          rw [if_pos h1] at e1
          cases e1
          rfl
        exact Res.of_ok ⟨rfl, by omega⟩
      · show Res 0 (match escP l (i + 1) with | .bad e => .bad e | .ok x j => .ok (BS.zero.put x x).tr j) _ _
        rw [e1]
        exact Res.of_bad e3)
    obtain ⟨d0, e0⟩ := HC6.out.cell hb6
    clear S5 t6 u6 r6 HC
    go_upto_region 30 with (fail)
    clear d0 e0 HC6
    generalize w6.setCell ⟨X, 1 + b6, none⟩ (.bool true) = w8 at *
    obtain ⟨cs, hld, hput⟩ := node_end HCF.out (by omega)
    have HLD := hidden hld
    have HPUT := hidden hput
    clear hld hput
    go_wp2_with (first | refine wpList_loadW rfl _ _ rfl _ rfl _ HLD.out ?_)
    refine HPUT.out.mono ?_
    rintro e w7 ⟨rfl, ⟨nv7, t7⟩, u7⟩
    have HF := hidden (And.intro t7 u7)
    clear HPUT t7 u7
    go_wp2_with fail
    go_ret
    refine ⟨nv7, n, i6, f6, rfl, HF.out.1, HF.out.2, Nat.le_refl _, by omega, by omega, by omega, by omega, ?_⟩
    exact HRES.out
  have e92 : ((b : Int) == 92) = false := by simp; omega
  rw [if_neg h91, if_neg h46, if_neg h92] at HRR
  have i60 : (0 : Int) ≤ (b : Int) := by omega
  have i61 : (b : Int) < 256 := by omega
  have HCF := hidden (HC.out.put HX.out.1 HX.out.2 hb true)
  obtain ⟨d0, e0⟩ := HC.out.cell hb
  go_upto_region 30 with (fail)
  clear d0 e0 HC
  generalize w2.setCell ⟨X, 1 + b, none⟩ (.bool true) = w8 at *
  obtain ⟨cs, hld, hput⟩ := node_end HCF.out (by omega)
  have HLD := hidden hld
  have HPUT := hidden hput
  clear hld hput
  go_wp2_with (first | refine wpList_loadW rfl _ _ rfl _ rfl _ HLD.out ?_)
  refine HPUT.out.mono ?_
  rintro e w7 ⟨rfl, ⟨nv7, t7⟩, u7⟩
  have HF := hidden (And.intro t7 u7)
  clear HPUT t7 u7
  go_wp2_with fail
  go_ret
  refine ⟨nv7, n, i + 1, 0, rfl, HF.out.1, HF.out.2, Nat.le_refl _, by omega, by omega, by omega, by omega, ?_⟩
  rw [← HRR.out]
  exact Res.of_ok ⟨rfl, by omega⟩
end Go.Proofs.YthncochjhbmceaaGreat

namespace Go.Proofs.YthncochjhbmceaaGreat
set_option maxRecDepth 100000
open Go.RowKit

/-- cells of a node -/
def OneN (cs : Array Value) : Prop := cs.size = 259 ∧ ∀ u ∈ cs.toList, u.oneCell' = true
theorem OneN.set {cs : Array Value} (h : OneN cs) (k : Nat) (v : Value) (hv : v.oneCell' = true) : OneN (cs.setIfInBounds k v) := by
  refine ⟨by simpa using h.1, fun u hu => ?_⟩
  rw [Array.toList_setIfInBounds] at hu
  rcases List.mem_or_eq_of_mem_set hu with h1 | rfl
  · exact h.2 u h1
  · exact hv
theorem oneN0 : OneN Tryz.zeroCells286 := by
  rw [node0]
  have := node_ndf (.int .i64 0) (.int .i64 0) (.int .i64 0) rfl rfl rfl
  exact ⟨this.1, this.2.1⟩
/-- a node more -/
theorem rput_one (base T : Nat) (nv : Value) (s : ByteArray) (n i d f : Nat) (cs : Array Value) (hc : OneN cs) (w0 w : World) (h : TrV w base T nv s n i d f) (ht : TT base w0 w) (hn : n ≤ 1000000) :
    Calls Tryz.prog 148 #[.pointer (some ⟨T, 0, none⟩), .agg cs] w fun e w' => e = .returned (.int .i64 (n : Int)) ∧ (∃ nv', TrV w' base T nv' s (n + 1) i d f) ∧ TT base w0 w' := by
  refine (rput_any base T nv s n i d f cs hc.1 hc.2 w h hn).mono ?_
  rintro e w' ⟨rfl, a, b⟩
  exact ⟨rfl, a, ht.trans b⟩
set_option maxHeartbeats 3200000 in
theorem rpiece_any (m : Nat) (hm : ∀ k, m = k + 1 → RBrsOk k) (base T : Nat) (nv : Value) (s : ByteArray) (n i d : Nat) (w : World) (h : TrV w base T nv s n i d 0) (hd : d + m = 16) (hs : s.size ≤ 64) (hi : i < s.size) (hn : n ≤ 3 * i + 1) :
    Calls Tryz.prog 199 #[.pointer (some ⟨T, 0, none⟩)] w (NumAns base T s n i d m 2 (pieceP s.data.toList m (subP s.data.toList m) i) w) := by
  have S1 := hidden (ratom_any m hm base T nv s n i d w h hd hs hi hn)
  obtain ⟨l, hl⟩ : ∃ l, s.data.toList = l := ⟨_, rfl⟩
  have hsl : l.length = s.size := by rw [← hl]; rfl
  rw [hl] at S1
  rw [hl]
  obtain ⟨RR, hRR⟩ : ∃ RR, pieceP l m (subP l m) i = RR := ⟨_, rfl⟩
  rw [hRR]
  have HL := hidden hl
  have HRR := hidden hRR
  clear hl h hRR
  go_enter Tryz.func199, Tryz.ntmps199
  go_wp2_with fail
  refine S1.out.mono ?_
  rintro e w1 ⟨nv1, k1, i1, f1, rfl, t1, u1, hk1, hk1', hi1, hi1', hf1, r1⟩
  have HT1 := hidden t1
  have HU1 := hidden u1
  have HE1 := hidden (show (f1 = 0 → i1 ≤ s.size ∧ ∃ t, RR = .ok (signsP l (s.size + 1) i1 t).1 (signsP l (s.size + 1) i1 t).2) ∧ (f1 ≠ 0 → RR = .bad f1) from by
    rw [← HRR.out]
    rcases r1.2 rfl with ⟨t, j, e1, ⟨rfl, e2⟩, rfl⟩ | ⟨e, e1, rfl, e3⟩
    · exact ⟨fun _ => ⟨e2, t, by rw [pieceP, e1, hsl]⟩, fun h => absurd rfl h⟩
    · exact ⟨fun h => absurd h e3, fun _ => by rw [pieceP, e1]⟩)
  clear S1 t1 u1 r1
  go_wp2_with fail
  go_loopg [3] (s.size + 1) (fun gk va wr => ∃ (fu k j f : Nat) (nv' : Value), va = .int .i64 (k : Int) ∧ fu ≤ gk ∧ i + 1 ≤ j ∧ n ≤ k ∧ k + 2 ≤ n + 2 * (j - i) ∧ j ≤ s.size + 1 + m ∧ f ≤ 1000 ∧ Hid (TrV wr base T nv' s (k + 1) j d f) ∧ Hid (TT base w wr) ∧ Hid ((f = 0 → j ≤ s.size ∧ s.size < j + fu ∧ ∃ t, RR = .ok (signsP l fu j t).1 (signsP l fu j t).2) ∧ (f ≠ 0 → RR = .bad f)))
  case atStart => exact ⟨s.size + 1, k1, i1, f1, nv1, rfl, Nat.le_refl _, by omega, hk1, hk1', hi1', hf1, HT1, HU1, ⟨fun h => ⟨(HE1.out.1 h).1, by omega, (HE1.out.1 h).2⟩, HE1.out.2⟩⟩
  case round =>
    obtain ⟨fu, k, j, f, nv', rfl, hfk, hij, hnk, hk2, hj, hf, ht, hu, hE⟩ := hrel
    clear HT1 HU1 HE1 hk1 hk1' hi1 hi1' hf1
    have S2 := hidden (rnext_any base T nv' s (k + 1) j d f wr ht.out hs (by omega) hf)
    go_wp2_with fail
    refine S2.out.mono ?_
    rintro e w2 ⟨rfl, q2, rfl⟩
    have HT2 := hidden (ht.out.drewN q2)
    have HU2 := hidden (hu.out.trans (Turn.of_below (below_drewN (Below.refl wr.heap.size wr) q2) base [282, 286] false))
    generalize wr.drewN q2 = w2 at *
    clear S2 ht hu
    by_cases hsg : f = 0 ∧ j < s.size ∧ (byteN l j = 42 ∨ byteN l j = 43 ∨ byteN l j = 63)
    · obtain ⟨rfl, hjs, hsg⟩ := hsg
      rw [nextB_ok hjs, HL.out]
      obtain ⟨e1, e2, t, e3⟩ := hE.out.1 rfl
      obtain ⟨fu, rfl⟩ : ∃ fu', fu = fu' + 1 := ⟨fu - 1, by omega⟩
      obtain ⟨b, hb⟩ : ∃ b, byteN l j = b := ⟨_, rfl⟩
      rw [hb] at hsg ⊢
      have HE := hidden (show ∀ t', signP b t = some t' → RR = .ok (signsP l fu (j + 1) t').1 (signsP l fu (j + 1) t').2 from fun t' h' => by rw [e3, signs_step (by omega) (by rw [hb]; exact h')])
      have HPUT := hidden (fun (cs : Array Value) (hc : OneN cs) => rput_one base T nv' s (k + 1) j d 0 cs hc w w2 HT2.out HU2.out (by omega))
      have fwj : IntKind.i64.wrap ((j : Int) + 1) = (j : Int) + 1 := Go.IntWalk.i64_in _ (by omega)
      clear e3 hE hb
      rcases hsg with rfl | rfl | rfl
      · have HEE := hidden (HE.out (.star t) rfl)
        clear HE
        go_wp2_with fail
        refine (HPUT.out _ ?_).mono ?_
        · exact (oneN0.set 0 _ rfl).set 257 _ rfl
        rintro e w3 ⟨rfl, ⟨nv3, t3⟩, u3⟩
        have HT3 := hidden t3
        have HU3 := hidden u3
        have HS := hidden (HT3.out.store 2 (.int .i64 ((j : Int) + 1)) (j + 1) d 0 (.inl ⟨rfl, moved j, rfl, rfl⟩))
        obtain ⟨c1, c2, c3, c4, fr⟩ := HT3.out.c
        have f2 := fr 2
        clear c1 c3 c4 fr t3 u3 HPUT HT2 HU2
        go_wp2_with fail
        go_roundg fu
        case measure => omega
        case rel => exact ⟨fu, k + 1, j + 1, 0, nv3, by go_num, Nat.le_refl _, by omega, by omega, by omega, by omega, by omega, HS.out.1, HU3.out.trans (HS.out.2.wider (Nat.le_refl _) (by simp) (by simp)), ⟨fun _ => ⟨by omega, by omega, _, HEE.out⟩, fun h => absurd rfl h⟩⟩
      · have HEE := hidden (HE.out (.plus t) rfl)
        clear HE
        go_wp2_with fail
        refine (HPUT.out _ ?_).mono ?_
        · exact (oneN0.set 0 _ rfl).set 257 _ rfl
        rintro e w3 ⟨rfl, ⟨nv3, t3⟩, u3⟩
        have HT3 := hidden t3
        have HU3 := hidden u3
        have HS := hidden (HT3.out.store 2 (.int .i64 ((j : Int) + 1)) (j + 1) d 0 (.inl ⟨rfl, moved j, rfl, rfl⟩))
        obtain ⟨c1, c2, c3, c4, fr⟩ := HT3.out.c
        have f2 := fr 2
        clear c1 c3 c4 fr t3 u3 HPUT HT2 HU2
        go_wp2_with fail
        go_roundg fu
        case measure => omega
        case rel => exact ⟨fu, k + 1, j + 1, 0, nv3, by go_num, Nat.le_refl _, by omega, by omega, by omega, by omega, by omega, HS.out.1, HU3.out.trans (HS.out.2.wider (Nat.le_refl _) (by simp) (by simp)), ⟨fun _ => ⟨by omega, by omega, _, HEE.out⟩, fun h => absurd rfl h⟩⟩
      · have HEE := hidden (HE.out (.quest t) rfl)
        clear HE
        go_wp2_with fail
        refine (HPUT.out _ ?_).mono ?_
        · exact (oneN0.set 0 _ rfl).set 257 _ rfl
        rintro e w3 ⟨rfl, ⟨nv3, t3⟩, u3⟩
        have HT3 := hidden t3
        have HU3 := hidden u3
        have HS := hidden (HT3.out.store 2 (.int .i64 ((j : Int) + 1)) (j + 1) d 0 (.inl ⟨rfl, moved j, rfl, rfl⟩))
        obtain ⟨c1, c2, c3, c4, fr⟩ := HT3.out.c
        have f2 := fr 2
        clear c1 c3 c4 fr t3 u3 HPUT HT2 HU2
        go_wp2_with fail
        go_roundg fu
        case measure => omega
        case rel => exact ⟨fu, k + 1, j + 1, 0, nv3, by go_num, Nat.le_refl _, by omega, by omega, by omega, by omega, by omega, HS.out.1, HU3.out.trans (HS.out.2.wider (Nat.le_refl _) (by simp) (by simp)), ⟨fun _ => ⟨by omega, by omega, _, HEE.out⟩, fun h => absurd rfl h⟩⟩
    · obtain ⟨nb, hnb⟩ : ∃ nb, nextB s j f = nb := ⟨_, rfl⟩
      have hnn : nb ≠ 42 ∧ nb ≠ 43 ∧ nb ≠ 63 := by
        rw [← hnb]
        by_cases h0 : f = 0 ∧ j < s.size
        · obtain ⟨rfl, h1⟩ := h0
          rw [nextB_ok h1, HL.out]
          omega
        · rw [nextB_end (by omega)]
          omega
      have n42 : (nb == 42) = false := by simp; omega
      have n43 : (nb == 43) = false := by simp; omega
      have n63 : (nb == 63) = false := by simp; omega
      rw [hnb]
      have HRES := hidden (show Res 0 RR (fun _ j' => j = j' ∧ j' ≤ s.size) f from by
        by_cases h0 : f = 0
        · subst h0
          obtain ⟨e1, e2, t, e3⟩ := hE.out.1 rfl
          obtain ⟨fu, rfl⟩ : ∃ fu', fu = fu' + 1 := ⟨fu - 1, by omega⟩
          have : signsP l (fu + 1) j t = (t, j) := signs_end fun hj => by
            have hb := hsg
            unfold signP
            rw [if_neg (fun h => hb ⟨rfl, by omega, .inl h⟩), if_neg (fun h => hb ⟨rfl, by omega, .inr (.inl h)⟩), if_neg (fun h => hb ⟨rfl, by omega, .inr (.inr h)⟩)]
          rw [e3, this]
          exact Res.of_ok ⟨rfl, e1⟩
        · rw [hE.out.2 h0]
          exact Res.of_bad h0)
      clear hnb hsg hnn hE
      go_wp2_with fail
      go_ret
      exact ⟨nv', k, j, f, rfl, HT2.out, HU2.out, hnk, hk2, by omega, hj, hf, HRES.out⟩
set_option maxHeartbeats 6400000 in
set_option maxHeartbeats 6400000 in
set_option maxHeartbeats 6400000 in
/-- one branch -/
theorem rbranch_any (m : Nat) (hm : ∀ k, m = k + 1 → RBrsOk k) (base T : Nat) (nv : Value) (s : ByteArray) (n i d : Nat) (w : World) (h : TrV w base T nv s n i d 0) (hd : d + m = 16) (hs : s.size ≤ 64) (hi : i ≤ s.size) (hn : n ≤ 3 * i + 1) :
    Calls Tryz.prog 178 #[.pointer (some ⟨T, 0, none⟩)] w (NumAns base T s n i d m 0 (branchP s.data.toList m (decide (m = 16)) (subP s.data.toList m) i) w) := by
  have HP := hidden (fun (nv : Value) (n i : Nat) (w : World) (h : TrV w base T nv s n i d 0) (hi : i < s.size) (hn : n ≤ 3 * i + 1) => rpiece_any m hm base T nv s n i d w h hd hs hi hn)
  obtain ⟨l, hl⟩ : ∃ l, s.data.toList = l := ⟨_, rfl⟩
  have hsl : l.length = s.size := by rw [← hl]; rfl
  rw [hl] at HP
  rw [hl]
  obtain ⟨RR, hRR⟩ : ∃ RR, branchP l m (decide (m = 16)) (subP l m) i = RR := ⟨_, rfl⟩
  rw [hRR]
  have HL := hidden hl
  have HRR := hidden (show branchL l m (decide (m = 16)) (subP l m) (s.size + 1) i none = RR from by rw [← hRR, branchP, hsl])
  have HT0 := hidden h
  clear hl h hRR hm
  go_enter Tryz.func178, Tryz.ntmps178
  go_wp2_with fail
  go_loopg [3] (s.size + 1) (fun gk va wr => ∃ (fu cnt j f : Nat) (nv' : Value), ((va = .int .i64 (-1) ∧ cnt = n ∧ j = i ∧ f = 0) ∨ ∃ k : Nat, va = .int .i64 (k : Int) ∧ cnt = k + 1 ∧ n ≤ k ∧ k ≤ n + 2 * (j - i) ∧ i < j) ∧ fu ≤ gk ∧ i ≤ j ∧ j ≤ s.size + 1 + m ∧ f ≤ 1000 ∧ Hid (TrV wr base T nv' s cnt j d f) ∧ Hid (TT base w wr) ∧ Hid ((f = 0 → j ≤ s.size ∧ s.size < j + fu ∧ ∃ o : Option Tr, branchL l m (decide (m = 16)) (subP l m) fu j o = RR) ∧ (f ≠ 0 → RR = .bad f)))
  case atStart => exact ⟨s.size + 1, n, i, 0, nv, .inl ⟨rfl, rfl, rfl, rfl⟩, Nat.le_refl _, Nat.le_refl _, by omega, by omega, HT0.out, Turn.refl _ _ _ _, ⟨fun _ => ⟨hi, by omega, none, HRR.out⟩, fun h => absurd rfl h⟩⟩
  case round =>
    obtain ⟨fu, cnt, j, f, nv', hq, hfk, hij, hj, hf, ht, hu, hE⟩ := hrel
    clear HT0 HRR
    have S2 := hidden (rnext_any base T nv' s cnt j d f wr ht.out hs (by omega) hf)
    go_wp2_with fail
    refine S2.out.mono ?_
    rintro e w2 ⟨rfl, q2, rfl⟩
    have HT2 := hidden (ht.out.drewN q2)
    have HU2 := hidden (hu.out.trans (Turn.of_below (below_drewN (Below.refl wr.heap.size wr) q2) base [282, 286] false))
    generalize wr.drewN q2 = wX at *
    clear S2 ht hu
    by_cases hend : f ≠ 0 ∨ s.size ≤ j
    · rw [nextB_end hend]
      have HRES := hidden (show Res 0 RR (fun _ j' => j = j' ∧ j' ≤ s.size) f from by
        by_cases h0 : f = 0
        · subst h0
          obtain ⟨e1, e2, o, e3⟩ := hE.out.1 rfl
          obtain ⟨fu, rfl⟩ : ∃ fu', fu = fu' + 1 := ⟨fu - 1, by omega⟩
          rw [← e3, branch_end (by omega) (by omega)]
          exact Res.of_ok ⟨rfl, e1⟩
        · rw [hE.out.2 h0]
          exact Res.of_bad h0)
      clear hE hend HP
      have HTX := HT2
      have HUX := HU2
      clear HT2 HU2
      rcases hq with ⟨rfl, rfl, rfl, hf0⟩ | ⟨k, rfl, rfl, hnk, hk2, hik⟩
      · have HPUT := hidden (fun (cs : Array Value) (hc : OneN cs) => rput_one base T nv' s cnt j d f cs hc w wX HTX.out HUX.out (by omega))
        clear HTX HUX
        go_wp2_with fail
        refine (HPUT.out _ oneN0).mono ?_
        rintro e w3 ⟨rfl, ⟨nv3, t3⟩, u3⟩
        have HT3 := hidden t3
        have HU3 := hidden u3
        clear HPUT t3 u3
        go_wp2_with fail
        go_ret
        exact ⟨nv3, cnt, j, f, rfl, HT3.out, HU3.out, Nat.le_refl _, by omega, Nat.le_refl _, by omega, by omega, HRES.out⟩
      · have hk0 : ¬ (k : Int) < 0 := by omega
        go_wp2_with fail
        go_ret
        exact ⟨nv', k, j, f, rfl, HTX.out, HUX.out, hnk, by omega, by omega, by omega, by omega, HRES.out⟩
    · have h0 : f = 0 := by omega
      subst h0
      have hjs : j < s.size := by omega
      rw [nextB_ok hjs, HL.out]
      obtain ⟨e1, e2, o, e3⟩ := hE.out.1 rfl
      obtain ⟨fu, rfl⟩ : ∃ fu', fu = fu' + 1 := ⟨fu - 1, by omega⟩
      clear hE hend
      obtain ⟨b, hb⟩ : ∃ b, byteN l j = b := ⟨_, rfl⟩
      rw [hb]
      by_cases h41 : b = 41
      · subst h41
        by_cases hd0 : d = 0
        · have HSF := hidden (rfail_any base T nv' s cnt j d 0 62 wX HT2.out)
          have HRES := hidden (show Res 0 RR (fun _ j' => j = j' ∧ j' ≤ s.size) 62 from by
            rw [← e3, show decide (m = 16) = true from decide_eq_true (by omega), branch_close ⟨by omega, hb⟩]
            exact Res.of_bad (by omega))
          have c3 := HT2.out.blk.cell 3
          have hd1 : ((d : Int) == 0) = true := by simpa using hd0
          have hd2 : (d == 0) = true := by simpa using hd0
          clear e3 hb HP
          have HD0 := hidden hd0
          clear hd0
          go_wp2_with fail
          refine HSF.out.mono ?_
          rintro e w4 ⟨rfl, t4, u4⟩
          have HTX := hidden t4
          have HUX := hidden (HU2.out.trans (u4.wider (Nat.le_refl _) (by simp) (by simp)))
          clear HSF HT2 HU2 t4 u4 c3
          change Hid (TrV w4 base T nv' s cnt j d 62) at HTX
          generalize w4 = wX at *
          rcases hq with ⟨rfl, rfl, rfl, hf0⟩ | ⟨k, rfl, rfl, hnk, hk2, hik⟩
          · have HPUT := hidden (fun (cs : Array Value) (hc : OneN cs) => rput_one base T nv' s cnt j d 62 cs hc w wX HTX.out HUX.out (by omega))
            clear HTX HUX
            go_wp2_with fail
            refine (HPUT.out _ oneN0).mono ?_
            rintro e w3 ⟨rfl, ⟨nv3, t3⟩, u3⟩
            have HT3 := hidden t3
            have HU3 := hidden u3
            clear HPUT t3 u3
            go_wp2_with fail
            go_ret
            exact ⟨nv3, cnt, j, 62, rfl, HT3.out, HU3.out, Nat.le_refl _, by omega, Nat.le_refl _, by omega, by omega, HRES.out⟩
          · have hk0 : ¬ (k : Int) < 0 := by omega
            go_wp2_with fail
            go_ret
            exact ⟨nv', k, j, 62, rfl, HTX.out, HUX.out, hnk, by omega, by omega, by omega, by omega, HRES.out⟩
        · have HRES := hidden (show Res 0 RR (fun _ j' => j = j' ∧ j' ≤ s.size) 0 from by
            rw [← e3, show decide (m = 16) = false from decide_eq_false (by omega), branch_end (by simp) (by rw [hb]; omega)]
            exact Res.of_ok ⟨rfl, e1⟩)
          have c3 := HT2.out.blk.cell 3
          have hd1 : ((d : Int) == 0) = false := by simpa using hd0
          have hd2 : (d == 0) = false := by simpa using hd0
          clear e3 hb HP
          have HTX := HT2
          have HUX := HU2
          clear HT2 HU2
          have HD0 := hidden hd0
          clear hd0
          rcases hq with ⟨rfl, rfl, rfl, hf0⟩ | ⟨k, rfl, rfl, hnk, hk2, hik⟩
          · have HPUT := hidden (fun (cs : Array Value) (hc : OneN cs) => rput_one base T nv' s cnt j d 0 cs hc w wX HTX.out HUX.out (by omega))
            clear HTX HUX
            go_wp2_with fail
            refine (HPUT.out _ oneN0).mono ?_
            rintro e w3 ⟨rfl, ⟨nv3, t3⟩, u3⟩
            have HT3 := hidden t3
            have HU3 := hidden u3
            clear HPUT t3 u3
            go_wp2_with fail
            go_ret
            exact ⟨nv3, cnt, j, 0, rfl, HT3.out, HU3.out, Nat.le_refl _, by omega, Nat.le_refl _, by omega, by omega, HRES.out⟩
          · have hk0 : ¬ (k : Int) < 0 := by omega
            go_wp2_with fail
            go_ret
            exact ⟨nv', k, j, 0, rfl, HTX.out, HUX.out, hnk, by omega, by omega, by omega, by omega, HRES.out⟩
      · by_cases h124 : b = 124
        · subst h124
          have HRES := hidden (show Res 0 RR (fun _ j' => j = j' ∧ j' ≤ s.size) 0 from by
            rw [← e3, branch_end (by rw [hb]; omega) (by rw [hb]; omega)]
            exact Res.of_ok ⟨rfl, e1⟩)
          clear e3 hb HP
          have HTX := HT2
          have HUX := HU2
          clear HT2 HU2
          rcases hq with ⟨rfl, rfl, rfl, hf0⟩ | ⟨k, rfl, rfl, hnk, hk2, hik⟩
          · have HPUT := hidden (fun (cs : Array Value) (hc : OneN cs) => rput_one base T nv' s cnt j d 0 cs hc w wX HTX.out HUX.out (by omega))
            clear HTX HUX
            go_wp2_with fail
            refine (HPUT.out _ oneN0).mono ?_
            rintro e w3 ⟨rfl, ⟨nv3, t3⟩, u3⟩
            have HT3 := hidden t3
            have HU3 := hidden u3
            clear HPUT t3 u3
            go_wp2_with fail
            go_ret
            exact ⟨nv3, cnt, j, 0, rfl, HT3.out, HU3.out, Nat.le_refl _, by omega, Nat.le_refl _, by omega, by omega, HRES.out⟩
          · have hk0 : ¬ (k : Int) < 0 := by omega
            go_wp2_with fail
            go_ret
            exact ⟨nv', k, j, 0, rfl, HTX.out, HUX.out, hnk, by omega, by omega, by omega, by omega, HRES.out⟩
        · have b0 : ¬ (b : Int) < 0 := by omega
          have b1 : ((b : Int) == 124) = false := by simp; omega
          have b2 : ((b : Int) == 41) = false := by simp; omega
          have hcb : cnt ≤ 3 * j + 1 := by rcases hq with ⟨_, h1, h2, _⟩ | ⟨k, _, h1, h2, h3, h4⟩ <;> omega
          have SP := hidden (HP.out nv' cnt j wX HT2.out hjs hcb)
          have HE3 := hidden e3
          have HB := hidden (show j < l.length ∧ byteN l j ≠ 124 ∧ byteN l j ≠ 41 from ⟨by omega, by rw [hb]; exact h124, by rw [hb]; exact h41⟩)
          clear e3 hb HP h41 h124
          go_wp2_with fail
          refine SP.out.mono ?_
          rintro e w3 ⟨nv3, k3, j3, f3, rfl, t3, u3, hk3, hk3', hj3, hj3', hf3, r3⟩
          have HT3 := hidden t3
          have HU3 := hidden (HU2.out.trans u3)
          have HE := hidden (show (f3 = 0 → j3 ≤ s.size ∧ s.size < j3 + fu ∧ ∃ o : Option Tr, branchL l m (decide (m = 16)) (subP l m) fu j3 o = RR) ∧ (f3 ≠ 0 → RR = .bad f3) from by
            rcases r3.2 rfl with ⟨t, jj, a1, ⟨rfl, a2⟩, rfl⟩ | ⟨e, a1, rfl, a3⟩
            · exact ⟨fun _ => ⟨a2, by omega, _, by rw [← HE3.out, branch_ok HB.out a1]⟩, fun h => absurd rfl h⟩
            · exact ⟨fun h => absurd h a3, fun _ => by rw [← HE3.out, branch_bad HB.out a1]⟩)
          clear SP HT2 HU2 t3 u3 r3 HE3 HB
          rcases hq with ⟨rfl, rfl, rfl, hf0⟩ | ⟨k, rfl, rfl, hnk, hk2, hik⟩
          · go_wp2_with fail
            go_roundg fu
            case measure => omega
            case rel => exact ⟨fu, k3 + 1, j3, f3, nv3, .inr ⟨k3, rfl, rfl, by omega, by omega, by omega⟩, Nat.le_refl _, by omega, by omega, by omega, HT3.out, HU3.out, HE.out⟩
          · have hk0 : ¬ (k : Int) < 0 := by omega
            have HPUT := hidden (fun (cs : Array Value) (hc : OneN cs) => rput_one base T nv3 s (k3 + 1) j3 d f3 cs hc w w3 HT3.out HU3.out (by omega))
            clear HT3 HU3
            go_wp2_with fail
            refine (HPUT.out _ ?_).mono ?_
            · exact ((oneN0.set 0 _ rfl).set 257 _ rfl).set 258 _ rfl
            rintro e w4 ⟨rfl, ⟨nv4, t4⟩, u4⟩
            have HT4 := hidden t4
            have HU4 := hidden u4
            clear HPUT t4 u4
            go_wp2_with fail
            go_roundg fu
            case measure => omega
            case rel => exact ⟨fu, k3 + 1 + 1, j3, f3, nv4, .inr ⟨k3 + 1, by go_num, rfl, by omega, by omega, by omega⟩, Nat.le_refl _, by omega, by omega, by omega, HT4.out, HU4.out, HE.out⟩
set_option maxHeartbeats 6400000 in
/-- branches, one beside another -/
theorem rbranches_any (m : Nat) (hm : ∀ k, m = k + 1 → RBrsOk k) : RBrsOk m := by
  intro base T nv s n i d w h hd hs hi hn
  have HB := hidden (fun (nv : Value) (n i : Nat) (w : World) (h : TrV w base T nv s n i d 0) (hi : i ≤ s.size) (hn : n ≤ 3 * i + 1) => rbranch_any m hm base T nv s n i d w h hd hs hi hn)
  obtain ⟨l, hl⟩ : ∃ l, s.data.toList = l := ⟨_, rfl⟩
  have hsl : l.length = s.size := by rw [← hl]; rfl
  rw [hl] at HB
  rw [hl, depth_is]
  obtain ⟨RR, hRR⟩ : ∃ RR, branchesP l m (decide (m = 16)) (subP l m) i = RR := ⟨_, rfl⟩
  rw [hRR]
  have HL := hidden hl
  have HRR := hidden hRR
  have S1 := hidden (HB.out nv n i w h hi hn)
  clear hl h hRR hm
  go_enter Tryz.func147, Tryz.ntmps147
  go_wp2_with fail
  refine S1.out.mono ?_
  rintro e w1 ⟨nv1, k1, i1, f1, rfl, t1, u1, hk1, hk1', hi1, hi1', hf1, r1⟩
  have HT1 := hidden t1
  have HU1 := hidden u1
  have HE1 := hidden (show (f1 = 0 → i1 ≤ s.size ∧ ∃ t, branchesL l m (decide (m = 16)) (subP l m) (s.size + 1) i1 t = RR) ∧ (f1 ≠ 0 → RR = .bad f1) from by
    rw [← HRR.out]
    rcases r1.2 rfl with ⟨t, j, e1, ⟨rfl, e2⟩, rfl⟩ | ⟨e, e1, rfl, e3⟩
    · exact ⟨fun _ => ⟨e2, t, by rw [branchesP, e1, hsl]⟩, fun h => absurd rfl h⟩
    · exact ⟨fun h => absurd h e3, fun _ => by rw [branchesP, e1]⟩)
  clear S1 t1 u1 r1 HRR
  go_wp2_with fail
  go_loopg [3] (s.size + 1) (fun gk va wr => ∃ (fu k j f : Nat) (nv' : Value), va = .int .i64 (k : Int) ∧ fu ≤ gk ∧ i ≤ j ∧ n ≤ k ∧ k ≤ n + 2 * (j - i) ∧ j ≤ s.size + 1 + m ∧ f ≤ 1000 ∧ Hid (TrV wr base T nv' s (k + 1) j d f) ∧ Hid (TT base w wr) ∧ Hid ((f = 0 → j ≤ s.size ∧ s.size < j + fu ∧ ∃ t, branchesL l m (decide (m = 16)) (subP l m) fu j t = RR) ∧ (f ≠ 0 → RR = .bad f)))
  case atStart => exact ⟨s.size + 1, k1, i1, f1, nv1, rfl, Nat.le_refl _, by omega, hk1, by omega, hi1', hf1, HT1, HU1, ⟨fun h => ⟨(HE1.out.1 h).1, by omega, (HE1.out.1 h).2⟩, HE1.out.2⟩⟩
  case round =>
    obtain ⟨fu, k, j, f, nv', rfl, hfk, hij, hnk, hk2, hj, hf, ht, hu, hE⟩ := hrel
    clear HT1 HU1 HE1 hk1 hk1' hi1 hi1' hf1
    have S2 := hidden (rnext_any base T nv' s (k + 1) j d f wr ht.out hs (by omega) hf)
    go_wp2_with fail
    refine S2.out.mono ?_
    rintro e w2 ⟨rfl, q2, rfl⟩
    have HT2 := hidden (ht.out.drewN q2)
    have HU2 := hidden (hu.out.trans (Turn.of_below (below_drewN (Below.refl wr.heap.size wr) q2) base [282, 286] false))
    generalize wr.drewN q2 = w2 at *
    clear S2 ht hu
    by_cases hsg : f = 0 ∧ j < s.size ∧ byteN l j = 124
    · obtain ⟨rfl, hjs, hsg⟩ := hsg
      rw [nextB_ok hjs, HL.out, hsg]
      obtain ⟨e1, e2, t, e3⟩ := hE.out.1 rfl
      obtain ⟨fu, rfl⟩ : ∃ fu', fu = fu' + 1 := ⟨fu - 1, by omega⟩
      have HE3 := hidden e3
      have HC := hidden (show j < l.length ∧ byteN l j = 124 from ⟨by omega, hsg⟩)
      have fwj : IntKind.i64.wrap ((j : Int) + 1) = (j : Int) + 1 := Go.IntWalk.i64_in _ (by omega)
      have HS := hidden (HT2.out.store 2 (.int .i64 ((j : Int) + 1)) (j + 1) d 0 (.inl ⟨rfl, moved j, rfl, rfl⟩))
      have SP := hidden (HB.out nv' (k + 1) (j + 1) _ HS.out.1 (by omega) (by omega))
      obtain ⟨c1, c2, c3, c4, fr⟩ := HT2.out.c
      have f2 := fr 2
      clear c1 c3 c4 fr e3 hE hsg
      go_wp2_with fail
      refine SP.out.mono ?_
      rintro e w3 ⟨nv3, k3, j3, f3, rfl, t3, u3, hk3, hk3', hj3, hj3', hf3, r3⟩
      have HU3 := hidden ((HU2.out.trans (HS.out.2.wider (Nat.le_refl _) (by simp) (by simp))).trans u3)
      have HPUT := hidden (fun (cs : Array Value) (hc : OneN cs) => rput_one base T nv3 s (k3 + 1) j3 d f3 cs hc w w3 t3 HU3.out (by omega))
      have HE := hidden (show (f3 = 0 → j3 ≤ s.size ∧ s.size < j3 + fu ∧ ∃ t, branchesL l m (decide (m = 16)) (subP l m) fu j3 t = RR) ∧ (f3 ≠ 0 → RR = .bad f3) from by
        rcases r3.2 rfl with ⟨t', jj, a1, ⟨rfl, a2⟩, rfl⟩ | ⟨e, a1, rfl, a3⟩
        · exact ⟨fun _ => ⟨a2, by omega, _, by rw [← HE3.out, branches_ok HC.out a1]⟩, fun h => absurd rfl h⟩
        · exact ⟨fun h => absurd h a3, fun _ => by rw [← HE3.out, branches_bad HC.out a1]⟩)
      clear SP HT2 HU2 HS t3 u3 r3 HE3 HC c2 f2 HU3
      go_wp2_with fail
      refine (HPUT.out _ ?_).mono ?_
      · exact ((oneN0.set 0 _ rfl).set 257 _ rfl).set 258 _ rfl
      rintro e w4 ⟨rfl, ⟨nv4, t4⟩, u4⟩
      have HT4 := hidden t4
      have HU4 := hidden u4
      clear HPUT t4 u4
      go_wp2_with fail
      go_roundg fu
      case measure => omega
      case rel => exact ⟨fu, k3 + 1, j3, f3, nv4, by go_num, Nat.le_refl _, by omega, by omega, by omega, by omega, by omega, HT4.out, HU4.out, HE.out⟩
    · obtain ⟨nb, hnb⟩ : ∃ nb, nextB s j f = nb := ⟨_, rfl⟩
      have hnn : nb ≠ 124 := by
        rw [← hnb]
        by_cases h0 : f = 0 ∧ j < s.size
        · obtain ⟨rfl, h1⟩ := h0
          rw [nextB_ok h1, HL.out]
          omega
        · rw [nextB_end (by omega)]
          omega
      have n124 : (nb == 124) = false := by simp; omega
      rw [hnb]
      have HRES := hidden (show Res 0 RR (fun _ j' => j = j' ∧ j' ≤ s.size) f from by
        by_cases h0 : f = 0
        · subst h0
          obtain ⟨e1, e2, t, e3⟩ := hE.out.1 rfl
          obtain ⟨fu, rfl⟩ : ∃ fu', fu = fu' + 1 := ⟨fu - 1, by omega⟩
          rw [← e3, branches_end (by omega)]
          exact Res.of_ok ⟨rfl, e1⟩
        · rw [hE.out.2 h0]
          exact Res.of_bad h0)
      clear hnb hsg hnn hE
      go_wp2_with fail
      go_ret
      exact ⟨nv', k, j, f, rfl, HT2.out, HU2.out, hnk, by omega, hij, hj, hf, HRES.out⟩
theorem rbrs_all : ∀ m, RBrsOk m
  | 0 => rbranches_any 0 fun k h => by omega
  | m + 1 => rbranches_any (m + 1) fun k h => by
    obtain rfl : m = k := by omega
    exact rbrs_all m
end Go.Proofs.YthncochjhbmceaaGreat
