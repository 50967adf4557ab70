/- The pattern's reader: node and atom, walked. Condition: the pattern is no longer than memory. -/
import Derived.Test.YthncochjhbmceaaGreatPkcf5fb110
namespace Go.Proofs.YthncochjhbmceaaGreat
set_option maxRecDepth 100000
open Go.RowKit

theorem node_any (k : Int) (A : Option Addr) (n c : Nat) (w : World) : Calls Tryz.prog 175 #[.int .i64 k, .slice A n c] w fun e w' => ∃ p, e = .returned (.pointer (some ⟨p, 0, none⟩)) ∧ p = w.heap.size ∧ NodeAt w' p k .zero (.slice A n c) ∧ Below w.heap.size w w' := by
  go_enter Tryz.func175, Tryz.ntmps175
  go_wp2_with fail
  go_ret
  exact ⟨_, rfl, rfl, Whole1.new w _ _, (Below.refl _ _).alloc (Nat.le_refl _) _⟩
/-- it leaves by a panic, or it answers a tree and the reader stands behind it -/
def YieldT (r : Nat) (S : ByteArray) (d lo : Nat) (w : World) (res : PR Tr) (e : Ending) (w' : World) : Prop :=
  Kr r w w' ∧ match res with
  | .bad c => Bad c e
  | .ok t j => ∃ p, e = .returned (.pointer (some ⟨p, 0, none⟩)) ∧ Rd w' r S j d ∧ IsTr w' p t ∧ lo ≤ j
/-- nodes are no reader's -/
theorem nodes_kr {w w' : World} {r i d : Nat} {S : ByteArray} (h : Rd w r S i d) (k : Kr r w w') : NodesOn w w' := fun g t cs ht hw => by
  refine (k.block g hw.lt fun e => ?_).trans hw
  subst e
  have := (show w.heap[g]? = some (.cells cs t (0, 0)) from hw).symm.trans h.blk
  simp only [Option.some.injEq, Obj.cells.injEq] at this
  rcases ht with rfl | rfl <;> exact absurd this.2.1 (by decide)
theorem rd_off {w : World} {r i d g : Nat} {S : ByteArray} (h : Rd w r S i d) {k : Int} {B : BS} {v : Value} (hn : NodeAt w g k B v) : g ≠ r := fun e => by
  subst e
  have := (show w.heap[g]? = some (.cells _ _ (0, 0)) from hn).symm.trans h.blk
  simp only [Option.some.injEq, Obj.cells.injEq] at this
  exact absurd this.2.1 (by decide)
/-- what reads the insides of brackets -/
def subP (s : List UInt8) : Nat → Nat → PR Tr
  | 0 => fun _ => .bad 63
  | m + 1 => depthP s m
theorem depth_is (s : List UInt8) (m i : Nat) : depthP s m i = branchesP s m (decide (m = 16)) (subP s m) i := by
  cases m <;> rfl
/-- the calls of branches at this depth -/
def BrsOk (s : List UInt8) (m : Nat) : Prop := ∀ (r i d : Nat) (S : ByteArray) (w : World), S.data.toList = s → d + m = 16 → Rd w r S i d →
  Calls Tryz.prog 143 #[.pointer (some ⟨r, 0, none⟩)] w (YieldT r S d i w (depthP s m i))
theorem atom_sign {s : List UInt8} {m i : Nat} {sub : Nat → PR Tr} (h : byteN s i = 42 ∨ byteN s i = 43 ∨ byteN s i = 63) : atomP s m sub i = .bad 64 := by
  unfold atomP; simp only; rw [if_pos h]
theorem atom_deep {s : List UInt8} {i : Nat} {sub : Nat → PR Tr} (h : byteN s i = 40) : atomP s 0 sub i = .bad 66 := by
  unfold atomP; simp [h]
theorem atom_open_bad {s : List UInt8} {m i e : Nat} {sub : Nat → PR Tr} (h : byteN s i = 40) (hm : m ≠ 0) (hs : sub (i + 1) = .bad e) : atomP s m sub i = .bad e := by
  unfold atomP; simp [h, hm, hs]
theorem atom_open_ok {s : List UInt8} {m i j : Nat} {t : Tr} {sub : Nat → PR Tr} (h : byteN s i = 40) (hm : m ≠ 0) (hs : sub (i + 1) = .ok t j) : atomP s m sub i = if j < s.length then .ok t (j + 1) else .bad 61 := by
  unfold atomP; simp [h, hm, hs]
theorem atom_class_bad {s : List UInt8} {m i e : Nat} {sub : Nat → PR Tr} (h : byteN s i = 91) (hc : classP s (i + 1) = .bad e) : atomP s m sub i = .bad e := by
  unfold atomP; simp [h, hc]
theorem atom_class_ok {s : List UInt8} {m i j : Nat} {B : BS} {sub : Nat → PR Tr} (h : byteN s i = 91) (hc : classP s (i + 1) = .ok B j) : atomP s m sub i = .ok B.tr j := by
  unfold atomP; simp [h, hc]
theorem atom_dot {s : List UInt8} {m i : Nat} {sub : Nat → PR Tr} (h : byteN s i = 46) : atomP s m sub i = .ok (BS.zero.put 0 255).tr (i + 1) := by
  unfold atomP; simp [h]
theorem atom_esc_bad {s : List UInt8} {m i e : Nat} {sub : Nat → PR Tr} (h : byteN s i = 92) (hc : escP s (i + 1) = .bad e) : atomP s m sub i = .bad e := by
  unfold atomP; simp [h, hc]
theorem atom_esc_ok {s : List UInt8} {m i x j : Nat} {sub : Nat → PR Tr} (h : byteN s i = 92) (hc : escP s (i + 1) = .ok x j) : atomP s m sub i = .ok (BS.zero.put x x).tr j := by
  unfold atomP; simp [h, hc]
theorem atom_else {s : List UInt8} {m i : Nat} {sub : Nat → PR Tr} (h1 : ¬ (byteN s i = 42 ∨ byteN s i = 43 ∨ byteN s i = 63)) (h2 : byteN s i ≠ 40) (h3 : byteN s i ≠ 91) (h4 : byteN s i ≠ 46) (h5 : byteN s i ≠ 92) : atomP s m sub i = .ok (BS.zero.put (byteN s i) (byteN s i)).tr (i + 1) := by
  unfold atomP; simp only; rw [if_neg h1, if_neg h2, if_neg h3, if_neg h4, if_neg h5]
theorem item_next {s : List UInt8} {i j : Nat} {a : Nat × Nat} (h : itemP s i = .ok a j) : i < j := by
  unfold itemP at h
  split at h
  · cases h
  · rename_i lo k hl
    have h1 := let_next hl
    split at h
    · split at h
      · cases h
      · rename_i hi k2 hl2
        have h2 := let_next hl2
        cases h
        omega
    · cases h
      omega
theorem items_next {s : List UInt8} : ∀ (f i : Nat) (S : BS) (n : Nat) (fl : Bool) {a : BS × Nat × Bool} {j : Nat}, itemsP s f i S n fl = .ok a j → i < j
  | 0, _, _, _, _, _, _, h => by cases h
  | f + 1, i, S, n, fl, a, j, h => by
    unfold itemsP at h
    split at h
    · cases h
      omega
    · split at h
      · cases h
      · rename_i lo hi k hit
        have h1 := item_next hit
        have h2 := items_next f _ _ _ _ h
        omega
theorem class_next {s : List UInt8} {i j : Nat} {B : BS} (h : classP s i = .ok B j) : i ≤ j := by
  rw [class_end] at h
  cases hI : itemsP s (s.length + 1) (if decide (i < s.length ∧ byteN s i = 94) then i + 1 else i) .zero 0 false with
  | bad e => rw [hI] at h; cases h
  | ok a k =>
    have h1 := items_next _ _ _ _ _ hI
    rw [hI] at h
    obtain ⟨S, n, fl⟩ := a
    unfold endC at h
    simp only at h
    by_cases hc : n = 0 ∨ fl = true ∨ (if decide (i < s.length ∧ byteN s i = 94) then S.not else S).isZero = true
    · rw [if_pos hc] at h; cases h
    · rw [if_neg hc] at h
      simp only [PR.ok.injEq] at h
      split at h1 <;> omega

set_option maxHeartbeats 6400000 in
theorem atom_any (s : List UInt8) (m r i d : Nat) (S : ByteArray) (w : World) (hsub : ∀ m', m = m' + 1 → BrsOk s m') (hs : S.data.toList = s) (hdm : d + m = 16) (h : Rd w r S i d) (hi : i < S.size) :
    Calls Tryz.prog 213 #[.pointer (some ⟨r, 0, none⟩)] w (YieldT r S d (i + 1) w (atomP s m (subP s m) i)) := by
  have hsl : s.length = S.size := by rw [← hs]; rfl
  have HS := hidden hs
  have H := hidden h
  obtain ⟨c0, c1, c2, _⟩ := h.cells
  have i0 : (0 : Int) ≤ (i : Int) := by omega
  have i1 : (i : Int) < (S.size : Int) := by omega
  have hb := byteN_at hi
  rw [hs] at hb
  obtain ⟨b, hbb⟩ : ∃ b, byteN s i = b := ⟨_, rfl⟩
  have hb' : (S[i]'hi).toNat = b := by rw [← hb, hbb]
  have hb256 : b < 256 := by rw [← hbb]; exact byteN_lt s i
  obtain ⟨RR, hRR⟩ : ∃ RR, atomP s m (subP s m) i = RR := ⟨_, rfl⟩
  rw [hRR]
  have HRR := hidden hRR
  have HBB := hidden hbb
  clear h hs hb hRR hbb
  go_enter Tryz.func213, Tryz.ntmps213
  go_wp2_with fail
  go_quiet (fail)
  go_wp2_with fail
  clear c0 c1 c2
  refine (node_any 1 none 0 0 _).mono ?_
  rintro e w1 ⟨o, rfl, ho, hn1, hb1⟩
  have hk1 : Kp (fun _ => False) w w1 := ((Kp.refl _ w).drewN nq).trans (Kp.of_below hb1 _)
  have h1 := H.out.keep hk1 id
  have hor := rd_off h1 hn1
  have hol : w.heap.size ≤ o := by rw [ho]; exact Nat.le_refl _
  have fw : IntKind.i64.wrap ((i : Int) + 1) = (i : Int) + 1 := Go.IntWalk.i64_in _ (by have := h1.fit; omega)
  obtain ⟨w2, hw2⟩ : ∃ w2, w1.setCell ⟨r, 1, none⟩ (.int .i64 ((i : Int) + 1)) = w2 := ⟨_, rfl⟩
  have hr2 : Rd w2 r S (i + 1) d := by
    have := h1.put1 (j := i + 1) (by omega)
    rw [show ((i + 1 : Nat) : Int) = (i : Int) + 1 by omega, hw2] at this
    exact this
  have hn2 : NodeAt w2 o 1 .zero (.slice none 0 0) := by
    have := Whole1.off hn1 (p := ⟨r, 1, none⟩) (fun e => hor e) (.int .i64 ((i : Int) + 1))
    rw [hw2] at this
    exact this
  have hk2 : Kr r w w2 := by
    have := Kr.put (i := 1) (hk1.wider (G := fun k => k = r) fun _ h => h.elim) (.int .i64 ((i : Int) + 1))
    rw [hw2] at this
    exact this
  obtain ⟨c0, c1, c2, f1, f2⟩ := h1.cells
  have HR2 := hidden hr2
  have HN2 := hidden hn2
  have HK2 := hidden hk2
  have HW2 := hidden hw2
  have HO := hidden (And.intro hol hor)
  -- what is left of a class at o is a tree
  have HPUT := hidden (show ∀ (lo : Nat) (w3 : World) (j : Nat) (B : BS), Rd w3 r S j d → Kp (fun k => k = r ∨ k = o) w2 w3 → NodeAt w3 o 1 B (.slice none 0 0) → B.fit → lo ≤ j → RR = .ok B.tr j → YieldT r S d lo w RR (.returned (.pointer (some ⟨o, 0, none⟩))) w3 from fun lo w3 j B hr hk hn hf hj he => by
    rw [he]
    refine ⟨⟨hk.os.trans HK2.out.os, hk.tape.trans HK2.out.tape, hk.output.trans HK2.out.output, Nat.le_trans HK2.out.size hk.size, fun g hg hne => ?_⟩, o, rfl, hr, ⟨_, hn, hf⟩, hj⟩
    refine (hk.block g (Nat.lt_of_lt_of_le hg HK2.out.size) fun h => h.elim hne fun e => ?_).trans (HK2.out.block g hg hne)
    have := HO.out.1
    omega)
  clear hn1 hb1 hk1 h1 ho hor hol hr2 hn2 hk2 hw2
  by_cases hsg : b = 42 ∨ b = 43 ∨ b = 63
  · have HF := hidden (show RR = .bad 64 from by rw [← HRR.out]; exact atom_sign (by rw [HBB.out]; exact hsg))
    rcases hsg with rfl | rfl | rfl
    all_goals (
      go_wp2_with fail
      rw [HW2.out, HF.out]
      exact ⟨rfl, HK2.out, rfl⟩)
  · have n42 : ((b : Int) == 42) = false := by simp; omega
    have n43 : ((b : Int) == 43) = false := by simp; omega
    have n63 : ((b : Int) == 63) = false := by simp; omega
    have HSG := hidden hsg
    by_cases h40 : b = 40
    · subst h40
      clear hsg n42 n43 n63
      cases m with
      | zero =>
        obtain rfl : d = 16 := by omega
        have HF := hidden (show RR = .bad 66 from by rw [← HRR.out]; exact atom_deep HBB.out)
        obtain ⟨e0, e1, e2, g1, g2⟩ := HR2.out.cells
        rw [← HW2.out] at e2
        go_wp2_with fail
        refine (must_no _ 66 _).mono ?_
        rintro e w5 ⟨hb, rfl⟩
        unfold Bad at hb
        subst hb
        go_wp2_with fail
        rw [HW2.out, HF.out]
        exact ⟨rfl, HK2.out, rfl⟩
      | succ m =>
        have hd16 : (d : Int) < 16 := by omega
        obtain ⟨w3, hw3⟩ : ∃ w3, w2.setCell ⟨r, 2, none⟩ (.int .i64 ((d : Int) + 1)) = w3 := ⟨_, rfl⟩
        have HR3 := hidden (show Rd w3 r S (i + 1) (d + 1) from by
          have := HR2.out.put2 (j := d + 1) (by omega)
          rw [show ((d + 1 : Nat) : Int) = (d : Int) + 1 by omega, hw3] at this
          exact this)
        have HK3 := hidden (show Kr r w w3 from hw3 ▸ Kr.put (i := 2) HK2.out _)
        have S1 := hidden (hsub m rfl r (i + 1) (d + 1) S w3 HS.out (by omega) HR3.out)
        have HW3 := hidden hw3
        obtain ⟨e0, e1, e2, g1, g2⟩ := HR2.out.cells
        have fwd : IntKind.i64.wrap ((d : Int) + 1) = (d : Int) + 1 := Go.IntWalk.i64_in _ (by omega)
        obtain ⟨SS, hSS⟩ : ∃ SS, depthP s m (i + 1) = SS := ⟨_, rfl⟩
        rw [hSS] at S1
        have HSS := hidden (show subP s (m + 1) (i + 1) = SS from hSS)
        have e2' := e2
        have g2' := g2
        rw [← HW2.out] at e2' g2'
        clear hSS hw3
        go_wp2_with (first | (go_at_call 194; refine (must_yes _ _ _).mono ?_; rintro e w5 ⟨rfl, rfl⟩))
        rw [HW2.out, HW3.out]
        refine S1.out.mono ?_
        rintro e w4 ⟨k4, hy⟩
        have HK4 := hidden (show Kr r w w4 from HK3.out.trans k4)
        cases SS with
        | bad c =>
          have hy : Bad c e := hy
          unfold Bad at hy
          subst hy
          have HF := hidden (show RR = .bad c from by rw [← HRR.out]; exact atom_open_bad HBB.out (by omega) HSS.out)
          go_wp2_with fail
          rw [HF.out]
          exact ⟨rfl, HK4.out, rfl⟩
        | ok t j =>
          obtain ⟨p, rfl, hr4, ht4, hj4⟩ := hy
          have HF := hidden (show (if j < s.length then PR.ok t (j + 1) else .bad 61) = RR from by rw [← HRR.out]; exact (atom_open_ok HBB.out (by omega) HSS.out).symm)
          have S2 := hidden (peek_any r j (d + 1) S w4 hr4)
          have HR4 := hidden hr4
          have HT4 := hidden ht4
          clear e0 e1 e2 e2' g1 g2 g2' S1 hr4 ht4 k4 fwd
          go_wp2_with fail
          refine S2.out.mono ?_
          rintro e w5 ⟨rfl, k5⟩
          have HR5 := hidden (HR4.out.keep k5 id)
          have HK5 := hidden (HK4.out.trans (k5.wider (G := fun k => k = r) fun _ h => h.elim))
          have HT5 := hidden (isTr_nodes (nodes_kr HR4.out (k5.wider (G := fun k => k = r) fun _ h => h.elim)) t p HT4.out)
          clear S2 k5
          by_cases hjl : j < S.size
          · rw [decide_eq_true hjl]
            have HF2 := hidden (show RR = .ok t (j + 1) from by rw [← HF.out, if_pos (by rw [hsl]; exact hjl)])
            obtain ⟨e0, e1, e2, g1, g2⟩ := HR5.out.cells
            have fwj : IntKind.i64.wrap ((j : Int) + 1) = (j : Int) + 1 := Go.IntWalk.i64_in _ (by have := HR5.out.fit; omega)
            obtain ⟨w6, hw6⟩ : ∃ w6, w5.setCell ⟨r, 1, none⟩ (.int .i64 ((j : Int) + 1)) = w6 := ⟨_, rfl⟩
            have HR6 := hidden (show Rd w6 r S (j + 1) (d + 1) from by
              have := HR5.out.put1 (j := j + 1) (by omega)
              rw [show ((j + 1 : Nat) : Int) = (j : Int) + 1 by omega, hw6] at this
              exact this)
            have HK6 := hidden (show Kr r w5 w6 from hw6 ▸ Kr.put (i := 1) (Kp.refl _ _) _)
            obtain ⟨w7, hw7⟩ : ∃ w7, w6.setCell ⟨r, 2, none⟩ (.int .i64 (d : Int)) = w7 := ⟨_, rfl⟩
            have HR7 := hidden (show Rd w7 r S (j + 1) d from hw7 ▸ HR6.out.put2 (j := d) (by omega))
            have HK7 := hidden (show Kr r w5 w7 from hw7 ▸ Kr.put (i := 2) HK6.out _)
            have e2' := HR6.out.cells.2.2.1
            have g2' := HR6.out.cells.2.2.2.2
            rw [← hw6] at e2' g2'
            rw [← hw6] at hw7
            have fwd : (((d + 1 : Nat) : Int) - 1) = (d : Int) := by omega
            have fwd2 : IntKind.i64.wrap (d : Int) = (d : Int) := Go.IntWalk.i64_in _ (by omega)
            have HW7 := hidden hw7
            clear hw6 hw7
            go_wp2_with (first | (go_at_call 194; refine (must_yes _ _ _).mono ?_; rintro e w8 ⟨rfl, rfl⟩))
            go_ret
            rw [HW7.out, HF2.out]
            exact ⟨HK5.out.trans HK7.out, p, rfl, HR7.out, isTr_nodes (nodes_kr HR5.out HK7.out) t p HT5.out, by omega⟩
          · rw [decide_eq_false hjl]
            have HF2 := hidden (show RR = .bad 61 from by rw [← HF.out, if_neg (by rw [hsl]; exact hjl)])
            go_wp2_with fail
            refine (must_no _ 61 _).mono ?_
            rintro e w6 ⟨hb, rfl⟩
            unfold Bad at hb
            subst hb
            go_wp2_with fail
            rw [HF2.out]
            exact ⟨rfl, HK5.out, rfl⟩
    · have n40 : ((b : Int) == 40) = false := by simp; omega
      by_cases h91 : b = 91
      · subst h91
        clear hsg n42 n43 n63 n40
        have S1 := hidden (class_any r o (i + 1) d S _ w2 HR2.out HN2.out HO.out.2)
        rw [HS.out] at S1
        obtain ⟨SS, hSS⟩ : ∃ SS, classP s (i + 1) = SS := ⟨_, rfl⟩
        rw [hSS] at S1
        have HSS := hidden hSS
        clear hSS
        go_wp2_with fail
        rw [HW2.out]
        refine S1.out.mono ?_
        rintro e w4 ⟨k4, hy⟩
        cases SS with
        | bad c =>
          have hy : Bad c e := hy
          unfold Bad at hy
          subst hy
          have HF := hidden (show RR = .bad c from by rw [← HRR.out]; exact atom_class_bad HBB.out HSS.out)
          have HK4 := hidden (show Kr r w w4 from ⟨k4.os.trans HK2.out.os, k4.tape.trans HK2.out.tape, k4.output.trans HK2.out.output, Nat.le_trans HK2.out.size k4.size, fun g hg hne => (k4.block g (Nat.lt_of_lt_of_le hg HK2.out.size) fun h => h.elim hne fun e => by have := HO.out.1; omega).trans (HK2.out.block g hg hne)⟩)
          go_wp2_with fail
          rw [HF.out]
          exact ⟨rfl, HK4.out, rfl⟩
        | ok B j =>
          obtain ⟨rfl, hr4, hn4, hf4⟩ := hy
          have HY := hidden (HPUT.out (i + 1) w4 j B hr4 k4 hn4 hf4 (class_next HSS.out) (by rw [← HRR.out]; exact atom_class_ok HBB.out HSS.out))
          go_wp2_with fail
          go_ret
          exact HY.out
      · have n91 : ((b : Int) == 91) = false := by simp; omega
        by_cases h46 : b = 46
        · subst h46
          clear hsg n42 n43 n63 n40 n91
          have S1 := hidden (put_any o 0 255 .zero _ w2 HN2.out BS.zero_fit (by decide) (by decide))
          go_wp2_with fail
          rw [HW2.out]
          refine S1.out.mono ?_
          rintro e w4 ⟨rfl, hn4, k4⟩
          have HY := hidden (HPUT.out (i + 1) w4 (i + 1) _ (HR2.out.keep k4 fun e => HO.out.2 e.symm) (k4.wider fun _ h => .inr h) hn4 (BS.put_fit BS.zero_fit 0 255) (Nat.le_refl _) (by rw [← HRR.out]; exact atom_dot HBB.out))
          go_wp2_with fail
          go_ret
          exact HY.out
        · have n46 : ((b : Int) == 46) = false := by simp; omega
          by_cases h92 : b = 92
          · subst h92
            clear hsg n42 n43 n63 n40 n91 n46
            have S1 := hidden (escaped_any r (i + 1) d S w2 HR2.out)
            rw [HS.out] at S1
            obtain ⟨SS, hSS⟩ : ∃ SS, escP s (i + 1) = SS := ⟨_, rfl⟩
            rw [hSS] at S1
            have HSS := hidden hSS
            clear hSS
            go_wp2_with fail
            rw [HW2.out]
            refine S1.out.mono ?_
            rintro e w4 ⟨k4, hy⟩
            cases SS with
            | bad c =>
              have hy : Bad c e := hy
              unfold Bad at hy
              subst hy
              have HF := hidden (show RR = .bad c ∧ Kr r w w4 from ⟨by rw [← HRR.out]; exact atom_esc_bad HBB.out HSS.out, HK2.out.trans k4⟩)
              go_wp2_with fail
              rw [HF.out.1]
              exact ⟨rfl, HF.out.2, rfl⟩
            | ok x j =>
              obtain ⟨rfl, hr4, hx⟩ := hy
              have hn4 : NodeAt w4 o 1 .zero (.slice none 0 0) := (k4.block o (Whole1.lt HN2.out) HO.out.2).trans HN2.out
              have S2 := hidden (put_any o x x .zero _ w4 hn4 BS.zero_fit hx hx)
              have HK4 := hidden k4
              have HR4 := hidden hr4
              have hej := esc_next HSS.out
              clear S1 hn4 k4 hr4
              go_wp2_with fail
              refine S2.out.mono ?_
              rintro e w5 ⟨rfl, hn5, k5⟩
              have HY := hidden (HPUT.out (i + 1) w5 j _ (HR4.out.keep k5 fun e => HO.out.2 e.symm) ((HK4.out.wider fun _ h => .inl h).trans (k5.wider fun _ h => .inr h)) hn5 (BS.put_fit BS.zero_fit x x) (by omega) (by rw [← HRR.out]; exact atom_esc_ok HBB.out HSS.out))
              go_wp2_with fail
              go_ret
              exact HY.out
          · have n92 : ((b : Int) == 92) = false := by simp; omega
            have S1 := hidden (put_any o b b .zero _ w2 HN2.out BS.zero_fit hb256 hb256)
            have HF := hidden (show RR = .ok (BS.zero.put b b).tr (i + 1) from by
              rw [← HRR.out, atom_else (by rw [HBB.out]; exact HSG.out) (by rw [HBB.out]; exact h40) (by rw [HBB.out]; exact h91) (by rw [HBB.out]; exact h46) (by rw [HBB.out]; exact h92), HBB.out])
            clear hsg h40 h91 h46 h92
            go_wp2_with fail
            rw [HW2.out]
            refine S1.out.mono ?_
            rintro e w4 ⟨rfl, hn4, k4⟩
            have HY := hidden (HPUT.out (i + 1) w4 (i + 1) _ (HR2.out.keep k4 fun e => HO.out.2 e.symm) (k4.wider fun _ h => .inr h) hn4 (BS.put_fit BS.zero_fit b b) (Nat.le_refl _) HF.out)
            go_wp2_with fail
            go_ret
            exact HY.out
end Go.Proofs.YthncochjhbmceaaGreat
