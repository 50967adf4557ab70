/- The pattern's reader: piece, branch, branches, walked. Condition: the pattern is no longer than memory. -/
import Derived.Test.YthncochjhbmceaaGreatPke1ac0bc8
namespace Go.Proofs.YthncochjhbmceaaGreat
set_option maxRecDepth 100000
open Go.RowKit

/-- a node over one child, over two -/
theorem tr_one {w w' : World} {p q p1 : Nat} {k : Int} (hq : Whole1 w q 226 #[.pointer (some ⟨p1, 0, none⟩)]) (hn : NodeAt w' p k .zero (.slice (some ⟨q, 0, none⟩) 1 1)) (hb : Below w.heap.size w w') : Node1 w' p k p1 :=
  ⟨q, 1, hn, hq.below hb hq.lt⟩
theorem tr_two {w w' : World} {p q p1 p2 : Nat} {k : Int} (hq : Whole1 w q 226 #[.pointer (some ⟨p1, 0, none⟩), .pointer (some ⟨p2, 0, none⟩)]) (hn : NodeAt w' p k .zero (.slice (some ⟨q, 0, none⟩) 2 2)) (hb : Below w.heap.size w w') : Node2 w' p k p1 p2 :=
  ⟨q, 2, hn, hq.below hb hq.lt⟩
theorem below_nodes {w w' : World} (hb : Below w.heap.size w w') : NodesOn w w' := fun _ _ _ _ hw => hw.below hb hw.lt
theorem signs_step {s : List UInt8} {f i : Nat} {t t' : Tr} (hi : i < s.length) (h : signP (byteN s i) t = some t') : signsP s (f + 1) i t = signsP s f (i + 1) t' := by
  rw [signsP, if_pos hi, h]
theorem signs_end {s : List UInt8} {f i : Nat} {t : Tr} (h : i < s.length → signP (byteN s i) t = none) : signsP s (f + 1) i t = (t, i) := by
  rw [signsP]
  split
  · rename_i hi
    rw [h hi]
  · rfl

set_option maxHeartbeats 6400000 in
theorem piece_any (s : List UInt8) (m r i d : Nat) (S : ByteArray) (w : World) (hsub : ∀ m', m = m' + 1 → BrsOk s m') (hs : S.data.toList = s) (hdm : d + m = 16) (h : Rd w r S i d) (hi : i < S.size) :
    Calls Tryz.prog 195 #[.pointer (some ⟨r, 0, none⟩)] w (YieldT r S d (i + 1) w (pieceP s m (subP s m) i)) := by
  have S1 := hidden (atom_any s m r i d S w hsub hs hdm h hi)
  have hsl : s.length = S.size := by rw [← hs]; rfl
  have hfit := h.fit
  obtain ⟨AA, hAA⟩ : ∃ AA, atomP s m (subP s m) i = AA := ⟨_, rfl⟩
  rw [hAA] at S1
  have HS := hidden hs
  cases AA with
  | bad c =>
    have eP : pieceP s m (subP s m) i = .bad c := by rw [pieceP, hAA]
    rw [eP]
    clear h hs hAA eP
    go_enter Tryz.func195, Tryz.ntmps195
    go_wp2_with fail
    refine S1.out.mono ?_
    rintro e w1 ⟨k1, hb⟩
    have hb : Bad c e := hb
    unfold Bad at hb
    subst hb
    go_wp2_with fail
    exact ⟨rfl, k1, rfl⟩
  | ok t0 j0 =>
    have eP : pieceP s m (subP s m) i = .ok (signsP s (s.length + 1) j0 t0).1 (signsP s (s.length + 1) j0 t0).2 := by rw [pieceP, hAA]
    rw [eP]
    obtain ⟨RT, hRT⟩ : ∃ RT, signsP s (s.length + 1) j0 t0 = RT := ⟨_, rfl⟩
    rw [hRT]
    rw [hsl] at hRT
    have HRT := hidden hRT
    clear h hs hAA eP hRT
    go_enter Tryz.func195, Tryz.ntmps195
    go_wp2_with fail
    refine S1.out.mono ?_
    rintro e w1 ⟨k1, p, rfl, hr1, ht1, hj1⟩
    have hj0 := hr1.in_
    have HR1 := hidden hr1
    have HT1 := hidden ht1
    have HK1 := hidden k1
    clear S1 hr1 ht1 k1
    go_wp2_with fail
    go_loopg [3] (S.size + 1) (fun k vp wr => ∃ (f j p : Nat) (t : Tr), vp = .pointer (some ⟨p, 0, none⟩) ∧ f ≤ k ∧ S.size < j + f ∧ i + 1 ≤ j ∧ Hid (Rd wr r S j d) ∧ Hid (IsTr wr p t) ∧ Hid (Kr r w wr) ∧ Hid (signsP s f j t = RT))
    case atStart => exact ⟨S.size + 1, j0, p, t0, rfl, Nat.le_refl _, by omega, hj1, HR1, HT1, HK1, HRT⟩
    case round =>
      obtain ⟨f, j, p, t, rfl, hfk, hfj, hij, hr, ht, hk, hE⟩ := hrel
      clear HR1 HT1 HK1 HRT
      obtain ⟨f, rfl⟩ : ∃ f', f = f' + 1 := ⟨f - 1, by have := hr.out.in_; omega⟩
      have S2 := hidden (peek_any r j d S wr hr.out)
      go_wp2_with fail
      refine S2.out.mono ?_
      rintro e w2 ⟨rfl, k2⟩
      have HR2 := hidden (hr.out.keep k2 id)
      have HK2 := hidden (hk.out.trans (k2.wider (G := fun k => k = r) fun _ h => h.elim))
      have HT2 := hidden (isTr_nodes (nodes_kr hr.out (k2.wider (G := fun k => k = r) fun _ h => h.elim)) t p ht.out)
      obtain ⟨e0, e1, e2, g1, g2⟩ := HR2.out.cells
      obtain ⟨b, hb⟩ : ∃ b, peekN S j = b := ⟨_, rfl⟩
      have hbe : (j < S.size ∧ b = byteN s j) ∨ (¬ j < S.size ∧ b = 0) := by
        rw [← hb, peekN]
        by_cases h : j < S.size
        · rw [if_pos h, HS.out]; exact .inl ⟨h, rfl⟩
        · rw [if_neg h]; exact .inr ⟨h, rfl⟩
      rw [hb]
      clear S2 k2 hr ht hk hb
      generalize decide (j < S.size) = bq
      by_cases hsg : b = 42 ∨ b = 43 ∨ b = 63
      · have hjl : j < S.size := by rcases hbe with h | h <;> omega
        have hbb : byteN s j = b := by rcases hbe with h | h <;> omega
        have fwj : IntKind.i64.wrap ((j : Int) + 1) = (j : Int) + 1 := Go.IntWalk.i64_in _ (by omega)
        obtain ⟨q, hq⟩ : ∃ q, q = w2.heap.size := ⟨_, rfl⟩
        obtain ⟨w3, hw3⟩ : ∃ w3, w2.alloc (.cells #[.pointer (some ⟨p, 0, none⟩)] 226) = w3 := ⟨_, rfl⟩
        have HQ3 := hidden (show Whole1 w3 q 226 #[.pointer (some ⟨p, 0, none⟩)] from by rw [hq, ← hw3]; exact Whole1.new _ _ _)
        have hb3 : Below w2.heap.size w2 w3 := hw3 ▸ (Below.refl _ _).alloc (Nat.le_refl _) _
        have HR3 := hidden (HR2.out.keep (Kp.of_below hb3 (fun _ => False)) id)
        have HK3 := hidden (HK2.out.trans (Kp.of_below hb3 _))
        have HT3 := hidden (isTr_nodes (below_nodes hb3) t p HT2.out)
        have HW3 := hidden hw3
        have HQ := hidden hq
        clear hq hw3 hb3
        have HEND := hidden (show ∀ (t' : Tr) (k : Int) (p' : Nat) (w4 : World), signP b t = some t' → NodeAt w4 p' k .zero (.slice (some ⟨q, 0, none⟩) 1 1) → Below w3.heap.size w3 w4 → (Node1 w4 p' k p → IsTr w4 p t → IsTr w4 p' t') → Rd w4 r S j d ∧ ∀ w5, w4.setCell ⟨r, 1, none⟩ (.int .i64 ((j : Int) + 1)) = w5 → Rd w5 r S (j + 1) d ∧ IsTr w5 p' t' ∧ Kr r w w5 ∧ signsP s f (j + 1) t' = RT from fun t' k p' w4 hsg hn hb hmk => by
          have h4 := HR3.out.keep (Kp.of_below hb (fun _ => False)) id
          refine ⟨h4, fun w5 hw5 => ?_⟩
          have h5 := h4.put1 (j := j + 1) (by omega)
          rw [show ((j + 1 : Nat) : Int) = (j : Int) + 1 by omega, hw5] at h5
          have hk5 : Kr r w4 w5 := hw5 ▸ Kr.put (i := 1) (Kp.refl _ _) _
          have ht4 := hmk (tr_one HQ3.out hn hb) (isTr_nodes (below_nodes hb) t p HT3.out)
          refine ⟨h5, isTr_nodes (nodes_kr h4 hk5) _ _ ht4, (HK3.out.trans (Kp.of_below hb _)).trans hk5, ?_⟩
          rw [← hE.out, signs_step (by rw [hsl]; exact hjl) (by rw [hbb]; exact hsg)])
        rcases hsg with rfl | rfl | rfl
        · go_wp2_with fail
          rw [← HQ.out, HW3.out]
          refine (node_any 4 _ _ _ _).mono ?_
          rintro e w4 ⟨p', rfl, hp', hn, hb⟩
          clear hp'
          obtain ⟨hr4, hE4⟩ := HEND.out (.star t) 4 p' w4 rfl hn hb (fun h1 h2 => ⟨p, h1, h2⟩)
          have HE4 := hidden hE4
          obtain ⟨e0, e1, e2, g1, g2⟩ := hr4.cells
          clear hn hb hr4 hE4
          go_wp2_with fail
          go_roundg f
          case measure => omega
          case rel => exact ⟨f, j + 1, p', .star t, rfl, Nat.le_refl _, by omega, by omega, (HE4.out _ rfl).1, (HE4.out _ rfl).2.1, (HE4.out _ rfl).2.2.1, (HE4.out _ rfl).2.2.2⟩
        · go_wp2_with fail
          rw [← HQ.out, HW3.out]
          refine (node_any 5 _ _ _ _).mono ?_
          rintro e w4 ⟨p', rfl, hp', hn, hb⟩
          clear hp'
          obtain ⟨hr4, hE4⟩ := HEND.out (.plus t) 5 p' w4 rfl hn hb (fun h1 h2 => ⟨p, h1, h2⟩)
          have HE4 := hidden hE4
          obtain ⟨e0, e1, e2, g1, g2⟩ := hr4.cells
          clear hn hb hr4 hE4
          go_wp2_with fail
          go_roundg f
          case measure => omega
          case rel => exact ⟨f, j + 1, p', .plus t, rfl, Nat.le_refl _, by omega, by omega, (HE4.out _ rfl).1, (HE4.out _ rfl).2.1, (HE4.out _ rfl).2.2.1, (HE4.out _ rfl).2.2.2⟩
        · go_wp2_with fail
          rw [← HQ.out, HW3.out]
          refine (node_any 6 _ _ _ _).mono ?_
          rintro e w4 ⟨p', rfl, hp', hn, hb⟩
          clear hp'
          obtain ⟨hr4, hE4⟩ := HEND.out (.quest t) 6 p' w4 rfl hn hb (fun h1 h2 => ⟨p, h1, h2⟩)
          have HE4 := hidden hE4
          obtain ⟨e0, e1, e2, g1, g2⟩ := hr4.cells
          clear hn hb hr4 hE4
          go_wp2_with fail
          go_roundg f
          case measure => omega
          case rel => exact ⟨f, j + 1, p', .quest t, rfl, Nat.le_refl _, by omega, by omega, (HE4.out _ rfl).1, (HE4.out _ rfl).2.1, (HE4.out _ rfl).2.2.1, (HE4.out _ rfl).2.2.2⟩
      · have n42 : ((b : Int) == 42) = false := by simp; omega
        have n43 : ((b : Int) == 43) = false := by simp; omega
        have n63 : ((b : Int) == 63) = false := by simp; omega
        have HF := hidden (show RT = (t, j) from by
          rw [← hE.out]
          refine signs_end fun hj => ?_
          rw [hsl] at hj
          have : byteN s j = b := by rcases hbe with h | h <;> omega
          rw [this, signP, if_neg (by omega), if_neg (by omega), if_neg (by omega)])
        clear hsg hbe
        go_wp2_with fail
        go_ret
        rw [HF.out]
        exact ⟨HK2.out, p, rfl, HR2.out, HT2.out, hij⟩

theorem branch_close {s : List UInt8} {m f i : Nat} {sub : Nat → PR Tr} {n : Option Tr} (h : i < s.length ∧ byteN s i = 41) : branchL s m true sub (f + 1) i n = .bad 62 := by
  rw [branchL, if_pos ⟨h.1, h.2, rfl⟩]
theorem branch_end {s : List UInt8} {m f i : Nat} {top : Bool} {sub : Nat → PR Tr} {n : Option Tr} (h1 : ¬ (i < s.length ∧ byteN s i = 41 ∧ top = true)) (h2 : ¬ (i < s.length ∧ byteN s i ≠ 124 ∧ byteN s i ≠ 41)) : branchL s m top sub (f + 1) i n = .ok (n.getD .emp) i := by
  rw [branchL, if_neg h1, if_neg h2]
theorem branch_bad {s : List UInt8} {m f i e : Nat} {top : Bool} {sub : Nat → PR Tr} {n : Option Tr} (h2 : i < s.length ∧ byteN s i ≠ 124 ∧ byteN s i ≠ 41) (hp : pieceP s m sub i = .bad e) : branchL s m top sub (f + 1) i n = .bad e := by
  rw [branchL, if_neg (fun h => h2.2.2 h.2.1), if_pos h2, hp]
theorem branch_ok {s : List UInt8} {m f i j : Nat} {t : Tr} {top : Bool} {sub : Nat → PR Tr} {n : Option Tr} (h2 : i < s.length ∧ byteN s i ≠ 124 ∧ byteN s i ≠ 41) (hp : pieceP s m sub i = .ok t j) : branchL s m top sub (f + 1) i n = branchL s m top sub f j (some (match n with | none => t | some x => .cat x t)) := by
  rw [branchL, if_neg (fun h => h2.2.2 h.2.1), if_pos h2, hp]
  rfl
/-- a pointer to a tree, or nil -/
def OptTr (w : World) (v : Value) : Option Tr → Prop
  | none => v = .pointer none
  | some t => ∃ p, v = .pointer (some ⟨p, 0, none⟩) ∧ IsTr w p t
theorem optTr_nodes {w w' : World} {v : Value} {n : Option Tr} (h : OptTr w v n) (hs : NodesOn w w') : OptTr w' v n := by
  cases n with
  | none => exact h
  | some t => obtain ⟨p, e, h⟩ := h; exact ⟨p, e, isTr_nodes hs t p h⟩

set_option maxHeartbeats 6400000 in
theorem branch_any (s : List UInt8) (m r i d : Nat) (S : ByteArray) (w : World) (hsub : ∀ m', m = m' + 1 → BrsOk s m') (hs : S.data.toList = s) (hdm : d + m = 16) (h : Rd w r S i d) :
    Calls Tryz.prog 173 #[.pointer (some ⟨r, 0, none⟩)] w (YieldT r S d i w (branchP s m (decide (m = 16)) (subP s m) i)) := by
  have hsl : s.length = S.size := by rw [← hs]; rfl
  have hfit := h.fit
  have HS := hidden hs
  have H := hidden h
  obtain ⟨RR, hRR⟩ : ∃ RR, branchP s m (decide (m = 16)) (subP s m) i = RR := ⟨_, rfl⟩
  rw [hRR]
  have hRR : branchL s m (decide (m = 16)) (subP s m) (s.length + 1) i none = RR := hRR
  rw [hsl] at hRR
  have HRR := hidden hRR
  obtain ⟨top, htop⟩ : ∃ top, decide (m = 16) = top := ⟨_, rfl⟩
  rw [htop] at HRR
  have HTOP := hidden htop
  have hin := h.in_
  clear h hs hRR htop
  go_enter Tryz.func173, Tryz.ntmps173
  go_wp2_with fail
  go_loopg [3] (S.size + 1) (fun k va wr => ∃ (f j : Nat) (n : Option Tr) (vp : Value), vp = va ∧ f ≤ k ∧ S.size < j + f ∧ i ≤ j ∧ Hid (Rd wr r S j d) ∧ Hid (OptTr wr vp n) ∧ Hid (Kr r w wr) ∧ Hid (branchL s m top (subP s m) f j n = RR))
  case atStart => exact ⟨S.size + 1, i, none, _, rfl, Nat.le_refl _, by omega, Nat.le_refl _, H, rfl, Kp.refl _ _, HRR⟩
  case round =>
    obtain ⟨f, j, n, vp, rfl, hfk, hfj, hij, hr, hn, hk, hE⟩ := hrel
    clear H HRR
    obtain ⟨f, rfl⟩ : ∃ f', f = f' + 1 := ⟨f - 1, by have := hr.out.in_; omega⟩
    have hjS := hr.out.in_
    have S2 := hidden (peek_any r j d S wr hr.out)
    go_wp2_with fail
    refine S2.out.mono ?_
    rintro e w2 ⟨rfl, k2⟩
    have HR2 := hidden (hr.out.keep k2 id)
    have HK2 := hidden (hk.out.trans (k2.wider (G := fun k => k = r) fun _ h => h.elim))
    have HN2 := hidden (optTr_nodes hn.out (nodes_kr hr.out (k2.wider (G := fun k => k = r) fun _ h => h.elim)))
    obtain ⟨e0, e1, e2, g1, g2⟩ := HR2.out.cells
    obtain ⟨b, hb⟩ : ∃ b, peekN S j = b := ⟨_, rfl⟩
    have hbe : (j < S.size ∧ b = byteN s j) ∨ (¬ j < S.size ∧ b = 0) := by
      rw [← hb, peekN]
      by_cases h : j < S.size
      · rw [if_pos h, HS.out]; exact .inl ⟨h, rfl⟩
      · rw [if_neg h]; exact .inr ⟨h, rfl⟩
    rw [hb]
    have HBE := hidden hbe
    clear S2 k2 hr hn hk hb hbe
    by_cases h41 : b = 41
    · have hjl : j < S.size := by rcases HBE.out with h | h <;> omega
      have hbb : byteN s j = 41 := by rcases HBE.out with h | h <;> omega
      subst h41
      rw [decide_eq_true hjl]
      by_cases hd0 : d = 0
      · have HF := hidden (show RR = .bad 62 from by
          rw [← hE.out, show top = true from by rw [← HTOP.out]; exact decide_eq_true (by omega)]
          exact branch_close ⟨by rw [hsl]; exact hjl, hbb⟩)
        subst hd0
        go_wp2_with fail
        refine (must_no _ 62 _).mono ?_
        rintro e w5 ⟨hb, rfl⟩
        unfold Bad at hb
        subst hb
        go_wp2_with fail
        rw [HF.out]
        exact ⟨rfl, HK2.out, rfl⟩
      · have hd : (0 : Int) < (d : Int) := by omega
        have hdN : 0 < d := by omega
        have HF := hidden (show RR = .ok (n.getD .emp) j from by
          rw [← hE.out, show top = false from by rw [← HTOP.out]; exact decide_eq_false (by omega)]
          exact branch_end (fun h => by cases h.2.2) (fun h => h.2.2 hbb))
        cases n with
        | none =>
          have hv : vp = .pointer none := HN2.out
          subst hv
          go_wp2_with (first | (go_at_call 194; refine (must_yes _ _ _).mono ?_; rintro e w5 ⟨rfl, rfl⟩))
          refine (node_any 0 none 0 0 _).mono ?_
          rintro e w6 ⟨p', rfl, hp', hn6, hb6⟩
          clear hp'
          have HR6 := hidden (HR2.out.keep (Kp.of_below hb6 (fun _ => False)) id)
          have HK6 := hidden (HK2.out.trans (Kp.of_below hb6 _))
          have HT6 := hidden (show IsTr w6 p' .emp from ⟨_, hn6⟩)
          clear hn6 hb6
          go_wp2_with fail
          go_ret
          rw [HF.out]
          exact ⟨HK6.out, p', rfl, HR6.out, HT6.out, hij⟩
        | some t =>
          obtain ⟨p, hv, ht⟩ := HN2.out
          subst hv
          go_wp2_with (first | (go_at_call 194; refine (must_yes _ _ _).mono ?_; rintro e w5 ⟨rfl, rfl⟩))
          go_ret
          rw [HF.out]
          exact ⟨HK2.out, p, rfl, HR2.out, ht, hij⟩
    · have n41 : ((b : Int) == 41) = false := by simp; omega
      have m41 : ((b : Int) != 41) = true := by simp only [bne, n41]; rfl
      by_cases hmore : j < S.size ∧ b ≠ 124
      · have n124 : ((b : Int) == 124) = false := by have := hmore.2; simp; omega
        have m124 : ((b : Int) != 124) = true := by simp only [bne, n124]; rfl
        have hjl := hmore.1
        rw [decide_eq_true hjl]
        have hbb : byteN s j = b := by rcases HBE.out with h | h <;> omega
        have HM := hidden (show j < s.length ∧ byteN s j ≠ 124 ∧ byteN s j ≠ 41 from ⟨by rw [hsl]; exact hjl, by rw [hbb]; exact hmore.2, by rw [hbb]; exact h41⟩)
        have S3 := hidden (piece_any s m r j d S w2 hsub HS.out hdm HR2.out hjl)
        obtain ⟨PP, hPP⟩ : ∃ PP, pieceP s m (subP s m) j = PP := ⟨_, rfl⟩
        rw [hPP] at S3
        have HPP := hidden hPP
        clear hPP hmore hbb
        go_wp2_with (first | (go_at_call 194; refine (must_yes _ _ _).mono ?_; rintro e w5 ⟨rfl, rfl⟩))
        refine S3.out.mono ?_
        rintro e w4 ⟨k4, hy⟩
        have HK4 := hidden (HK2.out.trans k4)
        cases PP with
        | bad c =>
          have hy : Bad c e := hy
          unfold Bad at hy
          subst hy
          have HF := hidden (show RR = .bad c from by rw [← hE.out]; exact branch_bad HM.out HPP.out)
          go_wp2_with fail
          rw [HF.out]
          exact ⟨rfl, HK4.out, rfl⟩
        | ok t j4 =>
          obtain ⟨p4, rfl, hr4, ht4, hj4⟩ := hy
          have HF := hidden ((branch_ok (f := f) (n := n) (top := top) HM.out HPP.out).symm.trans hE.out)
          have HR4 := hidden hr4
          have HT4 := hidden ht4
          have HN4 := hidden (optTr_nodes HN2.out (nodes_kr HR2.out k4))
          have hj4S := hr4.in_
          clear S3 hr4 ht4 k4
          cases n with
          | none =>
            have hv : vp = .pointer none := HN2.out
            subst hv
            go_wp2_with fail
            go_roundg f
            case measure => omega
            case rel => exact ⟨f, j4, some t, _, rfl, Nat.le_refl _, by omega, by omega, HR4, ⟨p4, rfl, HT4.out⟩, HK4, HF⟩
          | some x =>
            obtain ⟨px, hv, hx⟩ := HN4.out
            subst hv
            obtain ⟨q, hq⟩ : ∃ q, q = w4.heap.size := ⟨_, rfl⟩
            obtain ⟨w3, hw3⟩ : ∃ w3, w4.alloc (.cells #[.pointer (some ⟨px, 0, none⟩), .pointer (some ⟨p4, 0, none⟩)] 226) = w3 := ⟨_, rfl⟩
            have HQ3 := hidden (show Whole1 w3 q 226 #[.pointer (some ⟨px, 0, none⟩), .pointer (some ⟨p4, 0, none⟩)] from by rw [hq, ← hw3]; exact Whole1.new _ _ _)
            have hb3 : Below w4.heap.size w4 w3 := hw3 ▸ (Below.refl _ _).alloc (Nat.le_refl _) _
            have HB3 := hidden hb3
            have HX := hidden hx
            have HW3 := hidden hw3
            have HQ := hidden hq
            clear hq hw3 hb3 hx
            go_wp2_with fail
            rw [← HQ.out, HW3.out]
            refine (node_any 2 _ _ _ _).mono ?_
            rintro e w6 ⟨p', rfl, hp', hn6, hb6⟩
            clear hp'
            have hb46 := HB3.out.trans (hb6.mono HB3.out.size)
            have HR6 := hidden (HR4.out.keep (Kp.of_below hb46 (fun _ => False)) id)
            have HK6 := hidden (HK4.out.trans (Kp.of_below hb46 _))
            have HT6 := hidden (show IsTr w6 p' (.cat x t) from ⟨px, p4, tr_two HQ3.out hn6 hb6, isTr_nodes (below_nodes hb46) _ _ HX.out, isTr_nodes (below_nodes hb46) _ _ HT4.out⟩)
            clear hn6 hb6 hb46
            go_wp2_with fail
            go_roundg f
            case measure => omega
            case rel => exact ⟨f, j4, some (.cat x t), _, rfl, Nat.le_refl _, by omega, by omega, HR6, ⟨p', rfl, HT6.out⟩, HK6, HF⟩
      · have HF := hidden (show RR = .ok (n.getD .emp) j from by
          rw [← hE.out]
          refine branch_end (fun h => ?_) (fun h => ?_)
          · rw [hsl] at h
            rcases HBE.out with k | k <;> omega
          · rw [hsl] at h
            rcases HBE.out with k | k
            · exact hmore ⟨h.1, by rw [k.2]; exact h.2.1⟩
            · exact k.1 h.1)
        by_cases hjl : j < S.size
        · have hb124 : b = 124 := by
            by_cases h : b = 124
            · exact h
            · exact absurd ⟨hjl, h⟩ hmore
          subst hb124
          rw [decide_eq_true hjl]
          clear hmore n41 m41
          cases n with
          | none =>
            have hv : vp = .pointer none := HN2.out
            subst hv
            go_wp2_with (first | (go_at_call 194; refine (must_yes _ _ _).mono ?_; rintro e w5 ⟨rfl, rfl⟩))
            refine (node_any 0 none 0 0 _).mono ?_
            rintro e w6 ⟨p', rfl, hp', hn6, hb6⟩
            clear hp'
            have HR6 := hidden (HR2.out.keep (Kp.of_below hb6 (fun _ => False)) id)
            have HK6 := hidden (HK2.out.trans (Kp.of_below hb6 _))
            have HT6 := hidden (show IsTr w6 p' .emp from ⟨_, hn6⟩)
            clear hn6 hb6
            go_wp2_with fail
            go_ret
            rw [HF.out]
            exact ⟨HK6.out, p', rfl, HR6.out, HT6.out, hij⟩
          | some t =>
            obtain ⟨p, hv, ht⟩ := HN2.out
            subst hv
            go_wp2_with (first | (go_at_call 194; refine (must_yes _ _ _).mono ?_; rintro e w5 ⟨rfl, rfl⟩))
            go_ret
            rw [HF.out]
            exact ⟨HK2.out, p, rfl, HR2.out, ht, hij⟩
        · rw [decide_eq_false hjl]
          clear hmore
          cases n with
          | none =>
            have hv : vp = .pointer none := HN2.out
            subst hv
            go_wp2_with (first | (go_at_call 194; refine (must_yes _ _ _).mono ?_; rintro e w5 ⟨rfl, rfl⟩))
            refine (node_any 0 none 0 0 _).mono ?_
            rintro e w6 ⟨p', rfl, hp', hn6, hb6⟩
            clear hp'
            have HR6 := hidden (HR2.out.keep (Kp.of_below hb6 (fun _ => False)) id)
            have HK6 := hidden (HK2.out.trans (Kp.of_below hb6 _))
            have HT6 := hidden (show IsTr w6 p' .emp from ⟨_, hn6⟩)
            clear hn6 hb6
            go_wp2_with fail
            go_ret
            rw [HF.out]
            exact ⟨HK6.out, p', rfl, HR6.out, HT6.out, hij⟩
          | some t =>
            obtain ⟨p, hv, ht⟩ := HN2.out
            subst hv
            go_wp2_with (first | (go_at_call 194; refine (must_yes _ _ _).mono ?_; rintro e w5 ⟨rfl, rfl⟩))
            go_ret
            rw [HF.out]
            exact ⟨HK2.out, p, rfl, HR2.out, ht, hij⟩

theorem branches_end {s : List UInt8} {m f i : Nat} {top : Bool} {sub : Nat → PR Tr} {n : Tr} (h : ¬ (i < s.length ∧ byteN s i = 124)) : branchesL s m top sub (f + 1) i n = .ok n i := by
  rw [branchesL, if_neg h]
theorem branches_bad {s : List UInt8} {m f i e : Nat} {top : Bool} {sub : Nat → PR Tr} {n : Tr} (h : i < s.length ∧ byteN s i = 124) (hb : branchP s m top sub (i + 1) = .bad e) : branchesL s m top sub (f + 1) i n = .bad e := by
  rw [branchesL, if_pos h, hb]
theorem branches_ok {s : List UInt8} {m f i j : Nat} {t : Tr} {top : Bool} {sub : Nat → PR Tr} {n : Tr} (h : i < s.length ∧ byteN s i = 124) (hb : branchP s m top sub (i + 1) = .ok t j) : branchesL s m top sub (f + 1) i n = branchesL s m top sub f j (.alt n t) := by
  rw [branchesL, if_pos h, hb]

set_option maxHeartbeats 6400000 in
theorem branches_any (s : List UInt8) (m : Nat) (hsub : ∀ m', m = m' + 1 → BrsOk s m') : BrsOk s m := by
  intro r i d S w hs hdm h
  have S1 := hidden (branch_any s m r i d S w hsub hs hdm h)
  have hsl : s.length = S.size := by rw [← hs]; rfl
  have hfit := h.fit
  have HS := hidden hs
  rw [depth_is]
  obtain ⟨top, htop⟩ : ∃ top, decide (m = 16) = top := ⟨_, rfl⟩
  rw [htop] at S1
  have HTOP := hidden htop
  obtain ⟨AA, hAA⟩ : ∃ AA, branchP s m top (subP s m) i = AA := ⟨_, rfl⟩
  rw [hAA] at S1
  obtain ⟨RR, hRR⟩ : ∃ RR, branchesP s m top (subP s m) i = RR := ⟨_, rfl⟩
  rw [htop, hRR]
  cases AA with
  | bad c =>
    have HF := hidden (show RR = .bad c from by rw [← hRR, branchesP, hAA])
    clear h hs hAA hRR htop
    go_enter Tryz.func143, Tryz.ntmps143
    go_wp2_with fail
    refine S1.out.mono ?_
    rintro e w1 ⟨k1, hb⟩
    have hb : Bad c e := hb
    unfold Bad at hb
    subst hb
    go_wp2_with fail
    rw [HF.out]
    exact ⟨rfl, k1, rfl⟩
  | ok t0 j0 =>
    have HRR := hidden (show branchesL s m top (subP s m) (S.size + 1) j0 t0 = RR from by rw [← hRR, branchesP, hAA, hsl])
    clear h hs hAA hRR htop
    go_enter Tryz.func143, Tryz.ntmps143
    go_wp2_with fail
    refine S1.out.mono ?_
    rintro e w1 ⟨k1, p, rfl, hr1, ht1, hj1⟩
    have HR1 := hidden hr1
    have HT1 := hidden ht1
    have HK1 := hidden k1
    have hj0 := hr1.in_
    clear S1 hr1 ht1 k1
    go_wp2_with fail
    go_loopg [3] (S.size + 1) (fun k vp wr => ∃ (f j p : Nat) (t : Tr), vp = .pointer (some ⟨p, 0, none⟩) ∧ f ≤ k ∧ S.size < j + f ∧ i ≤ j ∧ Hid (Rd wr r S j d) ∧ Hid (IsTr wr p t) ∧ Hid (Kr r w wr) ∧ Hid (branchesL s m top (subP s m) f j t = RR))
    case atStart => exact ⟨S.size + 1, j0, p, t0, rfl, Nat.le_refl _, by omega, hj1, HR1, HT1, HK1, HRR⟩
    case round =>
      obtain ⟨f, j, p, t, rfl, hfk, hfj, hij, hr, ht, hk, hE⟩ := hrel
      clear HR1 HT1 HK1 HRR
      obtain ⟨f, rfl⟩ : ∃ f', f = f' + 1 := ⟨f - 1, by have := hr.out.in_; omega⟩
      have hjS := hr.out.in_
      have S2 := hidden (peek_any r j d S wr hr.out)
      go_wp2_with fail
      refine S2.out.mono ?_
      rintro e w2 ⟨rfl, k2⟩
      have HR2 := hidden (hr.out.keep k2 id)
      have HK2 := hidden (hk.out.trans (k2.wider (G := fun k => k = r) fun _ h => h.elim))
      have HT2 := hidden (isTr_nodes (nodes_kr hr.out (k2.wider (G := fun k => k = r) fun _ h => h.elim)) t p ht.out)
      obtain ⟨e0, e1, e2, g1, g2⟩ := HR2.out.cells
      obtain ⟨b, hb⟩ : ∃ b, peekN S j = b := ⟨_, rfl⟩
      have hbe : (j < S.size ∧ b = byteN s j) ∨ (¬ j < S.size ∧ b = 0) := by
        rw [← hb, peekN]
        by_cases h : j < S.size
        · rw [if_pos h, HS.out]; exact .inl ⟨h, rfl⟩
        · rw [if_neg h]; exact .inr ⟨h, rfl⟩
      rw [hb]
      have HBE := hidden hbe
      clear S2 k2 hr ht hk hb hbe
      by_cases h124 : b = 124
      · have hjl : j < S.size := by rcases HBE.out with h | h <;> omega
        have hbb : byteN s j = 124 := by rcases HBE.out with h | h <;> omega
        have HM := hidden (show j < s.length ∧ byteN s j = 124 from ⟨by rw [hsl]; exact hjl, hbb⟩)
        subst h124
        rw [decide_eq_true hjl]
        have fwj : IntKind.i64.wrap ((j : Int) + 1) = (j : Int) + 1 := Go.IntWalk.i64_in _ (by omega)
        obtain ⟨w3, hw3⟩ : ∃ w3, w2.setCell ⟨r, 1, none⟩ (.int .i64 ((j : Int) + 1)) = w3 := ⟨_, rfl⟩
        have HR3 := hidden (show Rd w3 r S (j + 1) d from by
          have := HR2.out.put1 (j := j + 1) (by omega)
          rw [show ((j + 1 : Nat) : Int) = (j : Int) + 1 by omega, hw3] at this
          exact this)
        have hk3 : Kr r w2 w3 := hw3 ▸ Kr.put (i := 1) (Kp.refl _ _) _
        have HK3 := hidden (HK2.out.trans hk3)
        have HT3 := hidden (isTr_nodes (nodes_kr HR2.out hk3) t p HT2.out)
        have S3 := hidden (branch_any s m r (j + 1) d S w3 hsub HS.out hdm HR3.out)
        rw [HTOP.out] at S3
        obtain ⟨PP, hPP⟩ : ∃ PP, branchP s m top (subP s m) (j + 1) = PP := ⟨_, rfl⟩
        rw [hPP] at S3
        have HPP := hidden hPP
        have HW3 := hidden hw3
        clear hPP hbb hk3 hw3
        go_wp2_with fail
        rw [HW3.out]
        refine S3.out.mono ?_
        rintro e w4 ⟨k4, hy⟩
        have HK4 := hidden (HK3.out.trans k4)
        cases PP with
        | bad c =>
          have hy : Bad c e := hy
          unfold Bad at hy
          subst hy
          have HF := hidden (show RR = .bad c from by rw [← hE.out]; exact branches_bad HM.out HPP.out)
          go_wp2_with fail
          rw [HF.out]
          exact ⟨rfl, HK4.out, rfl⟩
        | ok t4 j4 =>
          obtain ⟨p4, rfl, hr4, ht4, hj4⟩ := hy
          have HF := hidden ((branches_ok (f := f) (n := t) HM.out HPP.out).symm.trans hE.out)
          have HR4 := hidden hr4
          have HT4 := hidden ht4
          have HX := hidden (isTr_nodes (nodes_kr HR3.out k4) t p HT3.out)
          have hj4S := hr4.in_
          clear S3 hr4 ht4 k4
          obtain ⟨q, hq⟩ : ∃ q, q = w4.heap.size := ⟨_, rfl⟩
          obtain ⟨w5, hw5⟩ : ∃ w5, w4.alloc (.cells #[.pointer (some ⟨p, 0, none⟩), .pointer (some ⟨p4, 0, none⟩)] 226) = w5 := ⟨_, rfl⟩
          have HQ5 := hidden (show Whole1 w5 q 226 #[.pointer (some ⟨p, 0, none⟩), .pointer (some ⟨p4, 0, none⟩)] from by rw [hq, ← hw5]; exact Whole1.new _ _ _)
          have hb5 : Below w4.heap.size w4 w5 := hw5 ▸ (Below.refl _ _).alloc (Nat.le_refl _) _
          have HB5 := hidden hb5
          have HW5 := hidden hw5
          have HQ := hidden hq
          clear hq hw5 hb5
          go_wp2_with fail
          rw [← HQ.out, HW5.out]
          refine (node_any 3 _ _ _ _).mono ?_
          rintro e w6 ⟨p', rfl, hp', hn6, hb6⟩
          clear hp'
          have hb46 := HB5.out.trans (hb6.mono HB5.out.size)
          have HR6 := hidden (HR4.out.keep (Kp.of_below hb46 (fun _ => False)) id)
          have HK6 := hidden (HK4.out.trans (Kp.of_below hb46 _))
          have HT6 := hidden (show IsTr w6 p' (.alt t t4) from ⟨p, p4, tr_two HQ5.out hn6 hb6, isTr_nodes (below_nodes hb46) _ _ HX.out, isTr_nodes (below_nodes hb46) _ _ HT4.out⟩)
          clear hn6 hb6 hb46
          go_wp2_with fail
          go_roundg f
          case measure => omega
          case rel => exact ⟨f, j4, p', .alt t t4, rfl, Nat.le_refl _, by omega, by omega, HR6, HT6, HK6, HF⟩
      · have n124 : ((b : Int) == 124) = false := by simp; omega
        have m124 : ((b : Int) != 124) = true := by simp only [bne, n124]; rfl
        have HF := hidden (show RR = .ok t j from by
          rw [← hE.out]
          refine branches_end fun h => ?_
          rw [hsl] at h
          rcases HBE.out with k | k <;> omega)
        generalize decide (j < S.size) = bq
        cases bq
        · go_wp2_with fail
          go_ret
          rw [HF.out]
          exact ⟨HK2.out, p, rfl, HR2.out, HT2.out, hij⟩
        · go_wp2_with fail
          go_ret
          rw [HF.out]
          exact ⟨HK2.out, p, rfl, HR2.out, HT2.out, hij⟩
theorem brs_all (s : List UInt8) : ∀ m, BrsOk s m
  | 0 => branches_any s 0 fun _ h => by omega
  | m + 1 => branches_any s (m + 1) fun m' h => by
    obtain rfl : m' = m := by omega
    exact brs_all s m'
end Go.Proofs.YthncochjhbmceaaGreat
