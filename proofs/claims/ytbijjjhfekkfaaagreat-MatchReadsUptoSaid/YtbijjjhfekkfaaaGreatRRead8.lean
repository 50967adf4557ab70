/- The document's Read of matchers, walked. Condition: the text is not too long. -/
import Derived.Test.YtbijjjhfekkfaaaGreatReadMP
import Derived.Test.YtbijjjhfekkfaaaGreatPkc2774c96
namespace Go.Proofs.YtbijjjhfekkfaaaGreat
set_option maxRecDepth 100000
open Go.RowKit

theorem parM_go {s : ByteArray} {f a k : Nat} {out : List Ask} (hk : a + sgn s.data.toList a = k) {q d : Nat} (hq : kindAt s.data.toList k = some (q, d)) {v : List UInt8} {n : Nat} (hu : unqO s (k + d) = some (v, n)) (hlt : k < s.size) (he : newE (q : Int) (s.extract a k) ⟨v.toArray⟩ = 0) (hn : n ≠ s.size) (hc : s.data.toList[n]? = some 44) : parM s (f + 1) a out = parM s f (n + 1) (out ++ [⟨(q : Int), s.extract a k, ⟨v.toArray⟩⟩]) := by
  by_cases h : n + 1 = s.size
  · rw [parM_tail hk hq hu hlt he hn hc h, parM_end (by omega)]
  · exact parM_more hk hq hu hlt he hn hc h
def signR (l : List UInt8) (k : Nat) : Int × Int := match kindAt l k with
  | some (q, d) => ((q : Int), (d : Int))
  | none => (-1, 0)
theorem sgn_cases {b : UInt8} (h : isSgn b = true) : b = 61 ∨ b = 33 := by
  unfold isSgn at h
  simp only [Bool.or_eq_true, beq_iff_eq] at h
  exact h.imp (fun h => u8_eq (b := 61) h) (fun h => u8_eq (b := 33) h)
set_option maxHeartbeats 1600000 in
theorem rsign_any (s : ByteArray) (k : Nat) (w : World) (hk : k < s.size) (hs : s.size ≤ 16777216) {b : UInt8} (hb : s.data.toList[k]? = some b) (hsg : isSgn b = true) :
    Calls Tryz.prog 53 #[.string s, .int .i64 k] w fun e w' => e = .returned (.tuple #[.int .i64 (signR s.data.toList k).1, .int .i64 (signR s.data.toList k).2]) ∧ w' = w := by
  have k0 : (0 : Int) ≤ (k : Int) := by omega
  have k1 : (k : Int) < (s.size : Int) := by omega
  have kw : IntKind.i64.wrap ((k : Int) + 1) = (k : Int) + 1 := Go.IntWalk.i64_in _ (by omega)
  obtain ⟨b', hbe, hbat⟩ := str_at hk
  obtain rfl : b' = b := Option.some.inj (hbat.symm.trans hb)
  have sl : s.data.toList.length = s.size := rfl
  obtain ⟨R, hR⟩ : ∃ R, signR s.data.toList k = R := ⟨_, rfl⟩
  rw [hR]
  have HR := hidden hR
  by_cases hl : k + 1 < s.size
  · obtain ⟨c, hce, hcat⟩ := str_at hl
    have l1 : (k : Int) + 1 < (s.size : Int) := by omega
    have l1t : ((k : Int) + 1).toNat = k + 1 := by omega
    have l10 : (0 : Int) ≤ (k : Int) + 1 := by omega
    have hcb := size_lt c
    have hc126 : (∃ t, ((c.toNat : Int) == 126) = t ∧ (c = 126 ↔ t = true)) := ⟨_, rfl, by simp only [beq_iff_eq]; exact ⟨fun h => by rw [h]; rfl, fun h => u8_eq (b := 126) (show c.toNat = 126 by omega)⟩⟩
    have hc61 : (∃ t, ((c.toNat : Int) == 61) = t ∧ (c = 61 ↔ t = true)) := ⟨_, rfl, by simp only [beq_iff_eq]; exact ⟨fun h => by rw [h]; rfl, fun h => u8_eq (b := 61) (show c.toNat = 61 by omega)⟩⟩
    obtain ⟨t126, e126, i126⟩ := hc126
    obtain ⟨t61, e61, i61⟩ := hc61
    have hb61 : (∃ t, ((b'.toNat : Int) == 61) = t ∧ (b' = 61 ↔ t = true)) := ⟨_, rfl, by simp only [beq_iff_eq]; exact ⟨fun h => by rw [h]; rfl, fun h => u8_eq (b := 61) (show b'.toNat = 61 by omega)⟩⟩
    obtain ⟨tb, eb, ib⟩ := hb61
    have hR2 : R = if t126 = true then (if tb = true then (2, 2) else (3, 2)) else if tb = true then (0, 1) else if t61 = true then (1, 2) else (-1, 0) := by
      rw [← hR]
      unfold signR kindAt
      simp only [hcat, hb, Option.some.injEq, i126, ib, i61]
      cases t126 <;> cases tb <;> cases t61 <;> rfl
    have HF := hidden hR2
    clear hR hR2 hcat hbat hb hsg i126 ib i61 HR
    cases t126 <;> cases tb <;> cases t61
    all_goals
      go_enter Tryz.func53, Tryz.ntmps53
      go_wp2_with fail
      go_ret2
      rw [HF.out]
      exact ⟨rfl, rfl⟩
  · have l1 : decide ((k : Int) + 1 < (s.size : Int)) = false := by simp; omega
    have hn : s.data.toList[k + 1]? = none := List.getElem?_eq_none (by omega)
    have hb61 : (∃ t, ((b'.toNat : Int) == 61) = t ∧ (b' = 61 ↔ t = true)) := ⟨_, rfl, by simp only [beq_iff_eq]; exact ⟨fun h => by rw [h]; rfl, fun h => u8_eq (b := 61) (show b'.toNat = 61 by omega)⟩⟩
    obtain ⟨tb, eb, ib⟩ := hb61
    have hR2 : R = if tb = true then (0, 1) else (-1, 0) := by
      rw [← hR]
      unfold signR kindAt
      simp only [hn, hb, Option.some.injEq, ib, reduceCtorEq, if_false]
      cases tb <;> rfl
    have HF := hidden hR2
    clear hR hR2 hn hbat hb hsg ib HR
    cases tb
    all_goals
      go_enter Tryz.func53, Tryz.ntmps53
      go_wp2_with fail
      go_ret2
      rw [HF.out]
      exact ⟨rfl, rfl⟩
def errM (r : Except Nat (List Ask)) : Nat := match r with | .ok _ => 0 | .error c => c
def okM (r : Except Nat (List Ask)) : List Ask := match r with | .ok l => l | .error _ => []
theorem ask_snoc (O : List Ask) (x : Ask) : O.flatMap Ask.cells ++ [.int .i64 x.kind, .string x.name, .string x.value] = (O ++ [x]).flatMap Ask.cells := by
  rw [List.flatMap_append]; simp [Ask.cells]
set_option maxHeartbeats 6400000 in
theorem rread8_any (s : ByteArray) (w : World) (hs : s.size ≤ 16777216) :
    Calls Tryz.prog 11 #[.string s] w fun e w' => ∃ v, e = .returned (.tuple #[v, .int .i64 (errM (readM s) : Nat)]) ∧ w'.ownsRow w.heap.size 142 3 v (okM (readM s)).length ((okM (readM s)).flatMap Ask.cells) ∧ Below w.heap.size w w' := by
  obtain ⟨i0, hi, hz0, hz1, hz2⟩ := info_parts infoW8
  have sl : s.data.toList.length = s.size := rfl
  have hse : s.toList.isEmpty = decide (s = ⟨#[]⟩) := by
    rw [← str_eq s ⟨#[]⟩, show (⟨#[]⟩ : ByteArray).toList = [] from by rw [Lib.toList_data]]
    cases s.toList <;> rfl
  by_cases h0 : s.size = 0
  · have hs0 : s = ⟨#[]⟩ := bytes_eq (List.eq_nil_of_length_eq_zero h0)
    have HU : Hid (readM s = .ok []) := by rw [Hid, readM, if_pos h0]
    rw [show decide (s = ⟨#[]⟩) = true from by simp [hs0]] at hse
    clear hs0
    go_enter Tryz.func11, Tryz.ntmps11
    go_wp2_with fail
    go_ret2
    rw [HU.out]
    exact ⟨_, rfl, World.ownsRow_nil _ _ _ _, Below.refl _ _⟩
  · have hs0 : ¬ s = ⟨#[]⟩ := fun h => h0 (by rw [h]; rfl)
    rw [show decide (s = ⟨#[]⟩) = false from by simp [hs0]] at hse
    have HU0 : Hid (readM s = parM s (s.size + 1) 0 []) := by rw [Hid, readM, if_neg h0]
    clear hs0
    go_enter Tryz.func11, Tryz.ntmps11
    go_wp2_with fail
    go_loopw [4, 5] (fun vo va wr => ∃ (a f : Nat) (out : List Ask), va = .int .i64 a ∧ a ≤ s.size ∧ s.size < a + f ∧ out.length ≤ a ∧ Hid (readM s = parM s f a out) ∧ wr.ownsRow w.heap.size 142 3 vo out.length (out.flatMap Ask.cells) ∧ Below w.heap.size w wr) (fun _ va _ => s.size + 1 - (intOf va).toNat)
    case atStart => exact ⟨0, s.size + 1, [], rfl, Nat.zero_le _, by omega, Nat.le_refl _, HU0, World.ownsRow_nil _ _ _ _, Below.refl _ _⟩
    case round =>
      obtain ⟨a, f, out, rfl, ha, hf, hol, hp, ho, hbl⟩ := hrel
      have HBL := hidden hbl
      have hbs := hbl.size
      have HO := hidden ho
      obtain ⟨A1, c1, rfl, hc1, hr1⟩ := own_shape ho
      clear hbl hr1 ho HU0
      have a0 : (0 : Int) ≤ (a : Int) := by omega
      have a1 : (a : Int) ≤ (s.size : Int) := by omega
      obtain ⟨w1, hw1⟩ : ∃ w1, w1 = wr := ⟨_, rfl⟩
      rw [← hw1] at HBL hbs HO ⊢
      clear hw1
      obtain ⟨f, rfl⟩ : ∃ f', f = f' + 1 := ⟨f - 1, by omega⟩
      go_wp2_with fail
      go_loopw [6] (fun vk wk => ∃ k : Nat, vk = .int .i64 k ∧ a ≤ k ∧ k ≤ s.size ∧ Hid (∀ i, a ≤ i → i < k → ∀ c, s.data.toList[i]? = some c → isSgn c = false) ∧ wk = w1) (fun vk _ => s.size - (intOf vk).toNat)
      case atStart => exact ⟨a, rfl, Nat.le_refl _, ha, hidden (fun i h1 h2 => by omega), rfl⟩
      case round =>
        obtain ⟨k, rfl, hak, hks, hno, rfl⟩ := hrel
        have k0 : (0 : Int) ≤ (k : Int) := by omega
        by_cases hlt : k < s.size
        · have k1 : (k : Int) < (s.size : Int) := by omega
          have k1n : ¬ (s.size : Int) ≤ (k : Int) := by omega
          obtain ⟨b, hbe, hbat⟩ := str_at hlt
          have hbl := size_lt b
          cases hsg : isSgn b with
          | false =>
            have hb2 : b.toNat ≠ 61 ∧ b.toNat ≠ 33 := by simpa [isSgn] using hsg
            have e61 : ((b.toNat : Int) != 61) = true := by simp; omega
            have e33 : ((b.toNat : Int) != 33) = true := by simp; omega
            have kw : IntKind.i64.wrap ((k : Int) + 1) = (k : Int) + 1 := Go.IntWalk.i64_in _ (by omega)
            have HNO : Hid (∀ i, a ≤ i → i < k + 1 → ∀ c, s.data.toList[i]? = some c → isSgn c = false) := fun i h1 h2 c hc => by
              by_cases hik : i = k
              · subst hik
                rw [hbat] at hc
                rw [← Option.some.inj hc]
                exact hsg
              · exact hno.out i h1 (by omega) c hc
            clear hbat hb2 hsg
            go_wp2_with fail
            go_roundw
            case rel => exact ⟨k + 1, by go_num, by omega, by omega, HNO, trivial⟩
            case measure => simp [intOf]; omega
          | true =>
            have hk : a + sgn s.data.toList a = k := sgn_at hak hbat hsg hno.out
            have HK := hidden hk
            have S1 := hidden (fun W => rsign_any s k W hlt hs hbat hsg)
            have hel : (((b.toNat : Int) != 61) = false) ∨ ((((b.toNat : Int) != 61) = true) ∧ ((b.toNat : Int) != 33) = false) := by
              rcases sgn_cases hsg with rfl | rfl
              · exact .inl rfl
              · exact .inr ⟨rfl, rfl⟩
            clear hsg hbat hk hno
            cases hq : kindAt s.data.toList k with
            | none =>
              have HU := hidden (hp.out.trans (parM_kind HK.out hq))
              have hsr : signR s.data.toList k = (-1, 0) := by rw [signR, hq]
              rw [hsr] at S1
              clear hq hsr
              rcases hel with e61 | ⟨e61, e33⟩
              all_goals
                go_wp2_with fail
                refine (S1.out _).mono ?_
                rintro e w2 ⟨rfl, rfl⟩
                go_wp2_with fail
                go_ret2
                rw [HU.out]
                exact ⟨_, rfl, World.ownsRow_nil _ _ _ _, HBL.out⟩
            | some p =>
              obtain ⟨q, d⟩ := p
              obtain ⟨hq4, hdq, hd1⟩ := kindAt_lt hq
              have hd2 : d ≤ 2 := by
                rw [hdq]
                obtain rfl | rfl | rfl | rfl : q = 0 ∨ q = 1 ∨ q = 2 ∨ q = 3 := by omega
                all_goals decide
              have hsr : signR s.data.toList k = ((q : Int), (d : Int)) := by rw [signR, hq]
              rw [hsr] at S1
              have HQ := hidden hq
              have q0 : decide ((q : Int) < 0) = false := by simp
              have kd : IntKind.i64.wrap ((k : Int) + (d : Int)) = (k : Int) + (d : Int) := Go.IntWalk.i64_in _ (by omega)
              have S2 := hidden (fun W => runq_any s (k + d) W hs (by omega))
              rw [show ((k + d : Nat) : Int) = (k : Int) + (d : Int) by omega] at S2
              clear hq hsr hdq
              cases hu : unqO s (k + d) with
              | none =>
                rw [unqR_no hu] at S2
                have HU := hidden (hp.out.trans (parM_unq HK.out HQ.out hu))
                clear hu
                rcases hel with e61 | ⟨e61, e33⟩
                all_goals
                  go_wp2_with fail
                  refine (S1.out _).mono ?_
                  rintro e w2 ⟨rfl, rfl⟩
                  go_wp2_with fail
                  refine (S2.out _).mono ?_
                  rintro e w3 ⟨rfl, b3⟩
                  have HB3 := hidden (HBL.out.trans (b3.mono hbs))
                  clear b3
                  go_wp2_with fail
                  go_ret2
                  rw [HU.out]
                  exact ⟨_, rfl, World.ownsRow_nil _ _ _ _, HB3.out⟩
              | some p =>
                obtain ⟨u, n⟩ := p
                rw [unqR_yes hu] at S2
                obtain ⟨hu1, hn, hkn⟩ := unqO_in hu
                have HUO := hidden hu
                obtain ⟨U, hU⟩ : ∃ U, (⟨u.toArray⟩ : ByteArray) = U := ⟨_, rfl⟩
                have hUs : U.size ≤ s.size := by rw [← hU]; exact hu1
                obtain ⟨M, hM⟩ : ∃ M, s.extract a k = M := ⟨_, rfl⟩
                have hMs : M.size ≤ s.size := by rw [← hM]; exact ext_le s a k
                have HMM := hidden hM
                have HUU := hidden hU
                rw [hU] at S2
                have m2 : (a : Int) ≤ (k : Int) := by omega
                have m3 : (k : Int) ≤ (s.size : Int) := by omega
                have nn : decide ((n : Int) < 0) = false := by simp
                have S3 := hidden (fun W => rnew_any (q : Int) M U W (by omega) (by omega))
                clear hu hU
                by_cases he : newE (q : Int) M U = 0
                · rw [he] at S3
                  have HE := hidden (show newE (q : Int) (s.extract a k) ⟨u.toArray⟩ = 0 by rw [HMM.out, HUU.out]; exact he)
                  have hfr := fun W : World => Row.fresh W 142 3 1 [.int .i64 (q : Int), .string M, .string U] rfl
                  have HFR := hidden hfr
                  have HCS := hidden (ask_snoc out ⟨(q : Int), M, U⟩)
                  clear hfr he
                  by_cases hend : n = s.size
                  · have en : ((n : Int) == (s.size : Int)) = true := by rw [hend]; simp
                    have HP := hidden (hp.out.trans (parM_last HK.out HQ.out HUO.out hlt HE.out hend))
                    rw [HMM.out, HUU.out] at HP
                    clear hp hend
                    rcases hel with e61 | ⟨e61, e33⟩
                    all_goals
                      go_wp2_with fail
                      refine (S1.out _).mono ?_
                      rintro e w2 ⟨rfl, rfl⟩
                      go_wp2_with fail
                      refine (S2.out _).mono ?_
                      rintro e w3 ⟨rfl, b3⟩
                      have HB3 := hidden (HBL.out.trans (b3.mono hbs))
                      have HO3 := hidden (own_below HO.out b3 (Nat.le_refl _))
                      clear b3
                      go_wp2_with fail
                      refine (S3.out _).mono ?_
                      rintro e w4 ⟨v4, rfl, hv4, _, b4⟩
                      obtain rfl := hv4 trivial
                      have HB4 := hidden (HB3.out.trans (b4.mono HB3.out.size))
                      have HO4 := hidden (own_below HO3.out b4 (Nat.le_refl _))
                      clear b4 hv4
                      have hbs4 := HB4.out.size
                      have hol2 : out.length ≤ 16777216 := by omega
                      have hfr := HFR.out (w4.alloc (.cells #[.int .i64 (q : Int), .string M, .string U] 142))
                      rw [World.size_alloc] at hfr
                      go_wp2_with (at_builtin; refine wpList_app _ rfl _ _ 26 rfl w.heap.size 142 i0 _ 3 40 Tryz.underlying26 hi hz0 hz1 hz2 rfl (by decide) _ _ _ rfl ((HO4.out.alloc _).alloc _) _ _ _ _ _ rfl hfr (by simp [Value.oneCell']) (by unfold maxLen; omega) (by omega) (by simp; omega) ?_; intro v6 w6 hown6 hg6 hat6)
                      have HB6 := hidden (((HB4.out.alloc hbs4 _).alloc (by simp; omega) _).grown hg6 (by simp; omega) (fun j hj => (HO4.out.lt j hj).1))
                      rw [HCS.out] at hown6
                      have HO6 := hidden hown6
                      obtain ⟨A6, c6, rfl, hc6, _⟩ := own_shape hown6
                      clear hown6 hg6 hat6 hfr
                      go_wp2_with fail
                      go_ret2
                      rw [HP.out]
                      exact ⟨_, rfl, by simpa [okM] using HO6.out, HB6.out⟩
                  · have en : ((n : Int) == (s.size : Int)) = false := by simp; omega
                    have hns : n < s.size := by omega
                    have nlt : (n : Int) < (s.size : Int) := by omega
                    obtain ⟨c, hce, hcat⟩ := str_at hns
                    have nw : IntKind.i64.wrap ((n : Int) + 1) = (n : Int) + 1 := Go.IntWalk.i64_in _ (by omega)
                    have hcb := size_lt c
                    by_cases h44 : c = 44
                    · have c44 : ((c.toNat : Int) != 44) = false := by rw [h44]; rfl
                      have HP := hidden (hp.out.trans (parM_go HK.out HQ.out HUO.out hlt HE.out hend (by rw [hcat, h44])))
                      rw [HMM.out, HUU.out] at HP
                      have HN := hidden (And.intro hkn hn)
                      clear hp hend hcat h44
                      rcases hel with e61 | ⟨e61, e33⟩
                      all_goals
                        go_wp2_with fail
                        refine (S1.out _).mono ?_
                        rintro e w2 ⟨rfl, rfl⟩
                        go_wp2_with fail
                        refine (S2.out _).mono ?_
                        rintro e w3 ⟨rfl, b3⟩
                        have HB3 := hidden (HBL.out.trans (b3.mono hbs))
                        have HO3 := hidden (own_below HO.out b3 (Nat.le_refl _))
                        clear b3
                        go_wp2_with fail
                        refine (S3.out _).mono ?_
                        rintro e w4 ⟨v4, rfl, hv4, _, b4⟩
                        obtain rfl := hv4 trivial
                        have HB4 := hidden (HB3.out.trans (b4.mono HB3.out.size))
                        have HO4 := hidden (own_below HO3.out b4 (Nat.le_refl _))
                        clear b4 hv4
                        have hbs4 := HB4.out.size
                        have hol2 : out.length ≤ 16777216 := by omega
                        have hfr := HFR.out (w4.alloc (.cells #[.int .i64 (q : Int), .string M, .string U] 142))
                        rw [World.size_alloc] at hfr
                        go_wp2_with (at_builtin; refine wpList_app _ rfl _ _ 26 rfl w.heap.size 142 i0 _ 3 40 Tryz.underlying26 hi hz0 hz1 hz2 rfl (by decide) _ _ _ rfl ((HO4.out.alloc _).alloc _) _ _ _ _ _ rfl hfr (by simp [Value.oneCell']) (by unfold maxLen; omega) (by omega) (by simp; omega) ?_; intro v6 w6 hown6 hg6 hat6)
                        have HB6 := hidden (((HB4.out.alloc hbs4 _).alloc (by simp; omega) _).grown hg6 (by simp; omega) (fun j hj => (HO4.out.lt j hj).1))
                        rw [HCS.out] at hown6
                        have HO6 := hidden hown6
                        obtain ⟨A6, c6, rfl, hc6, _⟩ := own_shape hown6
                        clear hown6 hg6 hat6 hfr
                        go_wp2_with fail
                        go_roundw
                        case rel => exact ⟨n + 1, f, _, by go_num, by have := HN.out; omega, by have := HN.out; omega, by have := HN.out; simp; omega, HP, by simpa using HO6.out, HB6.out⟩
                        case measure => have := HN.out; simp [intOf]; omega
                    · have c44 : ((c.toNat : Int) != 44) = true := by
                        simp only [bne_iff_ne, ne_eq]
                        exact fun h => h44 (u8_eq (b := 44) (show c.toNat = 44 by omega))
                      have HP := hidden (hp.out.trans (parM_stop HK.out HQ.out HUO.out hlt HE.out hend (by rw [hcat]; exact fun h => h44 (Option.some.inj h))))
                      clear hp hend hcat h44
                      rcases hel with e61 | ⟨e61, e33⟩
                      all_goals
                        go_wp2_with fail
                        refine (S1.out _).mono ?_
                        rintro e w2 ⟨rfl, rfl⟩
                        go_wp2_with fail
                        refine (S2.out _).mono ?_
                        rintro e w3 ⟨rfl, b3⟩
                        have HB3 := hidden (HBL.out.trans (b3.mono hbs))
                        have HO3 := hidden (own_below HO.out b3 (Nat.le_refl _))
                        clear b3
                        go_wp2_with fail
                        refine (S3.out _).mono ?_
                        rintro e w4 ⟨v4, rfl, hv4, _, b4⟩
                        obtain rfl := hv4 trivial
                        have HB4 := hidden (HB3.out.trans (b4.mono HB3.out.size))
                        have HO4 := hidden (own_below HO3.out b4 (Nat.le_refl _))
                        clear b4 hv4
                        have hbs4 := HB4.out.size
                        have hol2 : out.length ≤ 16777216 := by omega
                        have hfr := HFR.out (w4.alloc (.cells #[.int .i64 (q : Int), .string M, .string U] 142))
                        rw [World.size_alloc] at hfr
                        go_wp2_with (at_builtin; refine wpList_app _ rfl _ _ 26 rfl w.heap.size 142 i0 _ 3 40 Tryz.underlying26 hi hz0 hz1 hz2 rfl (by decide) _ _ _ rfl ((HO4.out.alloc _).alloc _) _ _ _ _ _ rfl hfr (by simp [Value.oneCell']) (by unfold maxLen; omega) (by omega) (by simp; omega) ?_; intro v6 w6 hown6 hg6 hat6)
                        have HB6 := hidden (((HB4.out.alloc hbs4 _).alloc (by simp; omega) _).grown hg6 (by simp; omega) (fun j hj => (HO4.out.lt j hj).1))
                        rw [HCS.out] at hown6
                        have HO6 := hidden hown6
                        obtain ⟨A6, c6, rfl, hc6, _⟩ := own_shape hown6
                        clear hown6 hg6 hat6 hfr
                        go_wp2_with fail
                        go_ret2
                        rw [HP.out]
                        exact ⟨_, rfl, World.ownsRow_nil _ _ _ _, HB6.out⟩
                · obtain ⟨E, hE⟩ : ∃ E, newE (q : Int) M U = E := ⟨_, rfl⟩
                  rw [hE] at S3 he
                  have HP := hidden (hp.out.trans (parM_new HK.out HQ.out HUO.out hlt (by rw [HMM.out, HUU.out, hE]; exact he)))
                  rw [HMM.out, HUU.out, hE] at HP
                  have eE : ((E : Int) != 0) = true := by simp; omega
                  clear hp hE he
                  rcases hel with e61 | ⟨e61, e33⟩
                  all_goals
                    go_wp2_with fail
                    refine (S1.out _).mono ?_
                    rintro e w2 ⟨rfl, rfl⟩
                    go_wp2_with fail
                    refine (S2.out _).mono ?_
                    rintro e w3 ⟨rfl, b3⟩
                    have HB3 := hidden (HBL.out.trans (b3.mono hbs))
                    clear b3
                    go_wp2_with fail
                    refine (S3.out _).mono ?_
                    rintro e w4 ⟨v4, rfl, _, ⟨a3, b3, c3, rfl⟩, b4⟩
                    have HB4 := hidden (HB3.out.trans (b4.mono HB3.out.size))
                    clear b4
                    go_wp2_with fail
                    go_ret2
                    rw [HP.out]
                    exact ⟨_, rfl, World.ownsRow_nil _ _ _ _, HB4.out.alloc HB4.out.size _⟩
        · obtain rfl : k = s.size := by omega
          have k1 : decide ((s.size : Int) < (s.size : Int)) = false := by simp
          have HU := hidden (hp.out.trans (parM_end (f := f + 1) (out := out) (Nat.le_of_eq (sgn_none (l := s.data.toList) (a := a) (by omega) fun i h1 c hc => hno.out i h1 (by have := (List.getElem?_eq_some_iff.1 hc).1; omega) c hc).symm)))
          clear hno hp
          go_wp2_with fail
          go_ret2
          rw [HU.out]
          exact ⟨_, rfl, World.ownsRow_nil _ _ _ _, HBL.out⟩
end Go.Proofs.YtbijjjhfekkfaaaGreat
