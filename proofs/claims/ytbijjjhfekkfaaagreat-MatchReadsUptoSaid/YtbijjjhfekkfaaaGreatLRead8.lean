/- match.Read, walked. Condition: the text is not too long. -/
import Derived.Test.YtbijjjhfekkfaaaGreatIxLong
import Derived.Test.YtbijjjhfekkfaaaGreatMSign
import Derived.Test.YtbijjjhfekkfaaaGreatRRead8
import Derived.Test.YtbijjjhfekkfaaaGreatPk00b5fa70
import Derived.Test.YtbijjjhfekkfaaaGreatPk9c512980
namespace Go.Proofs.YtbijjjhfekkfaaaGreat
set_option maxRecDepth 100000
open Go.RowKit

theorem new_err {kind : Int} {name value : ByteArray} {c : Int} (h : newF kind name value = .error c) : c = (newE kind name value : Nat) := by
  unfold newF at h
  unfold newE
  by_cases h1 : kind < 0 ∨ 3 < kind
  · rw [if_pos h1] at h ⊢; cases h; rfl
  rw [if_neg h1] at h ⊢
  by_cases h2 : fitN name = true
  · have hm := (make_name name).2 h2
    rw [if_neg (show ¬ makeErr [⟨name, ⟨#[120]⟩⟩] ≠ 0 by rw [hm]; simp)] at h
    rw [if_neg (show ¬ fitN name = false by rw [h2]; simp)]
    by_cases h3 : kind ≤ 1
    · rw [if_pos h3] at h
      by_cases h4 : 64 < value.size
      · rw [if_pos h4] at h
        rw [if_pos (show kind < 2 ∧ 64 < value.size from ⟨by omega, h4⟩)]
        cases h; rfl
      · rw [if_neg h4] at h; cases h
    · rw [if_neg h3] at h
      rw [if_neg (show ¬ (kind < 2 ∧ 64 < value.size) from fun h => h3 (by omega)), if_pos (show 2 ≤ kind by omega)]
      cases hp : parseP value.data.toList with
      | bad e =>
        rw [hp] at h
        cases h
        rfl
      | ok t j => rw [hp] at h; cases h
  · have hm : makeErr [⟨name, ⟨#[120]⟩⟩] = 40 := by
      show errAt [⟨name, ⟨#[120]⟩⟩] 0 = 40
      rw [errAt]
      simp [h2]
    rw [hm] at h
    rw [if_pos (show fitN name = false by simpa using h2)]
    rw [if_pos (by decide)] at h
    cases h; rfl
theorem sgn_drop (l : List UInt8) (a : Nat) : sgn (l.drop a) 0 = sgn l a := by unfold sgn; rw [List.drop_zero]
theorem preP_list (s p : ByteArray) : preP s p = decide (s.data.toList.take p.size = p.data.toList) := by
  unfold preP
  have hl : (s.extract 0 p.size).data.toList = s.data.toList.take p.size := by rw [ext_list]; simp
  by_cases h : p.size ≤ s.size
  · rw [decide_eq_true h, Bool.true_and]
    refine decide_eq_decide.2 ⟨fun e => by rw [← hl, e], fun e => bytes_eq (by rw [hl, e])⟩
  · rw [decide_eq_false h, Bool.false_and]
    symm
    rw [decide_eq_false_iff_not]
    intro e
    have := congrArg List.length e
    rw [List.length_take] at this
    have h1 : s.data.toList.length = s.size := rfl
    have h2 : p.data.toList.length = p.size := rfl
    omega
theorem signPM_at {s : ByteArray} {k : Nat} {b : UInt8} (hb : s.data.toList[k]? = some b) (hs : isSgn b = true) : signPM (s.extract k s.size) = (signR s.data.toList k).1 := by
  have hd : (s.extract k s.size).data.toList = b :: s.data.toList.drop (k + 1) := by
    rw [ext_list, ← drop_at? hb]
    exact List.take_of_length_le (by rw [List.length_drop]; exact Nat.le_refl _)
  have h1 : s.data.toList[k + 1]? = (s.data.toList.drop (k + 1)).head? := by rw [List.head?_drop]
  unfold signPM signR kindAt
  simp only [preP_list, hd, h1, hb]
  generalize s.data.toList.drop (k + 1) = r
  have e2 : ∀ x y : UInt8, decide (List.take (⟨#[x, y]⟩ : ByteArray).size (b :: r) = (⟨#[x, y]⟩ : ByteArray).data.toList) = (decide (b = x) && decide (r.head? = some y)) := fun x y => by
    show decide (List.take 2 (b :: r) = [x, y]) = _
    cases r with
    | nil => simp
    | cons c r => simp
  have e1 : decide (List.take (⟨#[61]⟩ : ByteArray).size (b :: r) = (⟨#[61]⟩ : ByteArray).data.toList) = decide (b = 61) := by
    show decide (List.take 1 (b :: r) = [61]) = _
    simp
  rw [e2, e2, e2, e1]
  rcases sgn_cases hs with rfl | rfl
  · by_cases h : r.head? = some 126
    · simp [h]
    · simp [h]
  · by_cases h : r.head? = some 126
    · simp [h]
    · by_cases h' : r.head? = some 61
      · simp [h']
      · simp [h, h']
theorem sgnI_at2 {s : ByteArray} {a : Nat} (h : a ≤ s.size) : sgnI (s.extract a s.size).data.toList = if a + sgn s.data.toList a < s.size then (sgn s.data.toList a : Int) else -1 := by
  have hd : (s.extract a s.size).data.toList = s.data.toList.drop a := by
    rw [ext_list]
    exact List.take_of_length_le (by rw [List.length_drop]; exact Nat.le_refl _)
  rw [hd, sgnI, sgn_drop, List.length_drop]
  have h1 : s.data.toList.length = s.size := rfl
  by_cases h2 : a + sgn s.data.toList a < s.size
  · rw [if_pos h2, if_pos (by omega)]
  · rw [if_neg h2, if_neg (by omega)]
/-- what a matcher was asked for -/
def Mt.ask (x : Mt) : Ask := ⟨x.kind, x.name, x.value⟩
/-- where the reader stands: an item is to come, or all is read -/
def At8 (s : ByteArray) (a f : Nat) (A : List Ask) : Prop := (a < s.size ∧ s.size < a + f ∧ readM s = parM s f a A) ∨ (s.size ≤ a ∧ readM s = .ok A)
set_option maxHeartbeats 6400000 in
theorem lread8_any (s : ByteArray) (w : World) (hs : s.size ≤ 16777216) :
    Calls Tryz.prog 10 #[.string s] w fun e w' => ∃ v ms, e = .returned (.tuple #[v, .int .i64 (errM (readM s) : Nat)]) ∧ OwnM w' w.heap.size v ms ∧ ms.map Mt.ask = okM (readM s) ∧ Below w.heap.size w w' := by
  obtain ⟨i0, hi, hz0, hz1, hz2⟩ := info_parts infoM
  have sl : s.data.toList.length = s.size := rfl
  go_enter Tryz.func10, Tryz.ntmps10
  go_wp2_with fail
  go_loopw [4, 5] (fun vo va wr => ∃ (a f : Nat) (ms : List Mt), va = .int .i64 a ∧ Hid (At8 s a f (ms.map Mt.ask)) ∧ a ≤ s.size + 1 ∧ ms.length ≤ a ∧ Hid (OwnM wr w.heap.size vo ms) ∧ Hid (Below w.heap.size w wr)) (fun _ va _ => s.size + 1 - (intOf va).toNat)
  case atStart =>
    refine ⟨0, s.size + 1, [], rfl, ?_, Nat.zero_le _, Nat.zero_le _, hidden ⟨World.ownsRow_nil _ _ _ _, by simp⟩, hidden (Below.refl _ _)⟩
    by_cases h0 : s.size = 0
    · exact .inr ⟨by omega, by rw [readM, if_pos h0]; rfl⟩
    · exact .inl ⟨by omega, by omega, by rw [readM, if_neg h0]; rfl⟩
  case round =>
    obtain ⟨a, f, ms, rfl, hA, ha, hml, hO, hB⟩ := hrel
    have a0 : (0 : Int) ≤ (a : Int) := by omega
    have hbs := hB.out.size
    by_cases hlt : a < s.size
    · have a1 : (a : Int) < (s.size : Int) := by omega
      have a2 : (a : Int) ≤ (s.size : Int) := by omega
      obtain ⟨hf, hp⟩ : s.size < a + f ∧ readM s = parM s f a (ms.map Mt.ask) := by
        rcases hA.out with h | h
        · exact h.2
        · have := h.1; omega
      have HP := hidden hp
      obtain ⟨f, rfl⟩ : ∃ f', f = f' + 1 := ⟨f - 1, by omega⟩
      have S1 := hidden (iany_any (s.extract a s.size) wr (Nat.le_trans (ext_le s a s.size) hs))
      rw [sgnI_at2 (by omega)] at S1
      obtain ⟨i, hsi⟩ : ∃ i, sgn s.data.toList a = i := ⟨_, rfl⟩
      rw [hsi] at S1
      by_cases hk : a + i < s.size
      · rw [if_pos hk] at S1
        obtain ⟨b, hbat, hsg⟩ := sgn_here (l := s.data.toList) (a := a) (by omega)
        rw [hsi] at hbat
        obtain ⟨k, hkk⟩ : ∃ k, a + i = k := ⟨_, rfl⟩
        rw [hkk] at hbat hk
        have HK := hidden (show a + sgn s.data.toList a = k by omega)
        have ii0 : decide ((i : Int) < 0) = false := by simp
        have ik : IntKind.i64.wrap ((a : Int) + (i : Int)) = (k : Int) := by rw [show (a : Int) + (i : Int) = (k : Int) by omega]; exact Go.IntWalk.i64_in _ (by omega)
        have k0 : (0 : Int) ≤ (k : Int) := by omega
        have k1 : (a : Int) ≤ (k : Int) := by omega
        have k2 : (k : Int) ≤ (s.size : Int) := by omega
        have S2 := hidden (fun W => msign_any (s.extract k s.size) W (Nat.le_trans (ext_le s k s.size) hs))
        rw [signPM_at hbat hsg] at S2
        have HKI := hidden (And.intro hkk hk)
        clear hbat hsg hsi hkk hp hA
        cases hq : kindAt s.data.toList k with
        | none =>
          have HU := hidden (HP.out.trans (parM_kind HK.out hq))
          rw [show signR s.data.toList k = (-1, 0) from by rw [signR, hq]] at S2
          clear hq
          go_wp2_with fail
          refine S1.out.mono ?_
          rintro e w2 ⟨rfl, b2⟩
          have HB2 := hidden (hB.out.trans (b2.mono hbs))
          clear b2
          go_wp2_with fail
          refine (S2.out _).mono ?_
          rintro e w3 ⟨rfl, b3⟩
          have HB3 := hidden (HB2.out.trans (b3.mono HB2.out.size))
          clear b3
          go_wp2_with fail
          go_ret2
          rw [HU.out]
          exact ⟨_, [], rfl, ⟨World.ownsRow_nil _ _ _ _, by simp⟩, rfl, HB3.out⟩
        | some pr =>
          obtain ⟨q, d⟩ := pr
          obtain ⟨hq4, hdq, hd1⟩ := kindAt_lt hq
          have hd2 : d ≤ 2 := by
            rw [hdq]
            obtain rfl | rfl | rfl | rfl : q = 0 ∨ q = 1 ∨ q = 2 ∨ q = 3 := by omega
            all_goals decide
          rw [show signR s.data.toList k = ((q : Int), (d : Int)) from by rw [signR, hq]] at S2
          have HQ := hidden hq
          have q0 : decide ((q : Int) < 0) = false := by simp
          have hix := ix_signs q hq4
          obtain ⟨sq, hsq⟩ : ∃ sq, signK q = sq := ⟨_, rfl⟩
          rw [hsq] at hix hdq
          have hsz : (sq.size : Int) = (d : Int) := by omega
          have kd : IntKind.i64.wrap ((k : Int) + (d : Int)) = (k : Int) + (d : Int) := Go.IntWalk.i64_in _ (by omega)
          have S3 := hidden (fun W => signs_any W)
          have S4 := hidden (fun W => unquote_any s ((k : Int) + (d : Int)) W hs (by omega) (by omega))
          rw [show (k : Int) + (d : Int) = ((k + d : Nat) : Int) by omega] at S4
          clear hq hdq hsq
          cases hu : unqO s (k + d) with
          | none =>
            rw [unqP_no hu, show ((k + d : Nat) : Int) = (k : Int) + (d : Int) by omega] at S4
            have HU := hidden (HP.out.trans (parM_unq HK.out HQ.out hu))
            clear hu
            go_wp2_with fail
            refine S1.out.mono ?_
            rintro e w2 ⟨rfl, b2⟩
            have HB2 := hidden (hB.out.trans (b2.mono hbs))
            clear b2
            go_wp2_with fail
            refine (S2.out _).mono ?_
            rintro e w3 ⟨rfl, b3⟩
            have HB3 := hidden (HB2.out.trans (b3.mono HB2.out.size))
            clear b3
            go_wp2_with fail
            refine (S3.out _).mono ?_
            rintro e w4 ⟨rfl, b4⟩
            have HB4 := hidden (HB3.out.trans (b4.mono HB3.out.size))
            clear b4
            go_wp2_with fail
            refine (S4.out _).mono ?_
            rintro e w5 ⟨rfl, b5⟩
            have HB5 := hidden (HB4.out.trans (b5.mono HB4.out.size))
            clear b5
            go_wp2_with fail
            go_ret2
            rw [HU.out]
            exact ⟨_, [], rfl, ⟨World.ownsRow_nil _ _ _ _, by simp⟩, rfl, HB5.out⟩
          | some pr =>
            obtain ⟨u, n⟩ := pr
            rw [unqP_yes hu, show ((k + d : Nat) : Int) = (k : Int) + (d : Int) by omega] at S4
            obtain ⟨hu1, hn, hkn⟩ := unqO_in hu
            have HUO := hidden hu
            obtain ⟨U, hU⟩ : ∃ U, (⟨u.toArray⟩ : ByteArray) = U := ⟨_, rfl⟩
            have hUs : U.size ≤ s.size := by rw [← hU]; exact hu1
            obtain ⟨M, hM⟩ : ∃ M, s.extract a k = M := ⟨_, rfl⟩
            have hMs : M.size ≤ s.size := by rw [← hM]; exact ext_le s a k
            have HMM := hidden hM
            have HUU := hidden hU
            rw [hU] at S4
            have S5 := hidden (fun W => new_any (q : Int) M U W (by omega) (by omega))
            clear hu hU
            cases hN : newF (q : Int) M U with
            | error c =>
              rw [hN] at S5
              have hce := new_err hN
              have hne : newE (q : Int) M U ≠ 0 := fun h => by
                obtain ⟨F, hF⟩ := (new_iff _ _ _).1 h
                rw [hN] at hF; cases hF
              have HU := hidden (HP.out.trans (parM_new HK.out HQ.out HUO.out HKI.out.2 (by rw [HMM.out, HUU.out]; exact hne)))
              rw [HMM.out, HUU.out] at HU
              have HCE := hidden hce
              have hne0 : ((newE (q : Int) M U : Nat) : Int) ≠ 0 := by omega
              clear hN hne hce
              go_wp2_with fail
              refine S1.out.mono ?_
              rintro e w2 ⟨rfl, b2⟩
              have HB2 := hidden (hB.out.trans (b2.mono hbs))
              clear b2
              go_wp2_with fail
              refine (S2.out _).mono ?_
              rintro e w3 ⟨rfl, b3⟩
              have HB3 := hidden (HB2.out.trans (b3.mono HB2.out.size))
              clear b3
              go_wp2_with fail
              refine (S3.out _).mono ?_
              rintro e w4 ⟨rfl, b4⟩
              have HB4 := hidden (HB3.out.trans (b4.mono HB3.out.size))
              clear b4
              go_wp2_with fail
              refine (S4.out _).mono ?_
              rintro e w5 ⟨rfl, b5⟩
              have HB5 := hidden (HB4.out.trans (b5.mono HB4.out.size))
              clear b5
              go_wp2_with fail
              have c0 : (c != 0) = true := by rw [HCE.out]; simpa using hne0
              refine (S5.out _).mono ?_
              rintro e w6 ⟨b6, rfl, _⟩
              have HB6 := hidden (HB5.out.trans (b6.mono HB5.out.size))
              clear b6
              go_wp2_with fail
              go_ret2
              rw [HU.out]
              exact ⟨_, [], by rw [HCE.out]; rfl, ⟨World.ownsRow_nil _ _ _ _, by simp⟩, rfl, HB6.out⟩
            | ok F =>
              rw [hN] at S5
              have he0 : newE (q : Int) M U = 0 := (new_iff _ _ _).2 ⟨F, hN⟩
              have HE := hidden (show newE (q : Int) (s.extract a k) ⟨u.toArray⟩ = 0 by rw [HMM.out, HUU.out]; exact he0)
              clear hN he0
              have n0 : (0 : Int) ≤ (n : Int) := by omega
              have nsw : IntKind.i64.wrap ((s.size : Int) - 1) = (s.size : Int) - 1 := Go.IntWalk.i64_in _ (by omega)
              have nw : IntKind.i64.wrap ((n : Int) + 1) = (n : Int) + 1 := Go.IntWalk.i64_in _ (by omega)
              by_cases hend : n = s.size
              · have nlt : ¬ n < s.size := by omega
                have neq : ((n : Int) == (s.size : Int) - 1) = false := by simp; omega
                have HU := hidden (HP.out.trans (parM_last HK.out HQ.out HUO.out HKI.out.2 HE.out hend))
                rw [HMM.out, HUU.out] at HU
                have HEND := hidden hend
                clear hend
                go_wp2_with fail
                refine S1.out.mono ?_
                rintro e w2 ⟨rfl, b2⟩
                have HB2 := hidden (hB.out.trans (b2.mono hbs))
                have HO2 := hidden (hO.out.on b2)
                clear b2
                go_wp2_with fail
                refine (S2.out _).mono ?_
                rintro e w3 ⟨rfl, b3⟩
                have HB3 := hidden (HB2.out.trans (b3.mono HB2.out.size))
                have HO3 := hidden (HO2.out.on b3)
                clear b3 HO2
                go_wp2_with fail
                refine (S3.out _).mono ?_
                rintro e w4 ⟨rfl, b4⟩
                have HB4 := hidden (HB3.out.trans (b4.mono HB3.out.size))
                have HO4 := hidden (HO3.out.on b4)
                clear b4 HO3
                go_wp2_with fail
                refine (S4.out _).mono ?_
                rintro e w5 ⟨rfl, b5⟩
                have HB5 := hidden (HB4.out.trans (b5.mono HB4.out.size))
                have HO5 := hidden (HO4.out.on b5)
                clear b5 HO4
                go_wp2_with fail
                refine (S5.out _).mono ?_
                rintro e w6 ⟨b6, Mk, rfl, hmk⟩
                have HB6 := hidden (HB5.out.trans (b6.mono HB5.out.size))
                have HO6 := hidden (HO5.out.on b6)
                have HMK := hidden hmk
                have ho6 := HO6.out.1
                have hbs6 := HB6.out.size
                have hfr := Row.fresh w6 30 1 1 [.pointer (some ⟨Mk, 0, none⟩)] rfl
                obtain ⟨A6, c6, e6, hc6, _⟩ := own_shape ho6
                subst e6
                clear b6 hmk HO5
                go_wp2_with (at_builtin; refine wpList_app _ rfl _ _ 22 rfl w.heap.size 30 i0 _ 1 8 Tryz.underlying22 hi hz0 hz1 hz2 rfl (by decide) _ _ _ rfl (ho6.alloc _) _ _ _ _ _ rfl hfr (by simp [Value.oneCell']) (by unfold maxLen; omega) (by omega) (by simp; omega) ?_; intro v7 w7 hown7 hg7 hat7)
                have HB7 := hidden ((HB6.out.alloc hbs6 _).grown hg7 (by simp; omega) (fun j hj => (ho6.lt j hj).1))
                have HO7 := hidden (show OwnM w7 w.heap.size v7 (ms ++ [⟨Mk, (q : Int), M, U, F⟩]) from by
                  refine ⟨by rw [List.length_append, List.length_singleton, List.map_append]; exact hown7, fun y hy => ?_⟩
                  have hal : Below w6.heap.size w6 (w6.alloc (.cells #[.pointer (some ⟨Mk, 0, none⟩)] 30)) := (Below.refl _ _).alloc (Nat.le_refl _) _
                  refine MatAt.others (others_on (ho6.alloc (.cells #[.pointer (some ⟨Mk, 0, none⟩)] 30)) hg7) ?_
                  rcases List.mem_append.1 hy with hy | hy
                  · exact (HO6.out.2 y hy).on hal
                  · rw [List.mem_singleton.1 hy]; exact HMK.out.on hal)
                obtain ⟨A7, c7, e7, hc7, _⟩ := own_shape hown7
                clear hown7 hg7 hat7 hfr ho6
                subst e7
                go_wp2_with fail
                go_roundw
                case rel => exact ⟨n + 1, 0, _, by go_num, hidden (.inr ⟨by have := HEND.out; omega, by rw [HU.out, List.map_append]; rfl⟩), by have := HEND.out; omega, by simp; omega, HO7, HB7⟩
                case measure => have := HEND.out; simp [intOf]; omega
              · have hns : n < s.size := by omega
                have nlt : (n : Int) < (s.size : Int) := by omega
                obtain ⟨c, hce, hcat⟩ := str_at hns
                have hcb := size_lt c
                by_cases h44 : c = 44
                · have c44 : ((c.toNat : Int) != 44) = false := by rw [h44]; rfl
                  rw [h44] at hcat
                  by_cases hn1 : n + 1 = s.size
                  · have neq : ((n : Int) == (s.size : Int) - 1) = true := by simp; omega
                    have HU := hidden (HP.out.trans (parM_tail HK.out HQ.out HUO.out HKI.out.2 HE.out hend hcat hn1))
                    clear hcat hend h44 hn1
                    go_wp2_with fail
                    refine S1.out.mono ?_
                    rintro e w2 ⟨rfl, b2⟩
                    have HB2 := hidden (hB.out.trans (b2.mono hbs))
                    have HO2 := hidden (hO.out.on b2)
                    clear b2
                    go_wp2_with fail
                    refine (S2.out _).mono ?_
                    rintro e w3 ⟨rfl, b3⟩
                    have HB3 := hidden (HB2.out.trans (b3.mono HB2.out.size))
                    have HO3 := hidden (HO2.out.on b3)
                    clear b3 HO2
                    go_wp2_with fail
                    refine (S3.out _).mono ?_
                    rintro e w4 ⟨rfl, b4⟩
                    have HB4 := hidden (HB3.out.trans (b4.mono HB3.out.size))
                    have HO4 := hidden (HO3.out.on b4)
                    clear b4 HO3
                    go_wp2_with fail
                    refine (S4.out _).mono ?_
                    rintro e w5 ⟨rfl, b5⟩
                    have HB5 := hidden (HB4.out.trans (b5.mono HB4.out.size))
                    have HO5 := hidden (HO4.out.on b5)
                    clear b5 HO4
                    go_wp2_with fail
                    refine (S5.out _).mono ?_
                    rintro e w6 ⟨b6, Mk, rfl, hmk⟩
                    have HB6 := hidden (HB5.out.trans (b6.mono HB5.out.size))
                    have HO6 := hidden (HO5.out.on b6)
                    have HMK := hidden hmk
                    have ho6 := HO6.out.1
                    have hbs6 := HB6.out.size
                    have hfr := Row.fresh w6 30 1 1 [.pointer (some ⟨Mk, 0, none⟩)] rfl
                    obtain ⟨A6, c6, e6, hc6, _⟩ := own_shape ho6
                    subst e6
                    clear b6 hmk HO5
                    go_wp2_with (at_builtin; refine wpList_app _ rfl _ _ 22 rfl w.heap.size 30 i0 _ 1 8 Tryz.underlying22 hi hz0 hz1 hz2 rfl (by decide) _ _ _ rfl (ho6.alloc _) _ _ _ _ _ rfl hfr (by simp [Value.oneCell']) (by unfold maxLen; omega) (by omega) (by simp; omega) ?_; intro v7 w7 hown7 hg7 hat7)
                    have HB7 := hidden ((HB6.out.alloc hbs6 _).grown hg7 (by simp; omega) (fun j hj => (ho6.lt j hj).1))
                    have HO7 := hidden (show OwnM w7 w.heap.size v7 (ms ++ [⟨Mk, (q : Int), M, U, F⟩]) from by
                      refine ⟨by rw [List.length_append, List.length_singleton, List.map_append]; exact hown7, fun y hy => ?_⟩
                      have hal : Below w6.heap.size w6 (w6.alloc (.cells #[.pointer (some ⟨Mk, 0, none⟩)] 30)) := (Below.refl _ _).alloc (Nat.le_refl _) _
                      refine MatAt.others (others_on (ho6.alloc (.cells #[.pointer (some ⟨Mk, 0, none⟩)] 30)) hg7) ?_
                      rcases List.mem_append.1 hy with hy | hy
                      · exact (HO6.out.2 y hy).on hal
                      · rw [List.mem_singleton.1 hy]; exact HMK.out.on hal)
                    obtain ⟨A7, c7, e7, hc7, _⟩ := own_shape hown7
                    clear hown7 hg7 hat7 hfr ho6
                    subst e7
                    go_wp2_with fail
                    go_ret2
                    rw [HU.out]
                    exact ⟨_, [], rfl, ⟨World.ownsRow_nil _ _ _ _, by simp⟩, rfl, HB7.out⟩
                  · have neq : ((n : Int) == (s.size : Int) - 1) = false := by simp; omega
                    have HU := hidden (HP.out.trans (parM_more HK.out HQ.out HUO.out HKI.out.2 HE.out hend hcat hn1))
                    rw [HMM.out, HUU.out] at HU
                    have HN1 := hidden (And.intro hn1 hns)
                    clear hcat hend h44 hn1
                    go_wp2_with fail
                    refine S1.out.mono ?_
                    rintro e w2 ⟨rfl, b2⟩
                    have HB2 := hidden (hB.out.trans (b2.mono hbs))
                    have HO2 := hidden (hO.out.on b2)
                    clear b2
                    go_wp2_with fail
                    refine (S2.out _).mono ?_
                    rintro e w3 ⟨rfl, b3⟩
                    have HB3 := hidden (HB2.out.trans (b3.mono HB2.out.size))
                    have HO3 := hidden (HO2.out.on b3)
                    clear b3 HO2
                    go_wp2_with fail
                    refine (S3.out _).mono ?_
                    rintro e w4 ⟨rfl, b4⟩
                    have HB4 := hidden (HB3.out.trans (b4.mono HB3.out.size))
                    have HO4 := hidden (HO3.out.on b4)
                    clear b4 HO3
                    go_wp2_with fail
                    refine (S4.out _).mono ?_
                    rintro e w5 ⟨rfl, b5⟩
                    have HB5 := hidden (HB4.out.trans (b5.mono HB4.out.size))
                    have HO5 := hidden (HO4.out.on b5)
                    clear b5 HO4
                    go_wp2_with fail
                    refine (S5.out _).mono ?_
                    rintro e w6 ⟨b6, Mk, rfl, hmk⟩
                    have HB6 := hidden (HB5.out.trans (b6.mono HB5.out.size))
                    have HO6 := hidden (HO5.out.on b6)
                    have HMK := hidden hmk
                    have ho6 := HO6.out.1
                    have hbs6 := HB6.out.size
                    have hfr := Row.fresh w6 30 1 1 [.pointer (some ⟨Mk, 0, none⟩)] rfl
                    obtain ⟨A6, c6, e6, hc6, _⟩ := own_shape ho6
                    subst e6
                    clear b6 hmk HO5
                    go_wp2_with (at_builtin; refine wpList_app _ rfl _ _ 22 rfl w.heap.size 30 i0 _ 1 8 Tryz.underlying22 hi hz0 hz1 hz2 rfl (by decide) _ _ _ rfl (ho6.alloc _) _ _ _ _ _ rfl hfr (by simp [Value.oneCell']) (by unfold maxLen; omega) (by omega) (by simp; omega) ?_; intro v7 w7 hown7 hg7 hat7)
                    have HB7 := hidden ((HB6.out.alloc hbs6 _).grown hg7 (by simp; omega) (fun j hj => (ho6.lt j hj).1))
                    have HO7 := hidden (show OwnM w7 w.heap.size v7 (ms ++ [⟨Mk, (q : Int), M, U, F⟩]) from by
                      refine ⟨by rw [List.length_append, List.length_singleton, List.map_append]; exact hown7, fun y hy => ?_⟩
                      have hal : Below w6.heap.size w6 (w6.alloc (.cells #[.pointer (some ⟨Mk, 0, none⟩)] 30)) := (Below.refl _ _).alloc (Nat.le_refl _) _
                      refine MatAt.others (others_on (ho6.alloc (.cells #[.pointer (some ⟨Mk, 0, none⟩)] 30)) hg7) ?_
                      rcases List.mem_append.1 hy with hy | hy
                      · exact (HO6.out.2 y hy).on hal
                      · rw [List.mem_singleton.1 hy]; exact HMK.out.on hal)
                    obtain ⟨A7, c7, e7, hc7, _⟩ := own_shape hown7
                    clear hown7 hg7 hat7 hfr ho6
                    subst e7
                    go_wp2_with fail
                    go_roundw
                    case rel => exact ⟨n + 1, f, _, by go_num, hidden (.inl ⟨by have := HN1.out; omega, by omega, by rw [HU.out, List.map_append]; rfl⟩), by have := HN1.out; omega, by simp; omega, HO7, HB7⟩
                    case measure => have := HN1.out; simp [intOf]; omega
                · have c44 : ((c.toNat : Int) != 44) = true := by
                    simp only [bne_iff_ne, ne_eq]
                    exact fun h => h44 (u8_eq (b := 44) (show c.toNat = 44 by omega))
                  have HU := hidden (HP.out.trans (parM_stop HK.out HQ.out HUO.out HKI.out.2 HE.out hend (by rw [hcat]; exact fun h => h44 (Option.some.inj h))))
                  clear hcat hend h44
                  go_wp2_with fail
                  refine S1.out.mono ?_
                  rintro e w2 ⟨rfl, b2⟩
                  have HB2 := hidden (hB.out.trans (b2.mono hbs))
                  have HO2 := hidden (hO.out.on b2)
                  clear b2
                  go_wp2_with fail
                  refine (S2.out _).mono ?_
                  rintro e w3 ⟨rfl, b3⟩
                  have HB3 := hidden (HB2.out.trans (b3.mono HB2.out.size))
                  have HO3 := hidden (HO2.out.on b3)
                  clear b3 HO2
                  go_wp2_with fail
                  refine (S3.out _).mono ?_
                  rintro e w4 ⟨rfl, b4⟩
                  have HB4 := hidden (HB3.out.trans (b4.mono HB3.out.size))
                  have HO4 := hidden (HO3.out.on b4)
                  clear b4 HO3
                  go_wp2_with fail
                  refine (S4.out _).mono ?_
                  rintro e w5 ⟨rfl, b5⟩
                  have HB5 := hidden (HB4.out.trans (b5.mono HB4.out.size))
                  have HO5 := hidden (HO4.out.on b5)
                  clear b5 HO4
                  go_wp2_with fail
                  refine (S5.out _).mono ?_
                  rintro e w6 ⟨b6, Mk, rfl, hmk⟩
                  have HB6 := hidden (HB5.out.trans (b6.mono HB5.out.size))
                  have HO6 := hidden (HO5.out.on b6)
                  have HMK := hidden hmk
                  have ho6 := HO6.out.1
                  have hbs6 := HB6.out.size
                  have hfr := Row.fresh w6 30 1 1 [.pointer (some ⟨Mk, 0, none⟩)] rfl
                  obtain ⟨A6, c6, e6, hc6, _⟩ := own_shape ho6
                  subst e6
                  clear b6 hmk HO5
                  go_wp2_with (at_builtin; refine wpList_app _ rfl _ _ 22 rfl w.heap.size 30 i0 _ 1 8 Tryz.underlying22 hi hz0 hz1 hz2 rfl (by decide) _ _ _ rfl (ho6.alloc _) _ _ _ _ _ rfl hfr (by simp [Value.oneCell']) (by unfold maxLen; omega) (by omega) (by simp; omega) ?_; intro v7 w7 hown7 hg7 hat7)
                  have HB7 := hidden ((HB6.out.alloc hbs6 _).grown hg7 (by simp; omega) (fun j hj => (ho6.lt j hj).1))
                  have HO7 := hidden (show OwnM w7 w.heap.size v7 (ms ++ [⟨Mk, (q : Int), M, U, F⟩]) from by
                    refine ⟨by rw [List.length_append, List.length_singleton, List.map_append]; exact hown7, fun y hy => ?_⟩
                    have hal : Below w6.heap.size w6 (w6.alloc (.cells #[.pointer (some ⟨Mk, 0, none⟩)] 30)) := (Below.refl _ _).alloc (Nat.le_refl _) _
                    refine MatAt.others (others_on (ho6.alloc (.cells #[.pointer (some ⟨Mk, 0, none⟩)] 30)) hg7) ?_
                    rcases List.mem_append.1 hy with hy | hy
                    · exact (HO6.out.2 y hy).on hal
                    · rw [List.mem_singleton.1 hy]; exact HMK.out.on hal)
                  obtain ⟨A7, c7, e7, hc7, _⟩ := own_shape hown7
                  clear hown7 hg7 hat7 hfr ho6
                  subst e7
                  go_wp2_with fail
                  go_ret2
                  rw [HU.out]
                  exact ⟨_, [], rfl, ⟨World.ownsRow_nil _ _ _ _, by simp⟩, rfl, HB7.out⟩
      · rw [if_neg hk] at S1
        have HU := hidden (HP.out.trans (parM_end (by omega)))
        clear hp hA
        go_wp2_with fail
        refine S1.out.mono ?_
        rintro e w2 ⟨rfl, b2⟩
        have HB2 := hidden (hB.out.trans (b2.mono hbs))
        clear b2
        go_wp2_with fail
        go_ret2
        rw [HU.out]
        exact ⟨_, [], rfl, ⟨World.ownsRow_nil _ _ _ _, by simp⟩, rfl, HB2.out⟩
    · have a1 : decide ((a : Int) < (s.size : Int)) = false := by simp; omega
      have HU := hidden (show readM s = .ok (ms.map Mt.ask) from by
        rcases hA.out with h | h
        · have := h.1; omega
        · exact h.2)
      clear hA
      go_wp2_with fail
      go_ret2
      rw [HU.out]
      exact ⟨_, ms, rfl, hO.out, rfl, hB.out⟩
end Go.Proofs.YtbijjjhfekkfaaaGreat
