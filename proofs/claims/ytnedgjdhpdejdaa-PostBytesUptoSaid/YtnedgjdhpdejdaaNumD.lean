/- post.Decode and the reference's: rising numbers read from bytes. Condition: the text is not too long. -/
import Derived.Test.YtnedgjdhpdejdaaNumP
import Derived.Test.YtnedgjdhpdejdaaPostKit
import Derived.Test.YtnedgjdhpdejdaaReadU
import Derived.Test.YtnedgjdhpdejdaaReadR
import Derived.IntWalk
namespace Go.Proofs.Ytnedgjdhpdejdaa
set_option maxRecDepth 100000
open Go.RowKit Go.Shelf

def lenOfS : Value → Nat
  | .slice _ n _ => n
  | _ => 0

set_option maxHeartbeats 6400000 in
theorem ndec_any (s : List UInt8) (a : Int) (w : World) (hs : s.length ≤ 1048576) (ha : -9223372036854775808 ≤ a) (ha2 : a < 9223372036854775808) :
    Calls Try.prog 16 #[.string ⟨s.toArray⟩, .int .i64 a] w fun e w' => ∃ v, e = .returned (.tuple #[v, .int .i64 (decN s a).2.1, .int .i64 (decN s a).2.2]) ∧ w'.ownsRow w.heap.size 3 1 v (decN s a).1.length ((decN s a).1.map (Value.int .i64)) ∧ Below w.heap.size w w' := by
  obtain ⟨i0, hi, hz0, hz1, hz2⟩ := info_parts info_int
  have HU := hidden (readUint_any s a w (by omega) ha ha2)
  have HQ := hidden (fun p W h1 h2 => readUint_any s p W (by omega) h1 h2)
  obtain ⟨n, b0, e0, h1⟩ : ∃ n b e, readU s a = (n, b, e) := ⟨_, _, _, rfl⟩
  have hlt := readU_lt s a
  rw [h1] at HU hlt
  simp only at HU hlt
  obtain ⟨X, hX⟩ : ∃ X, (⟨s.toArray⟩ : ByteArray) = X := ⟨_, rfl⟩
  rw [hX] at HU HQ ⊢
  clear hX
  by_cases he : e0 = 0
  · subst he
    have F := hidden (readU_form h1)
    have HG := hidden (decN_go h1)
    clear h1
    go_enter Try.func16, Try.ntmps16
    go_wp2_with fail
    refine HU.out.mono ?_
    rintro e1 w1 ⟨rfl, hb1⟩
    have HB1 := hidden hb1
    clear hb1
    go_wp2_with fail
    go_loopw [1, 7, 8, 9, 10] (fun va vn ve vo vt wr => ∃ (k : Nat) (p : Int) (out : List Int) (t : Nat), va = .int .i64 p ∧ vn = .int .u64 k ∧ ve = .int .i64 0 ∧ vt = .int .u64 t ∧ k < 18446744073709551616 ∧ 0 ≤ p ∧ p ≤ s.length ∧ (out.length : Int) ≤ p ∧ t ≤ 4611686018427387904 ∧ wr.ownsRow w.heap.size 3 1 vo out.length (out.map (Value.int .i64)) ∧ Hid (decN s a = decI s k p out t) ∧ Hid (Below w.heap.size w wr)) (fun _ vn _ _ _ _ => (intOf vn).toNat)
    case atStart => exact ⟨n, b0, [], 0, rfl, rfl, rfl, rfl, hlt, by have := F.out; omega, F.out.2.2.1, by have := F.out; simp; omega, by omega, World.ownsRow_nil _ _ _ _, HG, HB1⟩
    case round =>
      obtain ⟨k, p, out, t, rfl, rfl, rfl, rfl, hk, hp0, hp1, hol, ht, ho, hdec, hb⟩ := hrel
      clear HB1 HG F
      obtain ⟨N, hN⟩ : ∃ N, out.length = N := ⟨_, rfl⟩
      have HN := hidden hN
      rw [hN] at ho
      obtain ⟨A1, c1, rfl, hc1, _⟩ := own_shape ho
      have HO := hidden ho
      clear ho
      have hNl : (N : Int) ≤ p := by omega
      match k with
      | 0 =>
        go_wp2_with fail
        go_ret3
        rw [hdec.out]
        exact ⟨_, rfl, show wr.ownsRow w.heap.size 3 1 (.slice A1 N c1) out.length _ by rw [HN.out]; exact HO.out, hb.out⟩
      | k + 1 =>
        have hk0 : (0 : Int) < ((k + 1 : Nat) : Int) := by omega
        obtain ⟨d, b, e1, h1⟩ : ∃ d b e, readU s p = (d, b, e) := ⟨_, _, _, rfl⟩
        have S1 := hidden (HQ.out p wr (by omega) (by omega))
        have hdl := readU_lt s p
        rw [h1] at S1 hdl
        simp only at S1 hdl
        have HR := hidden h1
        clear h1
        go_wp2_with fail
        refine S1.out.mono ?_
        rintro e w3 ⟨rfl, hb3⟩
        have HB3 := hidden (hb.out.trans (hb3.mono hb.out.size))
        have HO3 := hidden (own_below HO.out hb3 (Nat.le_refl _))
        clear hb3 S1 HO hb
        by_cases he1 : e1 = 0
        · subst he1
          have RO := hidden (readU_form HR.out)
          obtain ⟨r, hr⟩ : ∃ r, 4611686018427387904 - t = r := ⟨_, rfl⟩
          have wr1 : IntKind.u64.wrap (4611686018427387904 - (t : Int)) = (r : Int) := by rw [show (4611686018427387904 : Int) - (t : Int) = (r : Int) by omega]; exact Go.IntWalk.u64_in _ (by omega)
          have HD := hidden hdec.out
          clear hdec
          by_cases hbad : (0 < out.length ∧ d = 0) ∨ 4611686018427387904 - t < d
          · have HE := hidden (HD.out.trans (decI_bad HR.out hbad))
            rw [hN, hr] at hbad
            cases N with
            | zero =>
              have q1 : (r : Int) < (d : Int) := by omega
              clear hbad
              go_wp2_with fail
              go_ret3
              rw [HE.out]
              exact ⟨_, rfl, World.ownsRow_nil _ _ _ _, HB3.out⟩
            | succ N =>
              have q0 : (0 : Int) < (N : Int) + 1 := by omega
              by_cases hd0 : d = 0
              · have q1 : ((d : Int) == 0) = true := by simp [hd0]
                clear hbad hd0
                go_wp2_with fail
                go_ret3
                rw [HE.out]
                exact ⟨_, rfl, World.ownsRow_nil _ _ _ _, HB3.out⟩
              · have q1 : ((d : Int) == 0) = false := by simp; omega
                have q2 : (r : Int) < (d : Int) := by omega
                clear hbad hd0
                go_wp2_with fail
                go_ret3
                rw [HE.out]
                exact ⟨_, rfl, World.ownsRow_nil _ _ _ _, HB3.out⟩
          · have HBD := hidden hbad
            obtain ⟨T, hT⟩ : ∃ T, t + d = T := ⟨_, rfl⟩
            have HT := hidden hT
            have HTB := hidden (show T ≤ 4611686018427387904 by omega)
            rw [hN, hr] at hbad
            have ws : IntKind.u64.wrap ((t : Int) + (d : Int)) = (T : Int) := by rw [show (t : Int) + (d : Int) = (T : Int) by omega]; exact Go.IntWalk.u64_in _ (by omega)
            have wi : IntKind.i64.wrap (T : Int) = (T : Int) := Go.IntWalk.i64_in _ (by omega)
            have q2 : decide (r < d) = false := decide_eq_false (by omega)
            cases N with
            | zero =>
              clear hbad
              have hfr := Row.fresh w3 3 1 1 [.int .i64 (T : Int)] rfl
              have ho3 := HO3.out
              have hbs3 := HB3.out.size
              have HMP : Hid (out.map (Value.int .i64) ++ [.int .i64 (T : Int)] = (out ++ [(T : Int)]).map (Value.int .i64)) := by rw [Hid, List.map_append]; rfl
              go_wp2_with (at_builtin; refine wpList_app _ rfl _ _ 22 rfl w.heap.size 3 i0 _ 1 8 Try.underlying22 hi hz0 hz1 hz2 rfl (by decide) _ _ _ rfl (ho3.alloc _) _ _ _ _ _ rfl hfr (by simp [Value.oneCell']) (by unfold maxLen; omega) (by omega) (by simp; omega) ?_; intro v9 w9 hown9 hg9 hat9)
              rw [HMP.out] at hown9
              have hb9 := hidden ((HB3.out.alloc hbs3 _).grown hg9 (by simp; omega) (fun q hq => (ho3.lt q hq).1))
              have HO9 := hidden (show w9.ownsRow w.heap.size 3 1 v9 (out ++ [(T : Int)]).length ((out ++ [(T : Int)]).map (Value.int .i64)) by simpa [HN.out] using hown9)
              clear hown9 hg9 hat9 hfr ho3 hbs3
              go_roundw
              case rel => exact ⟨k, b, out ++ [(T : Int)], T, rfl, by go_num, rfl, rfl, by omega, by have := RO.out; omega, by have := RO.out; omega, by have := RO.out; simp; omega, HTB.out, HO9.out, hidden (HD.out.trans (decI_go HR.out HBD.out |>.trans (by rw [HT.out]))), hb9⟩
              case measure => simp [intOf]
            | succ N =>
              have q0 : (0 : Int) < (N : Int) + 1 := by omega
              have q1 : ((d : Int) == 0) = false := by simp; omega
              clear hbad
              have hfr := Row.fresh w3 3 1 1 [.int .i64 (T : Int)] rfl
              have ho3 := HO3.out
              have hbs3 := HB3.out.size
              have HMP : Hid (out.map (Value.int .i64) ++ [.int .i64 (T : Int)] = (out ++ [(T : Int)]).map (Value.int .i64)) := by rw [Hid, List.map_append]; rfl
              go_wp2_with (at_builtin; refine wpList_app _ rfl _ _ 22 rfl w.heap.size 3 i0 _ 1 8 Try.underlying22 hi hz0 hz1 hz2 rfl (by decide) _ _ _ rfl (ho3.alloc _) _ _ _ _ _ rfl hfr (by simp [Value.oneCell']) (by unfold maxLen; omega) (by omega) (by simp; omega) ?_; intro v9 w9 hown9 hg9 hat9)
              rw [HMP.out] at hown9
              have hb9 := hidden ((HB3.out.alloc hbs3 _).grown hg9 (by simp; omega) (fun q hq => (ho3.lt q hq).1))
              have HO9 := hidden (show w9.ownsRow w.heap.size 3 1 v9 (out ++ [(T : Int)]).length ((out ++ [(T : Int)]).map (Value.int .i64)) by simpa [HN.out] using hown9)
              clear hown9 hg9 hat9 hfr ho3 hbs3
              go_roundw
              case rel => exact ⟨k, b, out ++ [(T : Int)], T, rfl, by go_num, rfl, rfl, by omega, by have := RO.out; omega, by have := RO.out; omega, by have := RO.out; simp; omega, HTB.out, HO9.out, hidden (HD.out.trans (decI_go HR.out HBD.out |>.trans (by rw [HT.out]))), hb9⟩
              case measure => simp [intOf]
        · have HE := hidden (hdec.out.trans (decI_e HR.out he1))
          have e1n : (e1 != 0) = true := by simpa using he1
          clear he1
          go_wp2_with fail
          go_ret3
          rw [HE.out]
          exact ⟨_, rfl, World.ownsRow_nil _ _ _ _, HB3.out⟩
  · have HD := hidden (decN_e h1 he)
    have en : (e0 != 0) = true := by simpa using he
    clear h1 he
    go_enter Try.func16, Try.ntmps16
    go_wp2_with fail
    refine HU.out.mono ?_
    rintro e1 w1 ⟨rfl, hb1⟩
    go_wp2_with fail
    go_ret3
    rw [HD.out]
    exact ⟨_, rfl, World.ownsRow_nil _ _ _ _, hb1⟩

set_option maxHeartbeats 6400000 in
theorem rndec_any (s : List UInt8) (a : Int) (w : World) (hs : s.length ≤ 1048576) (ha : -9223372036854775808 ≤ a) (ha2 : a < 9223372036854775808) :
    Calls Try.prog 17 #[.string ⟨s.toArray⟩, .int .i64 a] w fun e w' => ∃ v, e = .returned (.tuple #[v, .int .i64 (decN s a).2.1, .int .i64 (decN s a).2.2]) ∧ w'.ownsRow w.heap.size 3 1 v (decN s a).1.length ((decN s a).1.map (Value.int .i64)) ∧ Below w.heap.size w w' := by
  obtain ⟨i0, hi, hz0, hz1, hz2⟩ := info_parts info_int
  have HU := hidden (readUintR_any s a w (by omega) ha ha2)
  have HQ := hidden (fun p W h1 h2 => readUintR_any s p W (by omega) h1 h2)
  obtain ⟨n, b0, e0, h1⟩ : ∃ n b e, readU s a = (n, b, e) := ⟨_, _, _, rfl⟩
  have hlt := readU_lt s a
  rw [h1] at HU hlt
  simp only at HU hlt
  obtain ⟨X, hX⟩ : ∃ X, (⟨s.toArray⟩ : ByteArray) = X := ⟨_, rfl⟩
  rw [hX] at HU HQ ⊢
  clear hX
  by_cases he : e0 = 0
  · subst he
    have F := hidden (readU_form h1)
    have HG := hidden (decN_go h1)
    clear h1
    go_enter Try.func17, Try.ntmps17
    go_wp2_with fail
    refine HU.out.mono ?_
    rintro e1 w1 ⟨rfl, hb1⟩
    have HB1 := hidden hb1
    clear hb1
    go_wp2_with fail
    go_loopw [8, 10, 11] (fun va vo vt wr => ∃ (p : Int) (out : List Int) (t : Nat), va = .int .i64 p ∧ vt = .int .u64 t ∧ 0 ≤ p ∧ p ≤ s.length ∧ (out.length : Int) ≤ p ∧ out.length ≤ n ∧ t ≤ 4611686018427387904 ∧ wr.ownsRow w.heap.size 3 1 vo out.length (out.map (Value.int .i64)) ∧ Hid (decN s a = decI s (n - out.length) p out t) ∧ Hid (Below w.heap.size w wr)) (fun _ vo _ _ => n - lenOfS vo)
    case atStart => exact ⟨b0, [], 0, rfl, rfl, by have := F.out; omega, F.out.2.2.1, by have := F.out; simp; omega, by simp, by omega, World.ownsRow_nil _ _ _ _, HG, HB1⟩
    case round =>
      obtain ⟨p, out, t, rfl, rfl, hp0, hp1, hol, hon, ht, ho, hdec, hb⟩ := hrel
      clear HB1 HG F
      obtain ⟨N, hN⟩ : ∃ N, out.length = N := ⟨_, rfl⟩
      have HN := hidden hN
      rw [hN] at ho
      obtain ⟨A1, c1, rfl, hc1, _⟩ := own_shape ho
      have HO := hidden ho
      clear ho
      have hNl : (N : Int) ≤ p := by omega
      by_cases hlt2 : N < n
      rotate_left
      · have ol : ¬ (N : Int) < (n : Int) := by omega
        have hz : n - N = 0 := by omega
        rw [HN.out, hz] at hdec
        go_wp2_with fail
        go_ret3
        rw [hdec.out]
        exact ⟨_, rfl, show wr.ownsRow w.heap.size 3 1 (.slice A1 N c1) out.length _ by rw [HN.out]; exact HO.out, hb.out⟩
      · have ol : (N : Int) < (n : Int) := by omega
        have wN : IntKind.u64.wrap (N : Int) = (N : Int) := Go.IntWalk.u64_in _ (by omega)
        obtain ⟨k, hk⟩ : ∃ k, n - out.length = k + 1 := ⟨n - out.length - 1, by have := HN.out; omega⟩
        have HK2 : Hid (∀ x : Int, n - (out ++ [x]).length = k) := fun x => by rw [List.length_append, List.length_singleton]; omega
        rw [hk] at hdec
        clear hk
        obtain ⟨d, b, e1, h1⟩ : ∃ d b e, readU s p = (d, b, e) := ⟨_, _, _, rfl⟩
        have S1 := hidden (HQ.out p wr (by omega) (by omega))
        have hdl := readU_lt s p
        rw [h1] at S1 hdl
        simp only at S1 hdl
        have HR := hidden h1
        clear h1
        go_wp2_with fail
        refine S1.out.mono ?_
        rintro e w3 ⟨rfl, hb3⟩
        have HB3 := hidden (hb.out.trans (hb3.mono hb.out.size))
        have HO3 := hidden (own_below HO.out hb3 (Nat.le_refl _))
        clear hb3 S1 HO hb
        by_cases he1 : e1 = 0
        · subst he1
          have RO := hidden (readU_form HR.out)
          obtain ⟨r, hr⟩ : ∃ r, 4611686018427387904 - t = r := ⟨_, rfl⟩
          have wr1 : IntKind.u64.wrap (4611686018427387904 - (t : Int)) = (r : Int) := by rw [show (4611686018427387904 : Int) - (t : Int) = (r : Int) by omega]; exact Go.IntWalk.u64_in _ (by omega)
          have HD := hidden hdec.out
          clear hdec
          by_cases hbad : (0 < out.length ∧ d = 0) ∨ 4611686018427387904 - t < d
          · have HE := hidden (HD.out.trans (decI_bad HR.out hbad))
            rw [hN, hr] at hbad
            cases N with
            | zero =>
              have q1 : (r : Int) < (d : Int) := by omega
              clear hbad
              go_wp2_with fail
              go_ret3
              rw [HE.out]
              exact ⟨_, rfl, World.ownsRow_nil _ _ _ _, HB3.out⟩
            | succ N =>
              have q0 : (0 : Int) < (N : Int) + 1 := by omega
              by_cases hd0 : d = 0
              · have q1 : ((d : Int) == 0) = true := by simp [hd0]
                clear hbad hd0
                go_wp2_with fail
                go_ret3
                rw [HE.out]
                exact ⟨_, rfl, World.ownsRow_nil _ _ _ _, HB3.out⟩
              · have q1 : ((d : Int) == 0) = false := by simp; omega
                have q2 : (r : Int) < (d : Int) := by omega
                clear hbad hd0
                go_wp2_with fail
                go_ret3
                rw [HE.out]
                exact ⟨_, rfl, World.ownsRow_nil _ _ _ _, HB3.out⟩
          · have HBD := hidden hbad
            obtain ⟨T, hT⟩ : ∃ T, t + d = T := ⟨_, rfl⟩
            have HT := hidden hT
            have HTB := hidden (show T ≤ 4611686018427387904 by omega)
            rw [hN, hr] at hbad
            have ws : IntKind.u64.wrap ((t : Int) + (d : Int)) = (T : Int) := by rw [show (t : Int) + (d : Int) = (T : Int) by omega]; exact Go.IntWalk.u64_in _ (by omega)
            have wi : IntKind.i64.wrap (T : Int) = (T : Int) := Go.IntWalk.i64_in _ (by omega)
            have q2 : decide (r < d) = false := decide_eq_false (by omega)
            cases N with
            | zero =>
              clear hbad
              have hfr := Row.fresh w3 3 1 1 [.int .i64 (T : Int)] rfl
              have ho3 := HO3.out
              have hbs3 := HB3.out.size
              have HMP : Hid (out.map (Value.int .i64) ++ [.int .i64 (T : Int)] = (out ++ [(T : Int)]).map (Value.int .i64)) := by rw [Hid, List.map_append]; rfl
              go_wp2_with (at_builtin; refine wpList_app _ rfl _ _ 22 rfl w.heap.size 3 i0 _ 1 8 Try.underlying22 hi hz0 hz1 hz2 rfl (by decide) _ _ _ rfl (ho3.alloc _) _ _ _ _ _ rfl hfr (by simp [Value.oneCell']) (by unfold maxLen; omega) (by omega) (by simp; omega) ?_; intro v9 w9 hown9 hg9 hat9)
              rw [HMP.out] at hown9
              have hb9 := hidden ((HB3.out.alloc hbs3 _).grown hg9 (by simp; omega) (fun q hq => (ho3.lt q hq).1))
              have HO9 := hidden (show w9.ownsRow w.heap.size 3 1 v9 (out ++ [(T : Int)]).length ((out ++ [(T : Int)]).map (Value.int .i64)) by simpa [HN.out] using hown9)
              clear hown9 hg9 hat9 hfr ho3 hbs3
              go_roundw
              case rel => exact ⟨b, out ++ [(T : Int)], T, rfl, rfl, by have := RO.out; omega, by have := RO.out; omega, by have := RO.out; simp; omega, by simp; omega, HTB.out, HO9.out, hidden (HD.out.trans (decI_go HR.out HBD.out |>.trans (by rw [HT.out, HK2.out]))), hb9⟩
              case measure => obtain ⟨_, _, rfl, _⟩ := own_shape HO9.out; have := HN.out; simp [lenOfS]; omega
            | succ N =>
              have q0 : (0 : Int) < (N : Int) + 1 := by omega
              have q1 : ((d : Int) == 0) = false := by simp; omega
              clear hbad
              have hfr := Row.fresh w3 3 1 1 [.int .i64 (T : Int)] rfl
              have ho3 := HO3.out
              have hbs3 := HB3.out.size
              have HMP : Hid (out.map (Value.int .i64) ++ [.int .i64 (T : Int)] = (out ++ [(T : Int)]).map (Value.int .i64)) := by rw [Hid, List.map_append]; rfl
              go_wp2_with (at_builtin; refine wpList_app _ rfl _ _ 22 rfl w.heap.size 3 i0 _ 1 8 Try.underlying22 hi hz0 hz1 hz2 rfl (by decide) _ _ _ rfl (ho3.alloc _) _ _ _ _ _ rfl hfr (by simp [Value.oneCell']) (by unfold maxLen; omega) (by omega) (by simp; omega) ?_; intro v9 w9 hown9 hg9 hat9)
              rw [HMP.out] at hown9
              have hb9 := hidden ((HB3.out.alloc hbs3 _).grown hg9 (by simp; omega) (fun q hq => (ho3.lt q hq).1))
              have HO9 := hidden (show w9.ownsRow w.heap.size 3 1 v9 (out ++ [(T : Int)]).length ((out ++ [(T : Int)]).map (Value.int .i64)) by simpa [HN.out] using hown9)
              clear hown9 hg9 hat9 hfr ho3 hbs3
              go_roundw
              case rel => exact ⟨b, out ++ [(T : Int)], T, rfl, rfl, by have := RO.out; omega, by have := RO.out; omega, by have := RO.out; simp; omega, by simp; omega, HTB.out, HO9.out, hidden (HD.out.trans (decI_go HR.out HBD.out |>.trans (by rw [HT.out, HK2.out]))), hb9⟩
              case measure => obtain ⟨_, _, rfl, _⟩ := own_shape HO9.out; have := HN.out; simp [lenOfS]; omega
        · have HE := hidden (hdec.out.trans (decI_e HR.out he1))
          have e1n : (e1 != 0) = true := by simpa using he1
          clear he1
          go_wp2_with fail
          go_ret3
          rw [HE.out]
          exact ⟨_, rfl, World.ownsRow_nil _ _ _ _, HB3.out⟩
  · have HD := hidden (decN_e h1 he)
    have en : (e0 != 0) = true := by simpa using he
    clear h1 he
    go_enter Try.func17, Try.ntmps17
    go_wp2_with fail
    refine HU.out.mono ?_
    rintro e1 w1 ⟨rfl, hb1⟩
    go_wp2_with fail
    go_ret3
    rw [HD.out]
    exact ⟨_, rfl, World.ownsRow_nil _ _ _ _, hb1⟩
end Go.Proofs.Ytnedgjdhpdejdaa
