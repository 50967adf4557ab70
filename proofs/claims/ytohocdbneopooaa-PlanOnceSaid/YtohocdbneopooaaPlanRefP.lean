/- The reference's Plan. Condition: the row is within the reach. -/
import Derived.Test.YtohocdbneopooaaPlanRefR
namespace Go.Proofs.Ytohocdbneopooaa
set_option maxRecDepth 100000
open Go.Shelf Go.RowKit Go.Lib Go.Sort

theorem LLAt.grown {w w' : World} {base : Nat} {v : Value} {G : List (List Int)} {S : List (Sl Int)} {X : Option Nat} (h : LLAt w base v G S) (hg : w.grownBy w' X) (hv : ∀ q, v.ownBlock = some q → some q ≠ X) (hs : ∀ s ∈ S, s.Off X) : LLAt w' base v G S := by
  obtain ⟨h1, h2, h3, h4, h5⟩ := h
  refine ⟨h1.kept hg ?_, h2, fun s hx => ((h3 s hx).grown hg (hs s hx) (Nat.le_refl _)).more hg.size, h4, h5⟩
  cases hvb : v.ownBlock with
  | none => exact .inl rfl
  | some q => exact .inr (fun e => hv q hvb e)
/-- a list of the lists -/
theorem ll_cell {w : World} {B : Nat} {A : Option Addr} {n : Nat} {S : List (Sl Int)} (hr : Row w B 1 A n (S.map Sl.val)) (i : Nat) (hi : i < n) :
    ∃ g o s, A = some ⟨g, o, none⟩ ∧ g < B ∧ S[i]? = some s ∧ w.cell? ⟨g, o + i, none⟩ = some s.val := by
  obtain ⟨g, o, rfl, hg, hc⟩ := hr.at_ (by omega)
  have hl := hr.len
  rw [List.length_map, Nat.mul_one] at hl
  refine ⟨g, o, S[i]'(by omega), rfl, hg, List.getElem?_eq_getElem (by omega), ?_⟩
  rw [hc i (by omega), List.getElem?_map, List.getElem?_eq_getElem (by omega)]; rfl
theorem LLAt.len {w : World} {base : Nat} {v : Value} {G : List (List Int)} {S : List (Sl Int)} (h : LLAt w base v G S) : S.length = G.length := by
  rw [← h.2.1, List.length_map]

set_option maxHeartbeats 6400000 in
theorem rplan_any (fan : Int) (A : Option Addr) (n c : Nat) (l : List Inf) (w : World) (hr : Row w w.heap.size 5 A n (infCells l)) (hl : l.length = n) (hn : n * 40 ≤ 140737488351232) :
    Calls Try.prog 37 #[.int .i64 fan, .slice A n c] w fun e w' => ∃ v S, e = .returned v ∧ LLAt w' w.heap.size v (planI fan l) S ∧ RowKit.Below w.heap.size w w' := by
  obtain ⟨i0, hi, hz0, hz1, hz2⟩ := info_parts info_ints
  have hL := hidden hl
  have HR := hidden hr
  clear hl hr
  go_enter Try.func37, Try.ntmps37
  go_wp2
  go_loopw [5, 6] (fun v vi wr => ∃ (k : Nat) (S : List (Sl Int)) (vo : Value), vo = v ∧ vi = .int .i64 k ∧ k ≤ 3 ∧ Hid (LLAt wr w.heap.size v (planTo fan l k) S) ∧ RowKit.Below w.heap.size w wr) (fun _ vi _ => 3 - (intOf vi).toNat)
  case atStart => exact ⟨0, [], _, rfl, rfl, by omega, hidden (LLAt.start _ _), RowKit.Below.refl _ _⟩
  case round =>
    obtain ⟨k, S, vo, rfl, rfl, hk, hLL, hb⟩ := hrel
    by_cases hlt : k < 3
    · obtain ⟨wo, rfl⟩ : ∃ wo : World, wo = wr := ⟨_, rfl⟩
      have hltz : (k : Int) < 3 := by omega
      have hbs := hb.size
      go_wp2_with fail
      refine (rsorted_any A n c k l _ ((HR.out.below hb).more hbs) hL.out hn).mono ?_
      rintro e w3 ⟨v3, R, rfl, ho3, hp3, hs3, hb3⟩
      have hgr := hidden (ref_groups fan hp3 hs3)
      have hRl : R.length ≤ n := by rw [hp3.length_eq, ← hL.out]; exact List.length_filter_le _ _
      have hRs : R.length = (sift (k : Nat) l).length := hp3.length_eq
      obtain ⟨A3, c3, rfl, hc3, hr3⟩ := own_shape ho3
      have hgl := groupsAt_len fan R
      have htl := planTo_len fan l k
      have hsl := siftTo_le l (k + 1)
      rw [siftTo_succ, hL.out, ← hRs] at hsl
      have hbs3 := hb3.size
      clear hp3 hs3 ho3 hRs
      go_wp2_with fail
      refine (rchains_any A3 R.length c3 R w3 hr3 rfl (by omega)).mono ?_
      rintro e w4 ⟨v4, S4, rfl, hL4, hb4⟩
      have hB4 : RowKit.Below wo.heap.size wo w4 := hb3.trans (hb4.mono hbs3)
      have hbs4 := hb4.size
      by_cases hch : chainsI R = []
      · have hga : groupsAt fan R = rowsP fan R := if_pos hch
        rw [hch] at hL4
        obtain ⟨A4, c4, rfl, hc4, hrl4⟩ := own_shape hL4.1
        have t0 : ((((([] : List (List Int)).length : Nat) : Int)) == 0) = true := rfl
        simp only [List.length_nil] at hL4 hrl4 t0 ⊢
        clear hL4 hrl4
        go_wp2_with fail
        refine (rrows_any A3 R.length c3 fan R w4 ((hr3.below hb4).more hbs4) rfl (by omega)).mono ?_
        rintro e w5 ⟨v5, S5, rfl, hL5, hb5⟩
        have hB5 : RowKit.Below wo.heap.size wo w5 := hB4.trans (hb5.mono hB4.size)
        obtain ⟨A8, c8, rfl, hc8l, _⟩ := own_shape hL5.1
        obtain ⟨B1, hB1⟩ : ∃ B1, w4.heap.size = B1 := ⟨_, rfl⟩
        rw [hB1] at hL5
        have hB1l : wo.heap.size ≤ B1 := by rw [← hB1]; exact hB4.size
        obtain ⟨G8, hG8⟩ : ∃ G8, rowsP fan R = G8 := ⟨_, rfl⟩
        rw [hG8] at hL5 hga
        have hgl2 : G8.length ≤ R.length := by rw [← hga]; exact hgl
        obtain ⟨m, hm⟩ : ∃ m, (rowsP fan R).length = m := ⟨_, rfl⟩
        rw [hm]
        have hml : m ≤ R.length := by rw [← hm, hG8]; exact hgl2
        have hL8 : LLAt w5 B1 (.slice A8 m c8) G8 S5 := by rw [← hm, hG8]; exact hL5
        have HGA := hidden hga
        have HG8 := hidden hG8
        have HM8 := hidden hm
        have hc8m : m ≤ c8 := by omega
        have hB8 := hB5
        clear hL5 hga hG8 hm hgl hgl2 hch hb4 hb5 hr3 hB4 hbs4 hB1 hc8l
        obtain ⟨wz, rfl⟩ : ∃ wz : World, wz = w5 := ⟨_, rfl⟩
        obtain ⟨S8, rfl⟩ : ∃ S8 : List (Sl Int), S8 = S5 := ⟨_, rfl⟩
        have hm8 : G8.length = m := by rw [← HG8.out, HM8.out]
        have hSl : S8.length = m := by rw [← hm8]; exact LLAt.len hL8
        have hLo := hLL.out.below hB8
        have hlast := hidden (planTo_succ fan l k)
        have hbz : RowKit.Below w.heap.size w wz := hb.trans (hB8.mono hbs)
        have hzz := hB8.size
        have HL8 := hidden hL8
        have HLo := hidden hLo
        have HSl := hidden hSl
        have HM := hidden hm8
        have hoq : Hid (∀ q, vo.ownBlock = some q → q < B1 ∨ wz.heap.size ≤ q) := hidden fun q hq => .inl (by have := (hLL.out.1.lt q hq).2; omega)
        clear hL8 hLo hSl hm8
        go_wp2_with fail
        go_loopw [5, 9] (fun v vi wx => ∃ (i : Nat) (vp : Value), vp = v ∧ vi = .int .i64 i ∧ i ≤ m ∧ Hid (LLAt wx w.heap.size v (planTo fan l k ++ G8.take i) (S ++ S8.take i)) ∧ Hid (LLAt wx B1 (.slice A8 m c8) G8 S8) ∧ Hid (∀ q, v.ownBlock = some q → q < B1 ∨ wz.heap.size ≤ q) ∧ RowKit.Below w.heap.size w wx ∧ wz.heap.size ≤ wx.heap.size) (fun _ vi _ => m - (intOf vi).toNat)
        case atStart => exact ⟨0, _, rfl, rfl, Nat.zero_le _, by simpa using HLo, HL8, hoq, hbz, Nat.le_refl _⟩
        case round =>
          obtain ⟨i, vp, rfl, rfl, him, hLx, hL8x, hoqx, hbx, hsx⟩ := hrel
          by_cases hil : i < m
          · have hrow := Row.of_own (c := c8) (A := A8) (by have := hL8x.out.1; rw [HM.out] at this; exact this)
            obtain ⟨g8, o8, s, rfl, hg8, hs8, hc8⟩ := ll_cell hrow i hil
            have hsm := List.mem_of_getElem? hs8
            have hsAt := HL8.out.2.2.1 s hsm
            have hsX := hL8x.out.2.2.1 s hsm
            have hsOff : ∀ q, (q < B1 ∨ wz.heap.size ≤ q) → s.Off (some q) := fun q hq => hq.elim (fun h => HL8.out.2.2.2.2 s hsm q h) (fun h => hsAt.off h)
            have hallOff : ∀ t ∈ S8, ∀ q, (q < B1 ∨ wz.heap.size ≤ q) → t.Off (some q) := fun t ht q hq => hq.elim (fun h => HL8.out.2.2.2.2 t ht q h) (fun h => (HL8.out.2.2.1 t ht).off h)
            have hvOff : ∀ q, (q < B1 ∨ wz.heap.size ≤ q) → g8 ≠ q := by
              intro q hq he
              have h1 := HL8.out.1.lt g8 rfl
              omega
            have hT := hidden (take_snoc? hs8)
            have hT2 : Hid (G8.take (i + 1) = G8.take i ++ [s.l]) := hidden (take_snoc? (by rw [← HL8.out.2.1, List.getElem?_map, hs8]; rfl))
            have hcount : (planTo fan l k ++ G8.take i).length = (planTo fan l k).length + i := by rw [List.length_append, List.length_take, HM.out]; omega
            have hcle : (planTo fan l k ++ G8.take i).length + 1 ≤ n := by rw [hcount]; omega
            obtain ⟨sA, sn, sc, sl⟩ := s
            simp only [Sl.val] at hc8
            have hfr := Row.fresh wr 78 1 1 [.slice sA sn sc] rfl
            have hlx := hLx.out.1
            have hiz : (i : Int) < (m : Int) := by omega
            have hi0 : (0 : Int) ≤ (i : Int) := by omega
            have HA := hidden hsAt
            have HB := hidden hsX
            have HC := hidden hsOff
            have HD := hidden hallOff
            have HE := hidden hvOff
            have HF := hidden hsm
            clear hsAt hsX hsOff hallOff hvOff hsm hs8 hrow hcount
            go_wp2_with (at_builtin; refine wpList_app _ rfl _ _ 68 rfl w.heap.size 78 i0 _ 1 24 Try.underlying68 hi hz0 hz1 hz2 rfl (by decide) _ _ _ rfl (hlx.alloc _) _ _ _ _ _ rfl hfr (by simp [Value.oneCell']) (by unfold maxLen; omega) (by omega) (by have := hbx.size; simp; omega) ?_; intro v9 w9 hown9 hg9 hat9)
            go_roundw
            case rel =>
              have hobx : ∀ X, vp.ownBlock = some X → X < B1 ∨ wz.heap.size ≤ X := hoqx.out
              have hbA : RowKit.Below wr.heap.size wr (wr.alloc (.cells #[.slice sA sn sc] 78)) := (RowKit.Below.refl _ _).alloc (Nat.le_refl _) _
              have hm := ll_more (S' := [Sl.mk sA sn sc sl]) (G' := [sl]) (hLx.out.below hbA) rfl (fun t ht => by rw [List.mem_singleton.1 ht]; exact (HB.out.below hbA).more hbA.size) (fun t ht => by
                rw [List.mem_singleton.1 ht]
                cases hvb : vp.ownBlock with
                | none => exact Sl.off_none _
                | some q => exact HC.out q (hobx q hvb)) (fun t ht j hj => by rw [List.mem_singleton.1 ht]; exact HC.out j (.inl (by omega))) hg9 (hat9.imp id fun h => ⟨_, h, Nat.le_refl _⟩) hown9
              have h8 := LLAt.grown (X := vp.ownBlock) (hL8x.out.below hbA) hg9 (fun q hq e => by
                have hq2 : q = g8 := by
                  injection hq with hq
                  exact hq.symm
                rw [hq2] at e
                exact HE.out g8 (hobx g8 e.symm) rfl) (fun t ht => by
                cases hvb : vp.ownBlock with
                | none => exact Sl.off_none _
                | some q => exact HD.out t ht q (hobx q hvb))
              have hs9 := hg9.size
              rw [World.size_alloc] at hs9
              refine ⟨i + 1, v9, rfl, by go_num, by omega, hidden ?_, hidden h8, hidden (fun q hq => ?_), (hbx.alloc hbx.size _).grown hg9 (by have := hbx.size; simp; omega) (fun q hq => (hlx.lt q hq).1), by omega⟩
              · rw [hT.out, hT2.out, ← List.append_assoc, ← List.append_assoc]; exact hm
              · rcases hat9 with h | h
                · exact hobx q (h ▸ hq)
                · rw [h] at hq
                  injection hq with hq
                  rw [World.size_alloc] at hq
                  exact .inr (by omega)
            case measure => simp [intOf]; omega
          · obtain rfl : i = m := by omega
            have hend := hLx.out
            rw [List.take_of_length_le (by rw [HM.out]; exact Nat.le_refl _), List.take_of_length_le (by rw [HSl.out]; exact Nat.le_refl _), ← HGA.out, hgr.out, ← hlast.out] at hend
            have HEND := hidden hend
            clear hend
            have hiz : ¬ (i : Int) < (i : Int) := by omega
            go_wp2_with fail
            go_roundw
            case rel => exact ⟨k + 1, _, vp, rfl, by go_num, by omega, HEND, hbx⟩
            case measure => simp [intOf]; omega
      · have hga : groupsAt fan R = chainsI R := if_neg hch
        have hpos : 0 < (chainsI R).length := List.length_pos_iff.2 hch
        obtain ⟨A8, c8, rfl, hc8l, _⟩ := own_shape hL4.1
        have t0 : ((((chainsI R).length : Nat) : Int) == 0) = false := by simp; omega
        obtain ⟨B1, hB1⟩ : ∃ B1, w3.heap.size = B1 := ⟨_, rfl⟩
        rw [hB1] at hL4
        have hB1l : wo.heap.size ≤ B1 := by rw [← hB1]; exact hbs3
        obtain ⟨G8, hG8⟩ : ∃ G8, chainsI R = G8 := ⟨_, rfl⟩
        rw [hG8] at hL4 hga
        have hgl2 : G8.length ≤ R.length := by rw [← hga]; exact hgl
        obtain ⟨m, hm⟩ : ∃ m, (chainsI R).length = m := ⟨_, rfl⟩
        rw [hm] at t0 ⊢
        have hml : m ≤ R.length := by rw [← hm, hG8]; exact hgl2
        have hL8 : LLAt w4 B1 (.slice A8 m c8) G8 S4 := by rw [← hm, hG8]; exact hL4
        have HGA := hidden hga
        have HG8 := hidden hG8
        have HM8 := hidden hm
        have hc8m : m ≤ c8 := by omega
        have hB8 := hB4
        clear hL4 hga hG8 hm hgl hgl2 hch hb4 hr3 hB4 hbs4 hB1 hpos hc8l
        obtain ⟨wz, rfl⟩ : ∃ wz : World, wz = w4 := ⟨_, rfl⟩
        obtain ⟨S8, rfl⟩ : ∃ S8 : List (Sl Int), S8 = S4 := ⟨_, rfl⟩
        have hm8 : G8.length = m := by rw [← HG8.out, HM8.out]
        have hSl : S8.length = m := by rw [← hm8]; exact LLAt.len hL8
        have hLo := hLL.out.below hB8
        have hlast := hidden (planTo_succ fan l k)
        have hbz : RowKit.Below w.heap.size w wz := hb.trans (hB8.mono hbs)
        have hzz := hB8.size
        have HL8 := hidden hL8
        have HLo := hidden hLo
        have HSl := hidden hSl
        have HM := hidden hm8
        have hoq : Hid (∀ q, vo.ownBlock = some q → q < B1 ∨ wz.heap.size ≤ q) := hidden fun q hq => .inl (by have := (hLL.out.1.lt q hq).2; omega)
        clear hL8 hLo hSl hm8
        go_wp2_with fail
        go_loopw [5, 9] (fun v vi wx => ∃ (i : Nat) (vp : Value), vp = v ∧ vi = .int .i64 i ∧ i ≤ m ∧ Hid (LLAt wx w.heap.size v (planTo fan l k ++ G8.take i) (S ++ S8.take i)) ∧ Hid (LLAt wx B1 (.slice A8 m c8) G8 S8) ∧ Hid (∀ q, v.ownBlock = some q → q < B1 ∨ wz.heap.size ≤ q) ∧ RowKit.Below w.heap.size w wx ∧ wz.heap.size ≤ wx.heap.size) (fun _ vi _ => m - (intOf vi).toNat)
        case atStart => exact ⟨0, _, rfl, rfl, Nat.zero_le _, by simpa using HLo, HL8, hoq, hbz, Nat.le_refl _⟩
        case round =>
          obtain ⟨i, vp, rfl, rfl, him, hLx, hL8x, hoqx, hbx, hsx⟩ := hrel
          by_cases hil : i < m
          · have hrow := Row.of_own (c := c8) (A := A8) (by have := hL8x.out.1; rw [HM.out] at this; exact this)
            obtain ⟨g8, o8, s, rfl, hg8, hs8, hc8⟩ := ll_cell hrow i hil
            have hsm := List.mem_of_getElem? hs8
            have hsAt := HL8.out.2.2.1 s hsm
            have hsX := hL8x.out.2.2.1 s hsm
            have hsOff : ∀ q, (q < B1 ∨ wz.heap.size ≤ q) → s.Off (some q) := fun q hq => hq.elim (fun h => HL8.out.2.2.2.2 s hsm q h) (fun h => hsAt.off h)
            have hallOff : ∀ t ∈ S8, ∀ q, (q < B1 ∨ wz.heap.size ≤ q) → t.Off (some q) := fun t ht q hq => hq.elim (fun h => HL8.out.2.2.2.2 t ht q h) (fun h => (HL8.out.2.2.1 t ht).off h)
            have hvOff : ∀ q, (q < B1 ∨ wz.heap.size ≤ q) → g8 ≠ q := by
              intro q hq he
              have h1 := HL8.out.1.lt g8 rfl
              omega
            have hT := hidden (take_snoc? hs8)
            have hT2 : Hid (G8.take (i + 1) = G8.take i ++ [s.l]) := hidden (take_snoc? (by rw [← HL8.out.2.1, List.getElem?_map, hs8]; rfl))
            have hcount : (planTo fan l k ++ G8.take i).length = (planTo fan l k).length + i := by rw [List.length_append, List.length_take, HM.out]; omega
            have hcle : (planTo fan l k ++ G8.take i).length + 1 ≤ n := by rw [hcount]; omega
            obtain ⟨sA, sn, sc, sl⟩ := s
            simp only [Sl.val] at hc8
            have hfr := Row.fresh wr 78 1 1 [.slice sA sn sc] rfl
            have hlx := hLx.out.1
            have hiz : (i : Int) < (m : Int) := by omega
            have hi0 : (0 : Int) ≤ (i : Int) := by omega
            have HA := hidden hsAt
            have HB := hidden hsX
            have HC := hidden hsOff
            have HD := hidden hallOff
            have HE := hidden hvOff
            have HF := hidden hsm
            clear hsAt hsX hsOff hallOff hvOff hsm hs8 hrow hcount
            go_wp2_with (at_builtin; refine wpList_app _ rfl _ _ 68 rfl w.heap.size 78 i0 _ 1 24 Try.underlying68 hi hz0 hz1 hz2 rfl (by decide) _ _ _ rfl (hlx.alloc _) _ _ _ _ _ rfl hfr (by simp [Value.oneCell']) (by unfold maxLen; omega) (by omega) (by have := hbx.size; simp; omega) ?_; intro v9 w9 hown9 hg9 hat9)
            go_roundw
            case rel =>
              have hobx : ∀ X, vp.ownBlock = some X → X < B1 ∨ wz.heap.size ≤ X := hoqx.out
              have hbA : RowKit.Below wr.heap.size wr (wr.alloc (.cells #[.slice sA sn sc] 78)) := (RowKit.Below.refl _ _).alloc (Nat.le_refl _) _
              have hm := ll_more (S' := [Sl.mk sA sn sc sl]) (G' := [sl]) (hLx.out.below hbA) rfl (fun t ht => by rw [List.mem_singleton.1 ht]; exact (HB.out.below hbA).more hbA.size) (fun t ht => by
                rw [List.mem_singleton.1 ht]
                cases hvb : vp.ownBlock with
                | none => exact Sl.off_none _
                | some q => exact HC.out q (hobx q hvb)) (fun t ht j hj => by rw [List.mem_singleton.1 ht]; exact HC.out j (.inl (by omega))) hg9 (hat9.imp id fun h => ⟨_, h, Nat.le_refl _⟩) hown9
              have h8 := LLAt.grown (X := vp.ownBlock) (hL8x.out.below hbA) hg9 (fun q hq e => by
                have hq2 : q = g8 := by
                  injection hq with hq
                  exact hq.symm
                rw [hq2] at e
                exact HE.out g8 (hobx g8 e.symm) rfl) (fun t ht => by
                cases hvb : vp.ownBlock with
                | none => exact Sl.off_none _
                | some q => exact HD.out t ht q (hobx q hvb))
              have hs9 := hg9.size
              rw [World.size_alloc] at hs9
              refine ⟨i + 1, v9, rfl, by go_num, by omega, hidden ?_, hidden h8, hidden (fun q hq => ?_), (hbx.alloc hbx.size _).grown hg9 (by have := hbx.size; simp; omega) (fun q hq => (hlx.lt q hq).1), by omega⟩
              · rw [hT.out, hT2.out, ← List.append_assoc, ← List.append_assoc]; exact hm
              · rcases hat9 with h | h
                · exact hobx q (h ▸ hq)
                · rw [h] at hq
                  injection hq with hq
                  rw [World.size_alloc] at hq
                  exact .inr (by omega)
            case measure => simp [intOf]; omega
          · obtain rfl : i = m := by omega
            have hend := hLx.out
            rw [List.take_of_length_le (by rw [HM.out]; exact Nat.le_refl _), List.take_of_length_le (by rw [HSl.out]; exact Nat.le_refl _), ← HGA.out, hgr.out, ← hlast.out] at hend
            have HEND := hidden hend
            clear hend
            have hiz : ¬ (i : Int) < (i : Int) := by omega
            go_wp2_with fail
            go_roundw
            case rel => exact ⟨k + 1, _, vp, rfl, by go_num, by omega, HEND, hbx⟩
            case measure => simp [intOf]; omega
    · obtain rfl : k = 3 := by omega
      go_wp2
      go_ret
      exact ⟨_, S, rfl, hLL.out, hb⟩
end Go.Proofs.Ytohocdbneopooaa
