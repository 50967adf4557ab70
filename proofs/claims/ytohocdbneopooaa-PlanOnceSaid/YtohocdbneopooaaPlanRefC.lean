/- The reference's chains. Condition: the row is within the reach. -/
import Derived.Test.YtohocdbneopooaaPlanRef
namespace Go.Proofs.Ytohocdbneopooaa
set_option maxRecDepth 100000
open Go.Shelf Go.RowKit Go.Lib Go.Sort

/-- one list more -/
theorem ll_one {w5 w9 : World} {base : Nat} {vo v9 : Value} {G : List (List Int)} {S : List (Sl Int)} {c : Obj} {s : Sl Int} {B : Nat} (hL5 : LLAt w5 base vo G S) (hB : base ≤ B) (hoB : ∀ q, vo.ownBlock = some q → q < B) (hS : s.At w5 w5.heap.size 1 intc) (ho : ∀ j, j < B → s.Off (some j))
    (hg9 : (w5.alloc c).grownBy w9 vo.ownBlock) (hat9 : v9.ownBlock = vo.ownBlock ∨ v9.ownBlock = some (w5.alloc c).heap.size) (hown9 : w9.ownsRow base 78 1 v9 (G.length + 1) (S.map Sl.val ++ [s.val])) : LLAt w9 base v9 (G ++ [s.l]) (S ++ [s]) :=
  ll_more (S' := [s]) (hL5.below ((RowKit.Below.refl _ _).alloc (Nat.le_refl _) _)) rfl (fun t ht => by rw [List.mem_singleton.1 ht]; exact (hS.alloc (Nat.le_refl _) _).more (by simp)) (fun t ht => by
    rw [List.mem_singleton.1 ht]
    cases hvb : vo.ownBlock with
    | none => exact Sl.off_none _
    | some q => exact ho q (hoB q hvb)) (fun t ht j hj => by rw [List.mem_singleton.1 ht]; exact ho j (by omega)) hg9 (hat9.imp id fun h => ⟨_, h, Nat.le_refl _⟩) hown9

theorem own_new1 (w : World) (z : Int) : (w.alloc (.cells #[.int .i64 z] 3)).ownsRow w.heap.size 3 1 (.slice (some ⟨w.heap.size, 0, none⟩) 1 1) 1 (intCells [z]) :=
  ⟨rfl, .inr ⟨w.heap.size, 1, _, rfl, Nat.le_refl _, Whole1.new w 3 #[.int .i64 z], Nat.le_refl _, by unfold maxLen; omega, rfl, rfl⟩⟩

set_option maxHeartbeats 6400000 in
theorem rchains_any (A : Option Addr) (n c : Nat) (l : List Inf) (w : World) (hr : Row w w.heap.size 5 A n (infCells l)) (hl : l.length = n) (hn : n * 40 ≤ 140737488351232) :
    Calls Try.prog 90 #[.slice A n c] w fun e w' => ∃ v S, e = .returned v ∧ LLAt w' w.heap.size v (chainsI l) S ∧ RowKit.Below w.heap.size w w' := by
  obtain ⟨i0, hi, hz0, hz1, hz2⟩ := info_parts info_ints
  obtain ⟨i1, hi1, hz10, hz11, hz12⟩ := info_parts info_int
  have hL := hidden hl
  have HR := hidden hr
  clear hl hr
  go_enter Try.func90, Try.ntmps90
  go_wp2
  go_loopw [3, 4] (fun v vi wr => ∃ (k : Nat) (G : List (List Int)) (S : List (Sl Int)) (vo : Value), vo = v ∧ vi = .int .i64 k ∧ k ≤ n ∧ Hid (LLAt wr w.heap.size v G S) ∧ Hid (G ++ chainsI (l.drop k) = chainsI l) ∧ G.length ≤ k ∧ RowKit.Below w.heap.size w wr) (fun _ vi _ => n - (intOf vi).toNat)
  case atStart => exact ⟨0, [], [], _, rfl, rfl, Nat.zero_le _, hidden (LLAt.start _ _), hidden (by simp), Nat.le_refl _, RowKit.Below.refl _ _⟩
  case round =>
    obtain ⟨k, G, S, vo, rfl, rfl, hk, hLL, hG, hGk, hb⟩ := hrel
    by_cases hlt : k < n
    · obtain ⟨wo, rfl⟩ : ∃ wo : World, wo = wr := ⟨_, rfl⟩
      obtain ⟨gs, o, hA, hgs, x, hx, d0, d1, d2, d3, d4⟩ := inf_cells_at HR.out hL.out hb k hlt
      subst hA
      have HX := hidden hx
      have hbs := hb.size
      have hltz : (k : Int) < (n : Int) := by omega
      have hk0 : (0 : Int) ≤ (k : Int) := by omega
      clear hx
      go_wp2_with fail
      have hbA : RowKit.Below wo.heap.size wo (wo.alloc (.cells #[.int .i64 x.id] 3)) := (RowKit.Below.refl _ _).alloc (Nat.le_refl _) _
      have howA := hidden (own_new1 wo x.id)
      have HD : Hid (l.drop k = x :: l.drop (k + 1)) := hidden (drop_cons? HX.out)
      obtain ⟨r, hr⟩ : ∃ r, l.drop (k + 1) = r := ⟨_, rfl⟩
      have HRr := hidden hr
      clear hr d0 d1 d2 d3 d4
      go_loopw [4, 5, 6] (fun vp ve vg wx => ∃ (p j : Nat) (e : Int) (vgo : Value), vgo = vg ∧ vp = .int .i64 p ∧ ve = .int .i64 e ∧ k + 1 + j ≤ p ∧ p ≤ k + 1 + j ∧ p ≤ n ∧ wx.ownsRow wo.heap.size 3 1 vg (1 + j) (intCells (((l.drop k).take (1 + j)).map Inf.id)) ∧ Hid (spanGo x.til r = j + spanGo e (r.drop j)) ∧ RowKit.Below wo.heap.size wo wx) (fun vp _ _ _ => n - (intOf vp).toNat)
      case atStart => exact ⟨k + 1, 0, x.til, _, rfl, by go_num, rfl, by omega, by omega, by omega, by rw [HD.out]; exact howA.out, hidden (by simp), hbA⟩
      case round =>
        obtain ⟨p, j, e, vgo, rfl, rfl, rfl, hp1, hp2, hpn, hown, hsp, hbx⟩ := hrel
        have hbX := hb.trans (hbx.mono hbs)
        by_cases hpl : p < n
        · obtain ⟨g2, o2, hA, hg2, y, hy, d0, d1, d2, d3, d4⟩ := inf_cells_at HR.out hL.out hbX p hpl
          injection hA with hA
          injection hA with hA1 hA2
          subst hA1 hA2
          have hyr : r[j]? = some y := by rw [← HRr.out, List.getElem?_drop, show k + 1 + j = p from by omega]; exact hy
          have hdr : r.drop j = y :: r.drop (j + 1) := drop_cons? hyr
          have hpz : (p : Int) < (n : Int) := by omega
          have hp0 : (0 : Int) ≤ (p : Int) := by omega
          have hsize := hbx.size
          by_cases hye : y.frm < e
          · have hst : spanGo x.til r = (j + 1) + spanGo (max e y.til) (r.drop (j + 1)) := by
              rw [hsp.out, hdr, spanGo_step hye]; omega
            have HST := hidden hst
            have hids : ((l.drop k).take (1 + (j + 1))).map Inf.id = ((l.drop k).take (1 + j)).map Inf.id ++ [y.id] := by
              have : (l.drop k)[1 + j]? = some y := by rw [List.getElem?_drop, show k + (1 + j) = p from by omega]; exact hy
              rw [show 1 + (j + 1) = (1 + j) + 1 from by omega, take_snoc? this, List.map_append]; rfl
            have HI := hidden hids
            clear hst hids hdr hyr hy hsp
            have hfr := Row.fresh wr 3 1 1 [.int .i64 y.id] rfl
            by_cases hte : e < y.til
            · have hmx := hidden (show max e y.til = y.til by omega)
              go_wp2_with (at_builtin; refine wpList_app _ rfl _ _ 78 rfl wo.heap.size 3 i1 _ 1 8 Try.underlying78 hi1 hz10 hz11 hz12 rfl (by decide) _ _ _ rfl (hown.alloc _) _ _ _ _ _ rfl hfr (by simp [Value.oneCell']) (by unfold maxLen; omega) (by omega) (by simp; omega) ?_; intro v1 w1 hown1 hg1 hat1)
              go_roundw
              case rel =>
                refine ⟨p + 1, j + 1, y.til, _, rfl, by go_num, rfl, by omega, by omega, by omega, ?_, hidden (by rw [← hmx.out]; exact HST.out), (hbx.alloc hsize _).grown hg1 (by simp; omega) (fun q hq => (hown.lt q hq).1)⟩
                rw [HI.out, intCells_snoc, show 1 + (j + 1) = 1 + j + 1 from by omega]; exact hown1
              case measure => simp [intOf]; omega
            · have hmx := hidden (show max e y.til = e by omega)
              go_wp2_with (at_builtin; refine wpList_app _ rfl _ _ 78 rfl wo.heap.size 3 i1 _ 1 8 Try.underlying78 hi1 hz10 hz11 hz12 rfl (by decide) _ _ _ rfl (hown.alloc _) _ _ _ _ _ rfl hfr (by simp [Value.oneCell']) (by unfold maxLen; omega) (by omega) (by simp; omega) ?_; intro v1 w1 hown1 hg1 hat1)
              go_roundw
              case rel =>
                refine ⟨p + 1, j + 1, e, _, rfl, by go_num, rfl, by omega, by omega, by omega, ?_, hidden (by rw [hmx.out] at HST; exact HST.out), (hbx.alloc hsize _).grown hg1 (by simp; omega) (fun q hq => (hown.lt q hq).1)⟩
                rw [HI.out, intCells_snoc, show 1 + (j + 1) = 1 + j + 1 from by omega]; exact hown1
              case measure => simp [intOf]; omega
          · have hst : spanGo x.til r = j := by
              rw [hsp.out, hdr, spanGo_stop hye]; omega
            have HST := hidden hst
            clear hst hdr hyr hy hsp
            obtain ⟨K, hK⟩ : ∃ K, 1 + j = K := ⟨_, rfl⟩
            rw [hK] at hown
            obtain ⟨A5, c5, rfl, hc5, hr5⟩ := own_shape hown
            have hK1 : k + K ≤ p := by omega
            have hK2 : p ≤ k + K := by omega
            have hG0 := chainsI_cons x r
            rw [HST.out, hK, ← HRr.out, ← HD.out, List.drop_drop, show k + K = p from by omega] at hG0
            have hG1 := hG.out
            rw [hG0] at hG1
            have HO5 := hidden hown
            have HR5 := hidden hr5
            have hoq := fun q hq => (hLL.out.1.lt q hq).2
            have hL5 := hLL.out.below hbx
            have hlo := hL5.1
            have HL5 := hidden hL5
            have HOQ := hidden hoq
            have hsz := hbx.size
            clear hK hG0 hr5 hown hL5 hoq HD HST
            by_cases h1 : 1 < K
            · have h1z : (1 : Int) < (K : Int) := by omega
              rw [if_pos h1] at hG1
              have HG1 := hidden hG1
              have hfr := Row.fresh wr 78 1 1 [.slice A5 K c5] rfl
              clear hG1
              go_wp2_with (at_builtin; refine wpList_app _ rfl _ _ 68 rfl w.heap.size 78 i0 _ 1 24 Try.underlying68 hi hz0 hz1 hz2 rfl (by decide) _ _ _ rfl (hlo.alloc _) _ _ _ _ _ rfl hfr (by simp [Value.oneCell']) (by unfold maxLen; omega) (by omega) (by have := hbX.size; simp; omega) ?_; intro v9 w9 hown9 hg9 hat9)
              go_roundw
              case rel =>
                have hlen : (((l.drop k).take K).map Inf.id).length = K := by rw [List.length_map, List.length_take, List.length_drop, hL.out]; omega
                have hS : (Sl.mk A5 K c5 (((l.drop k).take K).map Inf.id)).At wr wr.heap.size 1 intc := ⟨hc5, hlen, HR5.out⟩
                have hm := ll_one (s := Sl.mk A5 K c5 (((l.drop k).take K).map Inf.id)) (B := wo.heap.size) HL5.out hbs HOQ.out hS (fun j hj => Sl.off_own HO5.out hj) hg9 hat9 hown9
                exact ⟨p, _, _, v9, rfl, rfl, hpn, hidden hm, hidden (by rw [List.append_assoc]; exact HG1.out), by simp; omega, (hbX.alloc hbX.size _).grown hg9 (by have := hbX.size; simp; omega) (fun q hq => (hlo.lt q hq).1)⟩
              case measure => simp [intOf]; omega
            · have h1z : ¬ (1 : Int) < (K : Int) := by omega
              rw [if_neg h1, List.nil_append] at hG1
              have HG1 := hidden hG1
              clear hG1
              go_wp2_with fail
              go_roundw
              case rel => exact ⟨p, _, _, vo, rfl, rfl, hpn, HL5, HG1, by omega, hbX⟩
              case measure => simp [intOf]; omega
        · have hst : spanGo x.til r = j := by
            have hrl : r.length = n - (k + 1) := by rw [← HRr.out, List.length_drop, hL.out]
            rw [hsp.out, List.drop_eq_nil_of_le (by omega)]; rfl
          have hpz : ¬ (p : Int) < (n : Int) := by omega
          have HST := hidden hst
          clear hst hsp
          obtain ⟨K, hK⟩ : ∃ K, 1 + j = K := ⟨_, rfl⟩
          rw [hK] at hown
          obtain ⟨A5, c5, rfl, hc5, hr5⟩ := own_shape hown
          have hK1 : k + K ≤ p := by omega
          have hK2 : p ≤ k + K := by omega
          have hG0 := chainsI_cons x r
          rw [HST.out, hK, ← HRr.out, ← HD.out, List.drop_drop, show k + K = p from by omega] at hG0
          have hG1 := hG.out
          rw [hG0] at hG1
          have HO5 := hidden hown
          have HR5 := hidden hr5
          have hoq := fun q hq => (hLL.out.1.lt q hq).2
          have hL5 := hLL.out.below hbx
          have hlo := hL5.1
          have HL5 := hidden hL5
          have HOQ := hidden hoq
          have hsz := hbx.size
          clear hK hG0 hr5 hown hL5 hoq HD HST
          by_cases h1 : 1 < K
          · have h1z : (1 : Int) < (K : Int) := by omega
            rw [if_pos h1] at hG1
            have HG1 := hidden hG1
            have hfr := Row.fresh wr 78 1 1 [.slice A5 K c5] rfl
            clear hG1
            go_wp2_with (at_builtin; refine wpList_app _ rfl _ _ 68 rfl w.heap.size 78 i0 _ 1 24 Try.underlying68 hi hz0 hz1 hz2 rfl (by decide) _ _ _ rfl (hlo.alloc _) _ _ _ _ _ rfl hfr (by simp [Value.oneCell']) (by unfold maxLen; omega) (by omega) (by have := hbX.size; simp; omega) ?_; intro v9 w9 hown9 hg9 hat9)
            go_roundw
            case rel =>
              have hlen : (((l.drop k).take K).map Inf.id).length = K := by rw [List.length_map, List.length_take, List.length_drop, hL.out]; omega
              have hS : (Sl.mk A5 K c5 (((l.drop k).take K).map Inf.id)).At wr wr.heap.size 1 intc := ⟨hc5, hlen, HR5.out⟩
              have hm := ll_one (s := Sl.mk A5 K c5 (((l.drop k).take K).map Inf.id)) (B := wo.heap.size) HL5.out hbs HOQ.out hS (fun j hj => Sl.off_own HO5.out hj) hg9 hat9 hown9
              exact ⟨p, _, _, v9, rfl, rfl, hpn, hidden hm, hidden (by rw [List.append_assoc]; exact HG1.out), by simp; omega, (hbX.alloc hbX.size _).grown hg9 (by have := hbX.size; simp; omega) (fun q hq => (hlo.lt q hq).1)⟩
            case measure => simp [intOf]; omega
          · have h1z : ¬ (1 : Int) < (K : Int) := by omega
            rw [if_neg h1, List.nil_append] at hG1
            have HG1 := hidden hG1
            clear hG1
            go_wp2_with fail
            go_roundw
            case rel => exact ⟨p, _, _, vo, rfl, rfl, hpn, HL5, HG1, by omega, hbX⟩
            case measure => simp [intOf]; omega
    · obtain rfl : k = n := by omega
      have hG1 := hG.out
      rw [List.drop_eq_nil_of_le (by rw [hL.out]; omega)] at hG1
      have HG1 := hidden (show G = chainsI l by simpa [chainsI, chainsF] using hG1)
      clear hG1
      go_wp2
      go_ret
      exact ⟨_, S, rfl, by rw [← HG1.out]; exact hLL.out, hb⟩
end Go.Proofs.Ytohocdbneopooaa
