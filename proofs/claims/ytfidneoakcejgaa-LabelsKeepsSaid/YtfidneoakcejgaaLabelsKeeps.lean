/- LabelsKeeps: lists that are answered are new memory. No condition. -/
import Derived.Test.YtfidneoakcejgaaLabLaw
namespace Go.Proofs.Ytfidneoakcejgaa
set_option maxRecDepth 100000
open Go.RowKit Go.WideShapes Go.ChangeShapes

theorem LbF.grown {w w' : World} {A : Option Addr} {n : Nat} {l : List Lbl} {X : Option Nat} (h : LbF w A n l) (hg : w.grownBy w' X) (hoff : 0 < n → ∀ a, A = some a → some a.block ≠ X) : LbF w' A n l :=
  ⟨(h.row.grown hg hoff (Nat.le_refl _)).more hg.size, h.len, h.fit, h.sz⟩
def markB : Lbl := ⟨⟨#[109, 97, 114, 107]⟩, ⟨#[109, 97, 114, 107]⟩⟩

set_option maxHeartbeats 3200000 in
theorem labelsKeeps_any (A : Option Addr) (n c : Nat) (l : List Lbl) (w : World) (h : LbF w A n l) :
    Calls Try.prog 5 #[.slice A n c] w fun e w' => e = .returned (.bool true) ∧ Below w.heap.size w w' := by
  obtain ⟨i0, hi, hz0, hz1, hz2⟩ := info_parts ClnLbl.info
  have H := hidden h
  have msz := hidden (make_sz h.sz)
  have mle := makeL_len (l := l)
  obtain ⟨E, hE⟩ : ∃ E : Nat, makeErr l = E := ⟨_, rfl⟩
  obtain ⟨M, hM⟩ : ∃ M, makeL l = M := ⟨_, rfl⟩
  obtain ⟨m, hm⟩ : ∃ m, M.length = m := ⟨_, rfl⟩
  have hEE : ((E : Int) != (E : Int)) = false := by simp
  have SM := hidden (fun B c w => lmake_any B n c l w)
  have SR := hidden (fun B c w => rmake_any B n c l w)
  rw [hE, hM, hm] at SM SR
  rw [hM] at msz mle
  rw [hm] at mle
  have HM := hidden hm
  clear h hE hM hm
  go_enter Try.func5, Try.ntmps5
  go_wp2_with fail
  refine (twinL _ _ _ _ _ H.out).mono ?_
  rintro e w1 ⟨B1, c1, rfl, hl1, hc1, b1⟩
  have HB1 := hidden b1
  have HG1 := hidden hl1
  have HA1 := hidden (H.out.on b1)
  clear b1 hl1
  go_wp2_with fail
  refine (SM.out _ _ _ HG1.out hc1).mono ?_
  rintro e w2 ⟨v2, rfl, hown2, b2⟩
  obtain ⟨A2, c2, rfl, _, _⟩ := own_shape hown2
  have HO2 := hidden hown2
  have HB2 := hidden (HB1.out.trans (b2.mono HB1.out.size))
  have HG2 := hidden (HG1.out.on b2)
  have HA2 := hidden (HA1.out.on b2)
  have OG : Hid (0 < n → ∀ a, B1 = some a → some a.block ≠ (Value.slice A2 m c2).ownBlock) := fun hn a ha e => by
    obtain ⟨g, o, e1, hg, _⟩ := HG1.out.row.at_ hn
    rw [ha] at e1
    injection e1 with e1
    subst e1
    have := (HO2.out.lt _ e.symm).1
    simp only at this
    omega
  have OA : Hid (0 < n → ∀ a, A = some a → some a.block ≠ (Value.slice A2 m c2).ownBlock) := fun hn a ha e => by
    obtain ⟨g, o, e1, hg, _⟩ := HA1.out.row.at_ hn
    rw [ha] at e1
    injection e1 with e1
    subst e1
    have := (HO2.out.lt _ e.symm).1
    simp only at this
    omega
  have X2 : Hid (∀ q, (Value.slice A2 m c2).ownBlock = some q → q < w2.heap.size) := fun q hq => (HO2.out.lt q hq).2
  have N1 : Hid (w.heap.size ≤ w1.heap.size) := HB1.out.size
  have L2 : Hid (w1.heap.size ≤ w2.heap.size) := b2.size
  clear b2 hown2 HA1 HG1
  go_wp2_with fail
  refine (SM.out _ _ _ HG2.out hc1).mono ?_
  rintro e w3 ⟨v3, rfl, hown3, b3⟩
  obtain ⟨A3, c3, rfl, _, hr3⟩ := own_shape hown3
  have HB3 := hidden (HB2.out.trans (b3.mono HB2.out.size))
  have HG3 := hidden (HG2.out.on b3)
  have HA3 := hidden (HA2.out.on b3)
  have HO3 := hidden (own_below HO2.out b3 (Nat.le_refl _))
  have HT3 := hidden (show LbF w3 A3 m M from ⟨hr3, HM.out, by omega, msz.out⟩)
  have O3 : Hid (0 < m → ∀ a, A3 = some a → some a.block ≠ (Value.slice A2 m c2).ownBlock) := fun _ a ha e => by
    subst ha
    have h1 := (hown3.lt a.block rfl).1
    have h2 := X2.out _ e.symm
    omega
  have N3 : Hid (w2.heap.size ≤ w3.heap.size) := b3.size
  clear b3 hown3 hr3 HA2 HG2 HO2
  go_wp2_with (go_at_call 17; refine (refL _ _ _ _ _ HA3.out).mono ?_; rintro e w4 ⟨B4, c4, rfl, hl4, hc4, b4⟩; have HB4 := hidden (HB3.out.trans (b4.mono HB3.out.size)); have HR4 := hidden hl4; have HT4 := hidden (HT3.out.on b4); have HG4 := hidden (HG3.out.on b4); have HA4 := hidden (HA3.out.on b4); have HO4 := hidden (own_below HO3.out b4 (Nat.le_refl _)); have N4 : Hid (w2.heap.size ≤ w4.heap.size) := Nat.le_trans N3.out b4.size; clear b4 hl4 HT3 HG3 HA3 HO3)
  refine (SR.out _ _ _ HR4.out).mono ?_
  rintro e w5 ⟨v5, rfl, hown5, b5⟩
  obtain ⟨A5, c5, rfl, _, hr5⟩ := own_shape hown5
  have HB5 := hidden (HB4.out.trans (b5.mono HB4.out.size))
  have HT5 := hidden (HT4.out.on b5)
  have HG5 := hidden (HG4.out.on b5)
  have HA5 := hidden (HA4.out.on b5)
  have HO5 := hidden (own_below HO4.out b5 (Nat.le_refl _))
  have HW5 := hidden (show LbF w5 A5 m M from ⟨hr5, HM.out, by omega, msz.out⟩)
  have O5 : Hid (0 < m → ∀ a, A5 = some a → some a.block ≠ (Value.slice A2 m c2).ownBlock) := fun _ a ha e => by
    subst ha
    have h1 := (hown5.lt a.block rfl).1
    have h2 := X2.out _ e.symm
    have h3 := N4.out
    omega
  have L5 : Hid (w1.heap.size ≤ w5.heap.size) := Nat.le_trans (Nat.le_trans L2.out N4.out) b5.size
  clear b5 hown5 hr5 HT4 HG4 HA4 HO4 HR4 X2 N3 N4 SM SR
  go_wp2_with fail
  refine (wakes04_any _).mono ?_
  rintro e w6 ⟨rfl, b6⟩
  have HB6 := hidden (HB5.out.trans (b6.mono HB5.out.size))
  have HT6 := hidden (HT5.out.on b6)
  have HG6 := hidden (HG5.out.on b6)
  have HA6 := hidden (HA5.out.on b6)
  have HW6 := hidden (HW5.out.on b6)
  have HO6 := hidden (own_below HO5.out b6 (Nat.le_refl _))
  have L6 : Hid (w1.heap.size ≤ w6.heap.size) := Nat.le_trans L5.out b6.size
  clear b6 HT5 HG5 HA5 HO5 HW5 HB5 HB4 HB3 HB2 HB1
  go_wp2_with fail
  go_loopw [38] (fun vi wr => ∃ k : Nat, k ≤ m ∧ vi = .int .i64 k ∧ Hid (w6.grownBy wr (Value.slice A2 m c2).ownBlock) ∧ Hid (∃ L : List Lbl, L.length = m ∧ wr.ownsRow w1.heap.size 39 2 (.slice A2 m c2) m (L.flatMap Lbl.cells))) (fun vi _ => m - (intOf vi).toNat)
  case atStart => exact ⟨0, Nat.zero_le _, rfl, hidden (gb_refl _ _), hidden ⟨M, HM.out, HO6.out⟩⟩
  case round =>
    obtain ⟨k, hk, rfl, hgb, hown⟩ := hrel
    have k0 : (0 : Int) ≤ (k : Int) := by omega
    by_cases hlt : k < m
    · obtain ⟨L, hL, hown⟩ := hown.out
      obtain ⟨g, cap, rest, hv, hgg, hW, hnc, hcap, hlm, hsz⟩ := own_whole_g TwnLbl.hk hown (by omega)
      simp only [Value.slice.injEq, true_and] at hv
      obtain ⟨rfl, rfl⟩ := hv
      obtain ⟨x, hx⟩ : ∃ x, L[k]? = some x := ⟨_, List.getElem?_eq_getElem (by omega)⟩
      have k1 : (k : Int) < (m : Int) := by omega
      have c0 : wr.cell? ⟨g, k * 2, none⟩ = some (.string x.name) := whole_at TwnLbl.hk hW hx 0 (by omega)
      have d0 : wr.cell? ⟨g, k * 2 + 1, none⟩ = some (.string x.value) := whole_at TwnLbl.hk hW hx 1 (by omega)
      have f0 := hW.free (k * 2)
      have f1 := hW.free (k * 2 + 1)
      have hP := puts_elem TwnLbl.hk hW (i := k) (by omega) markB
      have hlset : ((L.set k markB).flatMap Lbl.cells ++ rest).length = c2 * 2 := by
        rw [List.length_append, fm_len TwnLbl.hk] at hsz ⊢
        rw [List.length_set]
        exact hsz
      have HOX := hidden (own_of_whole_g TwnLbl.hk hgg hP hnc hcap (by rw [List.length_set]; exact hL) hlset)
      have HGX := hidden (gb_trans hgb.out (puts_gb (g := g) markB.cells (k * 2) wr))
      have HLL : Hid ((L.set k markB).length = m) := by rw [Hid, List.length_set]; exact hL
      clear hown hx hW hP hlset hsz hgb hL hlm
      go_wp2_with fail
      go_roundw
      case rel => exact ⟨k + 1, by omega, by go_num, hidden HGX.out, hidden ⟨_, HLL.out, HOX.out⟩⟩
      case measure => simp [intOf]; omega
    · have k1 : ¬ (k : Int) < (m : Int) := by omega
      obtain ⟨L, hL, hown⟩ := hown.out
      have HO7 := hidden hown
      have HG7 := hidden hgb.out
      clear hown hgb hL
      go_wp2_with fail
      go_loopw [4, 46] (fun v vi wx => ∃ (j : Nat) (v' : Value) (cs : List Value), v' = v ∧ j ≤ 3 ∧ vi = .int .i64 j ∧ Hid (w6.grownBy wx (Value.slice A2 m c2).ownBlock) ∧ wx.ownsRow w1.heap.size 39 2 v' (m + j) cs ∧ Hid (v'.ownBlock = (Value.slice A2 m c2).ownBlock ∨ ∀ q, v'.ownBlock = some q → w6.heap.size ≤ q)) (fun _ vi _ => 3 - (intOf vi).toNat)
      case atStart => exact ⟨0, _, _, rfl, by omega, rfl, HG7, HO7.out, hidden (.inl rfl)⟩
      case round =>
        obtain ⟨j, v', cs, rfl, hj, rfl, hgx, hownx, hd⟩ := hrel
        have hbs : w6.heap.size ≤ wr.heap.size := hgx.out.size
        have hb1 := L6.out
        by_cases hlt : j < 3
        · have j1 : (j : Int) < 3 := by omega
          have j0 : (0 : Int) ≤ (j : Int) := by omega
          obtain ⟨A8, c8, rfl, _, _⟩ := own_shape hownx
          have hfr := Row.fresh wr 39 2 1 [.string ⟨#[103, 114, 111, 119, 110]⟩, .string ⟨#[]⟩] rfl
          go_wp2_with (at_builtin; refine wpList_app _ rfl _ _ 22 rfl w1.heap.size 39 i0 _ 2 32 Try.underlying22 hi hz0 hz1 hz2 rfl (by decide) _ _ _ rfl (hownx.alloc _) _ _ _ _ _ rfl hfr (by simp [Value.oneCell']) (by unfold maxLen; omega) (by omega) (by simp; omega) ?_; intro v9 w9 hown9 hg9 hat9)
          have hg9 : (wr.alloc (.cells #[.string ⟨#[103, 114, 111, 119, 110]⟩, .string ⟨#[]⟩] 39)).grownBy w9 (Value.slice A8 (m + j) c8).ownBlock := hg9
          have hat9 : v9.ownBlock = (Value.slice A8 (m + j) c8).ownBlock ∨ v9.ownBlock = some (wr.alloc (.cells #[.string ⟨#[103, 114, 111, 119, 110]⟩, .string ⟨#[]⟩] 39)).heap.size := hat9
          have HGX : Hid (w6.grownBy w9 (Value.slice A2 m c2).ownBlock) := by
            rcases hd.out with h | h
            · rw [h] at hg9
              exact gb_trans (gb_alloc hgx.out _) hg9
            · exact gb_far (gb_alloc hgx.out _) hg9 h
          have HDX : Hid (v9.ownBlock = (Value.slice A2 m c2).ownBlock ∨ ∀ q, v9.ownBlock = some q → w6.heap.size ≤ q) := by
            rcases hat9 with e | e
            · rw [e]; exact hd.out
            · exact .inr fun q hq => by
                rw [e] at hq
                simp only [Option.some.injEq, World.size_alloc] at hq
                omega
          have HOX := hidden hown9
          clear hown9 hg9 hat9 hownx hgx hd hfr
          go_wp2_with fail
          go_roundw
          case rel => exact ⟨j + 1, v9, _, rfl, by omega, by go_num, HGX, HOX.out, HDX⟩
          case measure => simp [intOf]; omega
        · obtain rfl : j = 3 := by omega
          have j1 : ¬ ((3 : Nat) : Int) < 3 := by omega
          obtain ⟨A8, c8, rfl, _, _⟩ := own_shape hownx
          have HT8 := hidden (HT6.out.grown hgx.out O3.out)
          have HW8 := hidden (HW6.out.grown hgx.out O5.out)
          have HG8 := hidden (HG6.out.grown hgx.out OG.out)
          have HA8 := hidden (HA6.out.grown hgx.out OA.out)
          have HB8 : Hid (Below w.heap.size w wr) := HB6.out.grown hgx.out HB6.out.size fun q hq => Nat.le_trans N1.out (HO6.out.lt q hq).1
          have hm3 : ((m + 3 : Nat) : Int) = (m : Int) + 3 := by omega
          clear hownx hgx hd hbs
          go_wp2_with (first
            | (go_at_call 19; refine (alikeL _ _ _ _ _ _ _ HGa.out HRa.out).mono ?_; rintro e wb ⟨rfl, bb⟩; have HBb := hidden (HBa.out.trans (bb.mono HBa.out.size)); clear bb)
            | (go_at_call 19; refine (alikeL _ _ _ _ _ _ _ HT8.out HW8.out).mono ?_; rintro e w9 ⟨rfl, b9⟩; have HB9 := hidden (HB8.out.trans (b9.mono HB8.out.size)); have HG9 := hidden (HG8.out.on b9); have HA9 := hidden (HA8.out.on b9); clear b9)
            | (go_at_call 17; refine (refL _ _ _ _ _ HA9.out).mono ?_; rintro e wa ⟨Ba, ca, rfl, hla, hca, ba⟩; have HBa := hidden (HB9.out.trans (ba.mono HB9.out.size)); have HRa := hidden hla; have HGa := hidden (HG9.out.on ba); clear ba hla))
          go_ret
          exact ⟨rfl, HBb.out⟩

theorem labelsKeeps_walk {H : Type} (enc : TypeId × Value → H) : LawWalk enc Try.prog 5 Try.f5 (fun _ => True) := by
  intro W base args ds p hval hA hlt hsz _
  rw [Try.params5] at hval hA hsz
  obtain ⟨v0, vs0, d0, ds0, p0, q0, hargs, rfl, rfl, h0, r0⟩ := trodAll_cons hA
  obtain ⟨rfl, rfl, rfl⟩ := trodAll_nil r0
  obtain rfl : args = #[v0] := by cases args; simp_all
  obtain ⟨A, n, c, l, rfl, hl, _⟩ := open_labels (hval 0 22 v0 rfl rfl) h0 (arg_fits (b := Rows.uptoBulkAll [d0]) (j := 0) rfl rfl (fun x hx => hlt x (by simp [hx])) hsz (Nat.le_refl _))
  exact labelsKeeps_any A n c l W hl

namespace labelsKeeps
set_option maxRecDepth 100000 in
theorem lifted (os : Os) (started : os.Started) (H : Type) (enc : TypeId × Value → H) :
    ReturnsInHanded {} Try.checked os 5 .any (Rows.labelsKeepsSpec.pre6 enc Try.prog Try.f5 Rows.labelsKeepsRow.domain false) (Rows.labelsKeepsSpec.post enc Try.prog Try.f5 false true false false) :=
  law_said (C := Try.checked) (s := Rows.labelsKeepsSpec) (tb := 4) own_prog started (by kernel_rfl) Try.func5
    (ChangeSpec.witness6 (enc := enc) (C := Try.checked) false ⟨#[], #[.slice none 0 0], []⟩ 8 (by kernel_rfl) (by kernel_rfl) (by kernel_rfl) (by kernel_rfl))
    laidOut (by kernel_rfl) rfl Try.underlying4 ⟨rfl, fun H ds h => match ds, h with | [_], _ => ⟨rfl, rfl, rfl⟩⟩ (labelsKeeps_walk enc)

theorem proved : Rows.LabelsKeepsSaid :=
  OpenClaim.holds_of_wide 5 Try.f5 rfl rfl rfl rfl rfl rfl rfl ⟨rfl, rfl, rfl, rfl, rfl⟩ rfl rfl rfl rfl rfl (by kernel_rfl) Try.func5 (by kernel_rfl)
    (of_decide_eq_true (by kernel_rfl)) (by unfold Func.isWrapper; first | (rw [if_pos (by decide +kernel)]; kernel_rfl) | (rw [if_neg (by decide +kernel)]; exact ⟨rfl, rfl⟩))
    (fun os started H enc _ => lifted os started H enc)
#print axioms proved
end labelsKeeps

end Go.Proofs.Ytfidneoakcejgaa
