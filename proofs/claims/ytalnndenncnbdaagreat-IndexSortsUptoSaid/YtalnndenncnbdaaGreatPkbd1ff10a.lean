/- The document's Sorted, walked. Condition: the index is one, of valid sets. -/
import Derived.Test.YtalnndenncnbdaaGreatPke0389641
import Derived.Test.YtalnndenncnbdaaGreatPutG
import Derived.Test.YtalnndenncnbdaaGreatPk81e63c35
namespace Go.Proofs.YtalnndenncnbdaaGreat
set_option maxRecDepth 100000
open Go.RowKit Go.Sort

/-- the set of a number -/
def getE (E : List (List Lbl)) (a : Int) : List Lbl := E.getD a.toNat []
/-- which number's set is the lesser -/
def cmpE (E : List (List Lbl)) (x y : Int) : Int := cmpLs (getE E x) (getE E y)
def ltE (E : List (List Lbl)) (x y : Int) : Bool := decide (cmpE E x y < 0)
theorem swo_ltE (E : List (List Lbl)) : SWO (ltE E) where
  irrefl x := tri_Ls.swo.irrefl (getE E x)
  trans x y z := tri_Ls.swo.trans (getE E x) (getE E y) (getE E z)
  ntrans x y z := tri_Ls.swo.ntrans (getE E x) (getE E y) (getE E z)
theorem getE_at {E : List (List Lbl)} {i : Nat} {l : List Lbl} (h : E[i]? = some l) : getE E (i : Int) = l := by
  unfold getE
  rw [List.getD_eq_getElem?_getD, Int.toNat_natCast, h]
  rfl
/-- the numbers in the order of their sets -/
def SrtE (E : List (List Lbl)) (S : List Int) : Prop := S.Perm (upL E.length) ∧ PutG.InOrd (ltE E) S
/-- they stand in order, each less than the next -/
theorem SrtE.strict {E : List (List Lbl)} {S : List Int} (h : SrtE E S) (hn : E.Nodup) : S.Pairwise fun a b => ltE E a b = true := by
  have hnd : S.Nodup := (h.1.nodup_iff).2 (rising_nodup (upL_rising _))
  have hm : ∀ x ∈ S, 0 ≤ x ∧ x < (E.length : Int) := fun x hx => mem_upL.1 (h.1.mem_iff.1 hx)
  refine (h.2.and hnd).imp_of_mem fun {a b} ha hb ⟨h1, h2⟩ => ?_
  have r1 := cmpLs_range (getE E a) (getE E b)
  have t1 := cmpLs_turn (getE E a) (getE E b)
  have z1 := cmpLs_zero (getE E a) (getE E b)
  by_cases e : cmpLs (getE E a) (getE E b) = 0
  · exfalso
    have he := z1.1 e
    obtain ⟨a0, a1⟩ := hm a ha
    obtain ⟨b0, b1⟩ := hm b hb
    obtain ⟨la, ea'⟩ : ∃ la, E[a.toNat]? = some la := ⟨_, List.getElem?_eq_getElem (by omega)⟩
    obtain ⟨lb, eb'⟩ : ∃ lb, E[b.toNat]? = some lb := ⟨_, List.getElem?_eq_getElem (by omega)⟩
    have ea := getE_at ea'
    have eb := getE_at eb'
    rw [Int.toNat_of_nonneg a0] at ea
    rw [Int.toNat_of_nonneg b0] at eb
    rw [ea, eb] at he
    rw [he] at ea'
    have k1 := atE_at hn ea'
    have k2 := atE_at hn eb'
    rw [k1] at k2
    have := Option.some.inj k2
    omega
  · show decide (cmpLs (getE E a) (getE E b) < 0) = true
    have h1 : decide (cmpLs (getE E b) (getE E a) < 0) = false := h1
    simp only [decide_eq_false_iff_not] at h1
    exact decide_eq_true (by omega)
theorem srtE_ext {E : List (List Lbl)} {S S' : List Int} (h : SrtE E S) (h' : SrtE E S') (hn : E.Nodup) : S = S' := by
  have hp := h.1.trans h'.1.symm
  refine hp.eq_of_pairwise (le := fun a b => ltE E a b = true) (fun x y _ _ h1 h2 => ?_) (h.strict hn) (h'.strict hn)
  have := (swo_ltE E).trans _ _ _ h1 h2
  rw [(swo_ltE E).irrefl] at this
  cases this
theorem ints_fm (l : List Int) : l.flatMap (fun x : Int => [Value.int .i64 x]) = l.map (Value.int .i64) := by
  induction l with
  | nil => rfl
  | cons x l ih => rw [List.flatMap_cons, ih]; rfl
def encI (x : Int) : List Value := [Value.int .i64 x]
theorem encI_k (x : Int) : (encI x).length = 1 := rfl
theorem encI_fm (l : List Int) : l.flatMap encI = l.map (Value.int .i64) := ints_fm l
theorem getE_set {E : List (List Lbl)} {L : List SetR} (hE : L.map SetR.l = E) {i : Nat} {s : SetR} (h : L[i]? = some s) : getE E (i : Int) = s.l := getE_at (by rw [← hE, List.getElem?_map, h]; rfl)
/-- a number's cell in the row of sets, and its set -/
theorem ridx_at {w : World} {base q n cs g o : Nat} {L : List SetR} (hi : RIdxG w base q (.slice (some ⟨g, o, none⟩) n cs) L) (hv : ∀ s ∈ L, validP s.l) {i : Nat} (h : i < L.length) :
    ∃ s A c, L[i]? = some s ∧ w.cell? ⟨g, o + i, none⟩ = some (.slice A s.l.length c) ∧ LbF w A s.l.length s.l ∧ validP s.l := by
  obtain ⟨s, hs⟩ : ∃ s, L[i]? = some s := ⟨_, List.getElem?_eq_getElem h⟩
  obtain ⟨As', cs', e1, _, hr⟩ := own_shape hi.sets
  simp only [Value.slice.injEq] at e1
  obtain ⟨rfl, rfl, rfl⟩ := e1
  obtain ⟨g', o', e2, hg, hc⟩ := hr.at_ (by omega)
  cases e2
  have ck : w.cell? ⟨g, o + i, none⟩ = some s.v := by rw [hc i (by rw [Nat.mul_one]; omega), List.getElem?_map, hs]; rfl
  obtain ⟨A2, c2, hv2, hf2, _⟩ := lbF_own (hi.lab s (List.mem_of_getElem? hs)) (hv s (List.mem_of_getElem? hs))
  rw [hv2] at ck
  exact ⟨s, A2, c2, hs, ck, hf2, hv s (List.mem_of_getElem? hs)⟩
theorem put_int {w : World} {g : Nat} {t : TypeId} {l : List Int} {rest : List Value} {i : Nat} (h : Whole1 w g t (l.flatMap encI ++ rest).toArray) (hi : i < l.length) (x : Int) : Whole1 (w.setCell ⟨g, i, none⟩ (.int .i64 x)) g t ((l.set i x).flatMap encI ++ rest).toArray := by
  have := puts_elem encI_k h hi x
  rw [Nat.mul_one] at this
  exact this
theorem own_ints {w : World} {base g cap n : Nat} {T : TypeId} {l : List Int} {rest : List Value} (hg : base ≤ g) (hw : Whole1 w g T (l.flatMap encI ++ rest).toArray) (hnc : n ≤ cap) (hc : cap ≤ maxLen) (hl : l.length = n) (hs : (l.flatMap encI ++ rest).length = cap * 1) : w.ownsRow base T 1 (.slice (some ⟨g, 0, none⟩) n cap) n (l.map (Value.int .i64)) := by
  rw [← encI_fm]
  exact own_of_whole_g encI_k hg hw hnc hc hl hs
set_option maxHeartbeats 6400000 in
theorem rsorted14_any (w : World) {base q : Nat} {E : List (List Lbl)} (h : RIdx w base q E) (hv : ∀ x ∈ E, validP x) (hE : E.length ≤ 1048576) :
    Calls Tryz.prog 21 #[.pointer (some ⟨q, 0, none⟩)] w fun e w' => ∃ v S, e = .returned v ∧ w'.ownsRow w.heap.size 3 1 v E.length (S.map (Value.int .i64)) ∧ SrtE E S ∧ Below w.heap.size w w' := by
  obtain ⟨iz, hi, hz0, hz1, hz2⟩ := info_parts info_int
  obtain ⟨sv, L, h, hLE⟩ := h
  have hEL : E.length = L.length := by rw [← hLE, List.length_map]
  rw [hEL] at hE ⊢
  obtain ⟨As, cs, rfl, hcs, _⟩ := own_shape h.sets
  have HV := hidden (show ∀ s ∈ L, validP s.l from fun s hs => hv s.l (by rw [← hLE]; exact List.mem_map.2 ⟨s, hs, rfl⟩))
  have H := hidden h
  have HLE := hidden hLE
  have HEL := hidden hEL
  clear h hv hLE hEL
  go_enter Tryz.func21, Tryz.ntmps21
  go_wp2_with fail
  go_loopw [3, 4] (fun v vi wr => ∃ (k : Nat) (R : List Int), vi = .int .i64 (k : Int) ∧ k ≤ L.length ∧ wr.ownsRow w.heap.size 3 1 v k (R.map (Value.int .i64)) ∧ Hid (R.Perm (upL k)) ∧ Hid (PutG.InOrd (ltE E) R) ∧ Hid (Below w.heap.size w wr)) (fun _ vi _ => L.length - (intOf vi).toNat)
  case atStart => exact ⟨0, [], rfl, Nat.zero_le _, World.ownsRow_nil _ _ _ _, hidden (List.Perm.refl _), hidden List.Pairwise.nil, hidden (Below.refl _ _)⟩
  case round =>
    obtain ⟨k, R, rfl, hk, hown, hperm, hord, hb⟩ := hrel
    have hi' := H.out.turn (Turn.of_below hb.out base [] false) (by simp) (by simp) (by simp)
    have c0 := hi'.blk.cell 0
    by_cases hlt : k < L.length
    · have k1 : (k : Int) < (L.length : Int) := by omega
      have k0 : (0 : Int) ≤ (k : Int) := by omega
      have fwk : IntKind.i64.wrap ((k : Int) + 1) = (k : Int) + 1 := Go.IntWalk.i64_in _ (by omega)
      have hRl : R.length = k := by have := hperm.out.length_eq; rw [upL_len] at this; exact this
      have HRL := hidden hRl
      have HLT := hidden (show k + 1 ≤ L.length from hlt)
      have hfr := Row.fresh wr 3 1 1 [.int .i64 (k : Int)] rfl
      have hbs := hb.out.size
      have hk20 : k ≤ 1048576 := by omega
      obtain ⟨As', cs', e1, _, hr⟩ := own_shape hi'.sets
      cases e1
      obtain ⟨g2, o2, rfl, hg2, _⟩ := hr.at_ (by omega)
      clear hr
      clear hi' hlt hRl
      go_wp2_with (at_builtin; refine wpList_app _ rfl _ _ 49 rfl w.heap.size 3 iz _ 1 8 Tryz.underlying49 hi hz0 hz1 hz2 rfl (by decide) _ _ _ rfl (hown.alloc _) _ _ _ _ _ rfl hfr (by simp [Value.oneCell']) (by unfold maxLen; omega) (by omega) (by simp; omega) ?_; intro v1 w1 hown1 hg1 hat1; obtain ⟨g, cap, rest, rfl, hg, hW1, hnc1, hcap, _, hlr⟩ := own_whole_g (l := R ++ [(k : Int)]) encI_k (by rw [encI_fm, List.map_append]; exact hown1) (Nat.succ_pos _); have HW1 := hidden hW1; have HLR := hidden hlr; have HG1 := hidden hg1; have HCAP := hidden hcap; clear hown1 hg1 hat1 hW1 hlr hcap)
      have HB1 := hidden ((hb.out.alloc hbs (.cells #[.int .i64 (k : Int)] 3)).grown HG1.out (by simp; omega) (fun q hq => (hown.lt q hq).1))
      have HS1 := hidden (show wr.heap.size ≤ w1.heap.size from by have := HG1.out.size; rw [World.size_alloc] at this; omega)
      clear hown hfr
      generalize wr = wa at *
      clear c0
      go_loopw [5] (fun vj wx => ∃ j : Nat, j ≤ k ∧ vj = .int .i64 (j : Int) ∧ Hid (Whole1 wx g 3 ((PutG.putAt j (k : Int) R).flatMap encI ++ rest).toArray) ∧ Hid (∀ (p : Nat) (y : Int), j ≤ p → R[p]? = some y → ltE E (k : Int) y = true) ∧ Hid (Below w.heap.size w wx)) (fun vj _ => (intOf vj).toNat)
      case atStart =>
        refine ⟨k, Nat.le_refl _, rfl, hidden ?_, hidden ?_, HB1⟩
        · rw [← HRL.out, PutG.putAt_end, HRL.out]; exact HW1.out
        · intro p y hp hy
          rw [List.getElem?_eq_none (by have := HRL.out; omega)] at hy
          cases hy
      case round =>
        obtain ⟨j, hj, rfl, hwj, hup, hbx⟩ := hrel
        have hib := H.out.turn (Turn.of_below hbx.out base [] false) (by simp) (by simp) (by simp)
        have c0 := hib.blk.cell 0
        by_cases hj0 : 0 < j
        · obtain ⟨r, rfl⟩ : ∃ r, j = r + 1 := ⟨j - 1, by omega⟩
          have hjR : r + 1 ≤ R.length := by have := HRL.out; omega
          obtain ⟨y, hy⟩ : ∃ y, R[r]? = some y := ⟨R[r], List.getElem?_eq_getElem (by omega)⟩
          have hpj : (PutG.putAt (r + 1) (k : Int) R)[r + 1]? = some (k : Int) := PutG.putAt_at (r + 1) _ R hjR
          have hpq : (PutG.putAt (r + 1) (k : Int) R)[r]? = some y := by rw [PutG.putAt_low (r + 1) r _ R (by omega), if_pos (by omega)]; exact hy
          have d1 : wr.cell? ⟨g, r + 1, none⟩ = some (.int .i64 (k : Int)) := by have := whole_at encI_k hwj.out hpj 0 (by omega); simpa [encI] using this
          have d0 : wr.cell? ⟨g, r, none⟩ = some (.int .i64 y) := by have := whole_at encI_k hwj.out hpq 0 (by omega); simpa [encI] using this
          have hym := mem_upL.1 (hperm.out.mem_iff.1 (List.mem_of_getElem? hy))
          obtain ⟨yn, rfl⟩ : ∃ yn : Nat, y = (yn : Int) := ⟨y.toNat, by omega⟩
          obtain ⟨s1, A1, e1, hs1, ck1, hf1, hv1⟩ := ridx_at hib HV.out (i := k) (by have := HLT.out; omega)
          obtain ⟨s0, A0, e0, hs0, ck0, hf0, hv0⟩ := ridx_at hib HV.out (i := yn) (by have := HLT.out; omega)
          have S1 := hidden (fun m => rcompare_any A1 A0 s1.l.length s0.l.length e1 e0 s1.l s0.l (wr.drewN m) wr.heap.size wr.heap.size (hf1.row.drewN m) (hf0.row.drewN m) rfl rfl (by have := (valid_small hv1).1; omega))
          obtain ⟨ob, hob⟩ : ∃ ob, cmpLs s1.l s0.l = ob := ⟨_, rfl⟩
          rw [hob] at S1
          have HOB := hidden (show cmpE E (k : Int) (yn : Int) = ob from by rw [cmpE, getE_set HLE.out hs1, getE_set HLE.out hs0]; exact hob)
          have HY := hidden hy
          have j0 : (0 : Int) < ((r + 1 : Nat) : Int) := by omega
          have j1 : (0 : Int) ≤ ((r + 1 : Nat) : Int) := by omega
          have jk : ((r + 1 : Nat) : Int) < ((k + 1 : Nat) : Int) := by omega
          have fwj : IntKind.i64.wrap (((r + 1 : Nat) : Int) - 1) = (r : Int) := by rw [IntKind.wrap_i64]; omega
          have r0 : (0 : Int) ≤ (r : Int) := by omega
          have rk : (r : Int) < ((k + 1 : Nat) : Int) := by omega
          have HYL := hidden (show yn < L.length from by have := HLT.out; omega)
          have y1 : (yn : Int) < (L.length : Int) := by have := HLT.out; omega
          have y0 : (0 : Int) ≤ (yn : Int) := by omega
          have HRJ := hidden (show r + 1 ≤ k from hj)
          clear hs1 hs0 hf1 hf0 hv1 hv0 hob hy hpj hpq hym hib hjR hj hj0
          go_wp2_with fail
          go_quiet ((go_at_call 12; refine Calls.quiet_of (S1.out _)))
          have hw5 := hidden (hwj.out.below (below_drewN (Below.refl _ _) nq) hwj.out.lt)
          have HB5 := hidden (below_drewN hbx.out nq)
          generalize wr.drewN nq = w5 at *
          clear d0 d1 ck1 ck0 c0 S1 hwj hbx
          have hpl := PutG.putAt_len (r + 1) (k : Int) R (by have := HRL.out; have := HRJ.out; omega)
          have hpll : ((PutG.putAt (r + 1) (k : Int) R).flatMap encI ++ rest).length = cap * 1 := by
            rw [← HLR.out, List.length_append, List.length_append, fm_len encI_k, fm_len encI_k, hpl, List.length_append, List.length_singleton]
          by_cases hge : 0 ≤ ob
          · have HO5 := hidden (own_ints hg hw5.out (by have := HRL.out; omega) HCAP.out (by rw [hpl, HRL.out]) hpll)
            have HORD := hidden (PutG.putAt_ord (r + 1) (k : Int) R (swo_ltE E) hord.out (by have := HRL.out; have := HRJ.out; omega) hup.out (fun z _ hz => by
              rw [Nat.add_sub_cancel, HY.out] at hz
              cases hz
              rw [ltE, HOB.out]
              exact decide_eq_false (by omega)))
            have HPERM := hidden (show (PutG.putAt (r + 1) (k : Int) R).Perm (upL (k + 1)) from by
              rw [upL_snoc]
              exact (PutG.putAt_perm _ _ _).trans (hperm.out.append_right _))
            clear hpl hpll hord hperm hup hw5
            go_wp2_with fail
            go_roundw
            case rel => exact ⟨k + 1, _, by go_num, HLT.out, HO5.out, HPERM, HORD, HB5⟩
            case measure => have := HLT.out; simp [intOf]; omega
          · have hpj : (PutG.putAt (r + 1) (k : Int) R)[r + 1]? = some (k : Int) := PutG.putAt_at (r + 1) _ R (by have := HRL.out; have := HRJ.out; omega)
            have hpq : (PutG.putAt (r + 1) (k : Int) R)[r]? = some (yn : Int) := by rw [PutG.putAt_low (r + 1) r _ R (by omega), if_pos (by have := HRL.out; have := HRJ.out; omega)]; exact HY.out
            have d1 : w5.cell? ⟨g, r + 1, none⟩ = some (.int .i64 (k : Int)) := by have := whole_at encI_k hw5.out hpj 0 (by omega); simpa [encI] using this
            have d0 : w5.cell? ⟨g, r, none⟩ = some (.int .i64 (yn : Int)) := by have := whole_at encI_k hw5.out hpq 0 (by omega); simpa [encI] using this
            have f1 := hw5.out.free (r + 1)
            have hw6 := put_int hw5.out (i := r + 1) (by have := HRL.out; have := HRJ.out; omega) (yn : Int)
            have f0 := hw6.free r
            have hpq6 : ((PutG.putAt (r + 1) (k : Int) R).set (r + 1) (yn : Int))[r]? = some (yn : Int) := by rw [List.getElem?_set_ne (by omega)]; exact hpq
            have d6 : (w5.setCell ⟨g, r + 1, none⟩ (.int .i64 (yn : Int))).cell? ⟨g, r, none⟩ = some (.int .i64 (yn : Int)) := by have := whole_at encI_k hw6 hpq6 0 (by omega); simpa [encI] using this
            have hw7 := hidden (put_int hw6 (i := r) (by rw [List.length_set]; have := HRL.out; have := HRJ.out; omega) (k : Int))
            rw [PutG.putAt_swap r (k : Int) (yn : Int) R (by have := HRL.out; have := HRJ.out; omega) HY.out] at hw7
            have HB7 := hidden ((HB5.out.setCell (p := ⟨g, r + 1, none⟩) hg (.int .i64 (yn : Int))).setCell (p := ⟨g, r, none⟩) hg (.int .i64 (k : Int)))
            have HUP := hidden (show ∀ (p : Nat) (z : Int), r ≤ p → R[p]? = some z → ltE E (k : Int) z = true from fun p z hp hz => by
              by_cases e : p = r
              · subst e
                rw [HY.out] at hz
                cases hz
                rw [ltE, HOB.out]
                exact decide_eq_true (by omega)
              · exact hup.out p z (by omega) hz)
            clear hpl hpll hup hw5 hw6 hpj hpq hpq6
            go_wp2_with fail
            go_roundw
            case rel => exact ⟨r, by have := HRJ.out; omega, rfl, hw7, HUP, HB7⟩
            case measure => simp [intOf]
        · obtain rfl : j = 0 := by omega
          have hpl := PutG.putAt_len 0 (k : Int) R (Nat.zero_le _)
          have hpll : ((PutG.putAt 0 (k : Int) R).flatMap encI ++ rest).length = cap * 1 := by
            rw [← HLR.out, List.length_append, List.length_append, fm_len encI_k, fm_len encI_k, hpl, List.length_append, List.length_singleton]
          have HO5 := hidden (own_ints hg hwj.out (by have := HRL.out; omega) HCAP.out (by rw [hpl, HRL.out]) hpll)
          have HORD := hidden (PutG.putAt_ord 0 (k : Int) R (swo_ltE E) hord.out (Nat.zero_le _) hup.out (fun z hz _ => by omega))
          have HPERM := hidden (show (PutG.putAt 0 (k : Int) R).Perm (upL (k + 1)) from by
            rw [upL_snoc]
            exact (PutG.putAt_perm _ _ _).trans (hperm.out.append_right _))
          clear hpl hpll hord hperm hup hwj hib
          go_wp2_with fail
          go_roundw
          case rel => exact ⟨k + 1, _, by go_num, HLT.out, HO5.out, HPERM, HORD, hbx⟩
          case measure => have := HLT.out; simp [intOf]; omega
    · obtain rfl : L.length = k := by omega
      clear hi'
      go_wp2_with fail
      go_ret
      exact ⟨_, R, rfl, hown, ⟨by rw [HEL.out]; exact hperm.out, hord.out⟩, hb.out⟩
end Go.Proofs.YtalnndenncnbdaaGreat
