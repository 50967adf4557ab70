/- labels.Make, walked: the sorted set of labels, or its error. Condition: the row is within the reach. -/
import Derived.Test.YtalnndenncnbdaaLabFit
import Derived.Test.YtalnndenncnbdaaLabMem
import Derived.Test.YtalnndenncnbdaaIdxLbl
import Derived.Test.YtalnndenncnbdaaSrfLbl
import Derived.Test.YtalnndenncnbdaaClnLbl
namespace Go.Proofs.Ytalnndenncnbdaa
set_option maxRecDepth 100000
open Go.RowKit Go.Shelf Go.Sort

theorem mkp_any (x : Lbl) (g : Nat) (nm : ByteArray) (w : World) (hg : w.cell? ⟨g, 0, none⟩ = some (.string nm)) :
    Calls Try.prog 24 #[.agg #[.string x.name, .string x.value], .pointer (some ⟨g, 0, none⟩)] w fun e w' => e = .returned (.bool (decide (x.name = nm))) ∧ Below w.heap.size w w' := by
  have hg1 := gr_alloc_cell (.cells #[.string x.name, .string x.value] 30) hg
  have hb : Below w.heap.size w (w.alloc (.cells #[.string x.name, .string x.value] 30)) := (Below.refl _ _).alloc (Nat.le_refl _) _
  have hd : (x.name.toList == nm.toList) = decide (x.name = nm) := str_eq x.name nm
  have HB := hidden hb
  clear hb
  go_enter Try.func24, Try.ntmps24
  go_wp2_with fail
  go_ret
  exact ⟨rfl, HB.out⟩

theorem e51 : ∀ args w, (callFunc 27 args).run Try.prog w = .ok (.enter 27 args) w := enters_of Try.func27 (by kernel_rfl) rfl
theorem swoN : SWO fun x y : Lbl => decide (cmpB x.name y.name < 0) where
  irrefl x := tri_B.swo.irrefl x.name
  trans x y z := tri_B.swo.trans x.name y.name z.name
  ntrans x y z := tri_B.swo.ntrans x.name y.name z.name
theorem e48 : ∀ args w, (callFunc 24 args).run Try.prog w = .ok (.enter 24 args) w := enters_of Try.func24 (by kernel_rfl) rfl
set_option maxHeartbeats 3200000 in
theorem lmake_any (A : Option Addr) (n c : Nat) (l : List Lbl) (w : World) (h : LbF w A n l) (hnc : n ≤ c) :
    Calls Try.prog 11 #[.slice A n c] w fun e w' => ∃ v, e = .returned (.tuple #[v, .int .i64 (makeErr l)]) ∧ w'.ownsRow w.heap.size 30 2 v (makeL l).length ((makeL l).flatMap Lbl.cells) ∧ Below w.heap.size w w' := by
  have hfit := h.fit
  by_cases h0 : n = 0
  · subst h0
    obtain rfl : l = [] := List.eq_nil_of_length_eq_zero h.len
    go_enter Try.func11, Try.ntmps11
    go_wp2_with fail
    go_ret2
    exact ⟨_, rfl, World.ownsRow_nil _ _ _ _, Below.refl _ _⟩
  · have n0 : ((n : Int) == 0) = false := by simp; omega
    by_cases h8 : 8 < n
    · have n8 : (8 : Int) < (n : Int) := by omega
      have HE : Hid (makeErr l = 44) := by rw [Hid, makeErr, if_neg (by rw [h.len]; omega), if_pos (by rw [h.len]; omega)]
      have HL : Hid (makeL l = []) := by rw [Hid, makeL, if_neg (by rw [HE.out]; decide)]
      clear h
      go_enter Try.func11, Try.ntmps11
      go_wp2_with fail
      go_ret2
      rw [HE.out, HL.out]
      exact ⟨_, rfl, World.ownsRow_nil _ _ _ _, Below.refl _ _⟩
    · have n8 : ¬ (8 : Int) < (n : Int) := by omega
      have H := hidden h
      have HM : Hid (makeErr l = errUpto l n) := by rw [Hid, makeErr, if_neg (by rw [h.len]; omega), if_neg (by rw [h.len]; omega), h.len]
      clear h
      go_enter Try.func11, Try.ntmps11
      go_wp2_with fail
      go_loopw [17] (fun vi wr => ∃ k : Nat, k ≤ n ∧ vi = .int .i64 k ∧ Hid (errUpto l k = 0) ∧ Below w.heap.size w wr) (fun vi _ => n - (intOf vi).toNat)
      case atStart => exact ⟨0, Nat.zero_le _, rfl, rfl, Below.refl _ _⟩
      case round =>
        obtain ⟨k, hk, rfl, he, hb⟩ := hrel
        have k0 : (0 : Int) ≤ (k : Int) := by omega
        by_cases hlt : k < n
        · have k1 : (k : Int) < (n : Int) := by omega
          obtain ⟨g, o, x, rfl, hg, hx, d0, d1, hxm⟩ := lb_cells (H.out.on hb) hlt
          obtain ⟨hz1, hz2⟩ := H.out.sz x hxm
          have HX := hidden hx
          have HB := hidden hb
          have hbs := hb.size
          have HEA := hidden (errAt_of hx)
          have HBa := hidden (hb.alloc hbs (.cells #[.string x.name, .string x.value] 30))
          have HST := hidden (fun he' : errAt l k ≠ 0 => errUpto_stop he.out he' n (by omega))
          have S1 := hidden (fitName_any x.name (wr.alloc (.cells #[.string x.name, .string x.value] 30)) (by omega))
          have S2 := hidden (fitValue_any x.value (wr.alloc (.cells #[.string x.name, .string x.value] 30)) (by omega))
          clear hx hxm hb
          cases hf1 : fitN x.name with
          | false =>
            rw [hf1] at S1 HEA
            have HE : Hid (makeErr l = 40) := by
              have h40 : errAt l k = 40 := by rw [HEA.out]; rfl
              rw [Hid, HM.out, HST.out (by rw [h40]; decide), h40]
            have HL : Hid (makeL l = []) := by rw [Hid, makeL, if_neg (by rw [HE.out]; decide)]
            go_wp2_with fail
            refine S1.out.mono ?_
            rintro e w2 ⟨rfl, rfl⟩
            go_wp2_with fail
            go_ret2
            rw [HE.out, HL.out]
            exact ⟨_, rfl, World.ownsRow_nil _ _ _ _, HBa.out⟩
          | true =>
            rw [hf1] at S1 HEA
            cases hf2 : fitV x.value with
            | false =>
              rw [hf2] at S2 HEA
              have HE : Hid (makeErr l = 41) := by
                have h40 : errAt l k = 41 := by rw [HEA.out]; rfl
                rw [Hid, HM.out, HST.out (by rw [h40]; decide), h40]
              have HL : Hid (makeL l = []) := by rw [Hid, makeL, if_neg (by rw [HE.out]; decide)]
              go_wp2_with fail
              refine S1.out.mono ?_
              rintro e w2 ⟨rfl, rfl⟩
              go_wp2_with fail
              refine S2.out.mono ?_
              rintro e w2 ⟨rfl, rfl⟩
              go_wp2_with fail
              go_ret2
              rw [HE.out, HL.out]
              exact ⟨_, rfl, World.ownsRow_nil _ _ _ _, HBa.out⟩
            | true =>
              rw [hf2] at S2 HEA
              go_wp2_with fail
              refine S1.out.mono ?_
              rintro e w2 ⟨rfl, rfl⟩
              go_wp2_with fail
              refine S2.out.mono ?_
              rintro e w2 ⟨rfl, rfl⟩
              have kc : (k : Int) ≤ (c : Int) := by omega
              go_wp2_with fail
              have hrT := (H.out.on HBa.out).first hk
              have S3 := hidden (IdxLbl.contains_any (some ⟨g, o, none⟩) k c (l.take k) 24 #[.pointer (some ⟨wr.heap.size, 0, none⟩)] (fun y => decide (y.name = x.name)) _ e48 (fun y hy W hW => mkp_any y wr.heap.size x.name W ((hW.cell (p := ⟨wr.heap.size, 0, none⟩) (by simp)).trans ((Whole1.new wr _ _).cell 0))) hrT (by rw [List.length_take, H.out.len]; omega) (by omega))
              have hany : ((l.take k).any fun y => decide (y.name = x.name)) = decide (∃ y ∈ l.take k, y.name = x.name) := by
                rw [Bool.eq_iff_iff, List.any_eq_true, decide_eq_true_eq]; simp
              rw [hany] at S3
              by_cases htw : ∃ y ∈ l.take k, y.name = x.name
              · have HE : Hid (makeErr l = 42) := by
                  have h40 : errAt l k = 42 := by rw [HEA.out, if_neg (by decide), if_neg (by decide), if_pos htw]
                  rw [Hid, HM.out, HST.out (by rw [h40]; decide), h40]
                have HL : Hid (makeL l = []) := by rw [Hid, makeL, if_neg (by rw [HE.out]; decide)]
                rw [decide_eq_true htw] at S3
                clear hrT hany htw
                refine S3.out.mono ?_
                rintro e w3 ⟨rfl, b3⟩
                have HB3 := hidden (HBa.out.trans (b3.mono HBa.out.size))
                clear b3 S3
                go_wp2_with fail
                go_ret2
                rw [HE.out, HL.out]
                exact ⟨_, rfl, World.ownsRow_nil _ _ _ _, HB3.out⟩
              · have HN : Hid (errUpto l (k + 1) = 0) := errUpto_next he.out (by rw [HEA.out, if_neg (by decide), if_neg (by decide), if_neg htw])
                rw [decide_eq_false htw] at S3
                clear hrT hany htw
                refine S3.out.mono ?_
                rintro e w3 ⟨rfl, b3⟩
                have HB3 := hidden (HBa.out.trans (b3.mono HBa.out.size))
                clear b3 S3
                go_wp2_with fail
                go_roundw
                case rel => exact ⟨k + 1, by omega, by go_num, HN, HB3.out⟩
                case measure => simp [intOf]; omega
        · obtain rfl : n = k := by omega
          have k1 : ¬ (n : Int) < (n : Int) := by omega
          have HE : Hid (makeErr l = 0) := by rw [Hid, HM.out, he.out]
          have HL : Hid (makeL l = sortN l) := by rw [Hid, makeL, if_pos HE.out]
          have hap := make_apart (l := l) (by rw [H.out.len]; exact he.out)
          have HAP := hidden hap
          have HB := hidden hb
          have S1 := hidden (ClnLbl.cloneO_any A n c l wr (H.out.on hb).row H.out.len hfit)
          clear hb hap he
          go_wp2_with fail
          refine S1.out.mono ?_
          rintro e w2 ⟨⟨sA, sn, sc, sl⟩, rfl, hsl, hsn, _, _, hb2, hown⟩
          simp only at hsl hsn
          subst hsl hsn
          have HB2 := hidden (HB.out.trans (hb2.mono HB.out.size))
          have S2 := hidden (SrfLbl.sortAll_any _ sn wr.heap.size sl 27 #[] (fun x y => cmpB x.name y.name) w2 e51 swoN (fun g _ x _ y _ W _ => (byName_any x y W).mono fun _ _ k => k) (hown (by omega)) H.out.len (by omega))
          have HSN := hidden hown
          clear hb2 hown S1
          go_wp2_with fail
          refine S2.out.mono ?_
          rintro e w3 ⟨rfl, S, ⟨hp, hs⟩, hown3, hg3⟩
          have hap2 : S.Pairwise fun x y => x.name ≠ y.name := hp.symm.pairwise HAP.out fun h e => h e.symm
          have hup : upN S := (hs.and hap2).imp fun {x y} ⟨a, b⟩ => by
            simp only [decide_eq_false_iff_not] at a
            have t := tri_B.turn x.name y.name
            have z := tri_B.zero x.name y.name
            unfold ltN
            rcases tri_B.range x.name y.name with h | h | h
            · omega
            · exact absurd (z.1 h) b
            · omega
          have hS := hidden (sortN_uniq HAP.out hup hp)
          have hSl := hidden hp.length_eq
          have HB3 := hidden (HB2.out.grown hg3 HB2.out.size (fun j hj => by
            have h1 := (HSN.out (by omega)).lt j hj
            have := HB.out.size
            omega))
          have HO3 := hidden (own_more hown3 HB.out.size)
          clear hp hs hown3 hg3 hap2 hup S2
          go_wp2_with fail
          go_ret2
          have e1 := H.out.len
          rw [HE.out, HL.out, ← hS.out, hSl.out, e1]
          exact ⟨_, rfl, HO3.out, HB3.out⟩
end Go.Proofs.Ytalnndenncnbdaa
