/- almanacref12.Has, almanacref21.taken: what they return. Condition: the lists are not too long. almanacref21.Strip: what it returns. Condition: the lists are within the reach. -/
import Derived.Test.YtohocdbneopooaaStrip
import Derived.Test.YtohocdbneopooaaRClip
namespace Go.Proofs.Ytohocdbneopooaa
set_option maxRecDepth 100000
open Go.RowKit Go.Shelf

set_option maxHeartbeats 1600000 in
theorem rhas_any (A : Option Addr) (n c : Nat) (l : List Spn) (t : Int) (w : World) (b : Nat) (hr : Row w b 2 A n (spnCells l)) (hl : l.length = n) (hn : n ≤ 4611686018427387904) :
    Calls Try.prog 122 #[.slice A n c, .int .i64 t] w fun e w' => e = .returned (.bool (hasP l t)) ∧ w = w' := by
  have HR := hidden hr
  have HL := hidden hl
  clear hr hl
  go_enter Try.func122, Try.ntmps122
  go_wp2_with fail
  go_loop [5] (fun vi => ∃ k : Nat, vi = .int .i64 k ∧ k ≤ n ∧ Hid (∀ y ∈ l.take k, inSpn y t = false)) (fun vi => n - (intOf vi).toNat)
  case atStart => exact ⟨0, rfl, Nat.zero_le _, hidden (by simp)⟩
  case round =>
    obtain ⟨k, rfl, hk, hno⟩ := hrel
    by_cases hlt : k < n
    · obtain ⟨g, o, x, hA, _, hx, hc⟩ := row_at (enc := Spn.cells) (fun _ => rfl) HR.out HL.out k hlt
      subst hA
      have d0 : w.cell? ⟨g, o + k * 2, none⟩ = some (.int .i64 x.frm) := hc 0 (by omega)
      have d1 : w.cell? ⟨g, o + k * 2 + 1, none⟩ = some (.int .i64 x.til) := hc 1 (by omega)
      have b1 : (k : Int) < (n : Int) := by omega
      have b2 : (0 : Int) ≤ (k : Int) := by omega
      have HX := hidden hx
      have hstep : inSpn x t = false → Hid (∀ y ∈ l.take (k + 1), inSpn y t = false) := fun h => hidden (by
        intro y hy
        rw [take_snoc? HX.out] at hy
        rcases List.mem_append.1 hy with hy | hy
        · exact hno.out y hy
        · rw [List.mem_singleton.1 hy]; exact h)
      have HST := hidden hstep
      clear hx hc hstep
      by_cases h1 : x.frm ≤ t
      · by_cases h2 : t ≤ x.til
        · have hf := hidden (List.any_eq_true.2 ⟨x, List.mem_of_getElem? HX.out, by simp [inSpn, h1, h2]⟩ : hasP l t = true)
          go_wp2_with fail
          go_ret
          exact ⟨ret_bool hf.out.symm, rfl⟩
        · have hf := HST.out (by simp [inSpn, h2])
          go_wp2_with fail
          go_round
          case rel => exact ⟨k + 1, by go_num, hlt, hf⟩
          case measure => simp [intOf]; omega
      · have hf := HST.out (by simp [inSpn, h1])
        go_wp2_with fail
        go_round
        case rel => exact ⟨k + 1, by go_num, hlt, hf⟩
        case measure => simp [intOf]; omega
    · have hf : Hid (hasP l t = false) := hidden (by
        have := hno.out
        rw [List.take_of_length_le (by rw [HL.out]; omega)] at this
        exact List.any_eq_false.2 fun x hx => by rw [this x hx]; simp)
      go_wp2_with fail
      go_ret
      exact ⟨ret_bool hf.out.symm, rfl⟩

set_option maxHeartbeats 3200000 in
theorem rtaken_any (G : Option Addr) (gn gc : Nat) (gones : List Gon) (lab : Sl Lbl) (res t : Int) (w : World) (hG : GonsAt w G gn gones) (hlab : lab.At w w.heap.size 2 Lbl.cells) (h0 : 0 ≤ res) (h3 : res < 3) :
    Calls Try.prog 81 #[.slice G gn gc, .slice lab.A lab.n lab.c, .int .i64 res, .int .i64 t] w fun e w' => e = .returned (.bool (tk gones res lab.l t)) ∧ ∃ q, w' = w.drewN q := by
  have HG := hidden hG
  have HLAB := hidden hlab
  have hfew := hG.few
  clear hG hlab
  rcases (by omega : res = 0 ∨ res = 1 ∨ res = 2) with rfl | rfl | rfl
  all_goals
    clear h0 h3
    go_enter Try.func81, Try.ntmps81
    go_wp2_with fail
  · go_loopw [9] (fun vi wr => ∃ k : Nat, vi = .int .i64 k ∧ k ≤ gn ∧ Hid (∀ y ∈ gones.take k, tkOne 0 lab.l t y = false) ∧ ∃ q, wr = w.drewN q) (fun vi _ => gn - (intOf vi).toNat)
    case atStart => exact ⟨0, rfl, Nat.zero_le _, hidden (by simp), 0, rfl⟩
    case round =>
      obtain ⟨k, rfl, hk, hno, q, rfl⟩ := hrel
      by_cases hlt : k < gn
      · obtain ⟨g, o, x, hA, _, hx, hc⟩ := row_at (enc := Gon.cells) (fun _ => rfl) HG.out.row HG.out.len k hlt
        subst hA
        have d0 : w.cell? ⟨g, o + k * 4, none⟩ = some (.slice x.lab.A x.lab.n x.lab.c) := hc 0 (by omega)
        have d1 : w.cell? ⟨g, o + k * 4 + 1, none⟩ = some (.slice x.s0.A x.s0.n x.s0.c) := hc 1 (by omega)
        have b1 : (k : Int) < (gn : Int) := by omega
        have b2 : (0 : Int) ≤ (k : Int) := by omega
        have hxm := List.mem_of_getElem? hx
        have hxa := HG.out.at_ x hxm
        have hxs := HG.out.small x hxm
        have S1 := hidden (fun q => rcompare_any x.lab.A lab.A x.lab.n lab.n x.lab.c lab.c x.lab.l lab.l (w.drewN q) w.heap.size w.heap.size (hxa.lab.2.2.drewN q) (HLAB.out.2.2.drewN q) hxa.lab.2.1 HLAB.out.2.1 hxs.1)
        have S2 := hidden (fun q => rhas_any x.s0.A x.s0.n x.s0.c x.s0.l t (w.drewN q) w.heap.size (hxa.s0.2.2.drewN q) hxa.s0.2.1 hxs.2.1)
        have HX := hidden hx
        have htk : tkOne 0 lab.l t x = (decide (cmpLs x.lab.l lab.l = 0) && hasP x.s0.l t) := rfl
        have HTK := hidden htk
        clear hx hc hxm hxa hxs htk
        go_wp2_with fail
        refine (S1.out _).mono ?_
        rintro e w1 ⟨rfl, q1, rfl⟩
        go_wp2_with fail
        refine (S2.out _).mono ?_
        rintro e w2 ⟨rfl, rfl⟩
        have hstep : tkOne 0 lab.l t x = false → Hid (∀ y ∈ gones.take (k + 1), tkOne 0 lab.l t y = false) := fun h => hidden (by
          intro y hy
          rw [take_snoc? HX.out] at hy
          rcases List.mem_append.1 hy with hy | hy
          · exact hno.out y hy
          · rw [List.mem_singleton.1 hy]; exact h)
        have HST := hidden hstep
        clear hstep S1 S2 d0 d1
        obtain ⟨bh, hbh⟩ : ∃ bh, hasP x.s0.l t = bh := ⟨_, rfl⟩
        rw [hbh] at HTK ⊢
        by_cases hc : cmpLs x.lab.l lab.l = 0
        · rw [hc] at HTK ⊢
          clear hbh hc
          cases bh with
          | true =>
            have hf := hidden (List.any_eq_true.2 ⟨x, List.mem_of_getElem? HX.out, by rw [HTK.out]; rfl⟩ : tk gones 0 lab.l t = true)
            go_wp2_with fail
            go_ret
            exact ⟨ret_bool hf.out.symm, _, rfl⟩
          | false =>
            have hf := HST.out (by rw [HTK.out]; rfl)
            go_wp2_with fail
            go_roundw
            case rel => exact ⟨k + 1, by go_num, hlt, hf, _, rfl⟩
            case measure => simp [intOf]; omega
        · have hf := HST.out (by rw [HTK.out, decide_eq_false hc]; rfl)
          have hcb : (cmpLs x.lab.l lab.l == 0) = false := by simpa using hc
          clear hbh hc HTK
          go_wp2_with fail
          go_roundw
          case rel => exact ⟨k + 1, by go_num, hlt, hf, _, rfl⟩
          case measure => simp [intOf]; omega
      · have hf : Hid (tk gones 0 lab.l t = false) := hidden (by
          have := hno.out
          rw [List.take_of_length_le (by rw [HG.out.len]; omega)] at this
          exact List.any_eq_false.2 fun x hx => by rw [this x hx]; simp)
        go_wp2_with fail
        go_ret
        exact ⟨ret_bool hf.out.symm, _, rfl⟩
  · go_loopw [9] (fun vi wr => ∃ k : Nat, vi = .int .i64 k ∧ k ≤ gn ∧ Hid (∀ y ∈ gones.take k, tkOne 1 lab.l t y = false) ∧ ∃ q, wr = w.drewN q) (fun vi _ => gn - (intOf vi).toNat)
    case atStart => exact ⟨0, rfl, Nat.zero_le _, hidden (by simp), 0, rfl⟩
    case round =>
      obtain ⟨k, rfl, hk, hno, q, rfl⟩ := hrel
      by_cases hlt : k < gn
      · obtain ⟨g, o, x, hA, _, hx, hc⟩ := row_at (enc := Gon.cells) (fun _ => rfl) HG.out.row HG.out.len k hlt
        subst hA
        have d0 : w.cell? ⟨g, o + k * 4, none⟩ = some (.slice x.lab.A x.lab.n x.lab.c) := hc 0 (by omega)
        have d1 : w.cell? ⟨g, o + k * 4 + 2, none⟩ = some (.slice x.s1.A x.s1.n x.s1.c) := hc 2 (by omega)
        have b1 : (k : Int) < (gn : Int) := by omega
        have b2 : (0 : Int) ≤ (k : Int) := by omega
        have hxm := List.mem_of_getElem? hx
        have hxa := HG.out.at_ x hxm
        have hxs := HG.out.small x hxm
        have S1 := hidden (fun q => rcompare_any x.lab.A lab.A x.lab.n lab.n x.lab.c lab.c x.lab.l lab.l (w.drewN q) w.heap.size w.heap.size (hxa.lab.2.2.drewN q) (HLAB.out.2.2.drewN q) hxa.lab.2.1 HLAB.out.2.1 hxs.1)
        have S2 := hidden (fun q => rhas_any x.s1.A x.s1.n x.s1.c x.s1.l t (w.drewN q) w.heap.size (hxa.s1.2.2.drewN q) hxa.s1.2.1 hxs.2.2.1)
        have HX := hidden hx
        have htk : tkOne 1 lab.l t x = (decide (cmpLs x.lab.l lab.l = 0) && hasP x.s1.l t) := rfl
        have HTK := hidden htk
        clear hx hc hxm hxa hxs htk
        go_wp2_with fail
        refine (S1.out _).mono ?_
        rintro e w1 ⟨rfl, q1, rfl⟩
        go_wp2_with fail
        refine (S2.out _).mono ?_
        rintro e w2 ⟨rfl, rfl⟩
        have hstep : tkOne 1 lab.l t x = false → Hid (∀ y ∈ gones.take (k + 1), tkOne 1 lab.l t y = false) := fun h => hidden (by
          intro y hy
          rw [take_snoc? HX.out] at hy
          rcases List.mem_append.1 hy with hy | hy
          · exact hno.out y hy
          · rw [List.mem_singleton.1 hy]; exact h)
        have HST := hidden hstep
        clear hstep S1 S2 d0 d1
        obtain ⟨bh, hbh⟩ : ∃ bh, hasP x.s1.l t = bh := ⟨_, rfl⟩
        rw [hbh] at HTK ⊢
        by_cases hc : cmpLs x.lab.l lab.l = 0
        · rw [hc] at HTK ⊢
          clear hbh hc
          cases bh with
          | true =>
            have hf := hidden (List.any_eq_true.2 ⟨x, List.mem_of_getElem? HX.out, by rw [HTK.out]; rfl⟩ : tk gones 1 lab.l t = true)
            go_wp2_with fail
            go_ret
            exact ⟨ret_bool hf.out.symm, _, rfl⟩
          | false =>
            have hf := HST.out (by rw [HTK.out]; rfl)
            go_wp2_with fail
            go_roundw
            case rel => exact ⟨k + 1, by go_num, hlt, hf, _, rfl⟩
            case measure => simp [intOf]; omega
        · have hf := HST.out (by rw [HTK.out, decide_eq_false hc]; rfl)
          have hcb : (cmpLs x.lab.l lab.l == 0) = false := by simpa using hc
          clear hbh hc HTK
          go_wp2_with fail
          go_roundw
          case rel => exact ⟨k + 1, by go_num, hlt, hf, _, rfl⟩
          case measure => simp [intOf]; omega
      · have hf : Hid (tk gones 1 lab.l t = false) := hidden (by
          have := hno.out
          rw [List.take_of_length_le (by rw [HG.out.len]; omega)] at this
          exact List.any_eq_false.2 fun x hx => by rw [this x hx]; simp)
        go_wp2_with fail
        go_ret
        exact ⟨ret_bool hf.out.symm, _, rfl⟩
  · go_loopw [9] (fun vi wr => ∃ k : Nat, vi = .int .i64 k ∧ k ≤ gn ∧ Hid (∀ y ∈ gones.take k, tkOne 2 lab.l t y = false) ∧ ∃ q, wr = w.drewN q) (fun vi _ => gn - (intOf vi).toNat)
    case atStart => exact ⟨0, rfl, Nat.zero_le _, hidden (by simp), 0, rfl⟩
    case round =>
      obtain ⟨k, rfl, hk, hno, q, rfl⟩ := hrel
      by_cases hlt : k < gn
      · obtain ⟨g, o, x, hA, _, hx, hc⟩ := row_at (enc := Gon.cells) (fun _ => rfl) HG.out.row HG.out.len k hlt
        subst hA
        have d0 : w.cell? ⟨g, o + k * 4, none⟩ = some (.slice x.lab.A x.lab.n x.lab.c) := hc 0 (by omega)
        have d1 : w.cell? ⟨g, o + k * 4 + 3, none⟩ = some (.slice x.s2.A x.s2.n x.s2.c) := hc 3 (by omega)
        have b1 : (k : Int) < (gn : Int) := by omega
        have b2 : (0 : Int) ≤ (k : Int) := by omega
        have hxm := List.mem_of_getElem? hx
        have hxa := HG.out.at_ x hxm
        have hxs := HG.out.small x hxm
        have S1 := hidden (fun q => rcompare_any x.lab.A lab.A x.lab.n lab.n x.lab.c lab.c x.lab.l lab.l (w.drewN q) w.heap.size w.heap.size (hxa.lab.2.2.drewN q) (HLAB.out.2.2.drewN q) hxa.lab.2.1 HLAB.out.2.1 hxs.1)
        have S2 := hidden (fun q => rhas_any x.s2.A x.s2.n x.s2.c x.s2.l t (w.drewN q) w.heap.size (hxa.s2.2.2.drewN q) hxa.s2.2.1 hxs.2.2.2)
        have HX := hidden hx
        have htk : tkOne 2 lab.l t x = (decide (cmpLs x.lab.l lab.l = 0) && hasP x.s2.l t) := rfl
        have HTK := hidden htk
        clear hx hc hxm hxa hxs htk
        go_wp2_with fail
        refine (S1.out _).mono ?_
        rintro e w1 ⟨rfl, q1, rfl⟩
        go_wp2_with fail
        refine (S2.out _).mono ?_
        rintro e w2 ⟨rfl, rfl⟩
        have hstep : tkOne 2 lab.l t x = false → Hid (∀ y ∈ gones.take (k + 1), tkOne 2 lab.l t y = false) := fun h => hidden (by
          intro y hy
          rw [take_snoc? HX.out] at hy
          rcases List.mem_append.1 hy with hy | hy
          · exact hno.out y hy
          · rw [List.mem_singleton.1 hy]; exact h)
        have HST := hidden hstep
        clear hstep S1 S2 d0 d1
        obtain ⟨bh, hbh⟩ : ∃ bh, hasP x.s2.l t = bh := ⟨_, rfl⟩
        rw [hbh] at HTK ⊢
        by_cases hc : cmpLs x.lab.l lab.l = 0
        · rw [hc] at HTK ⊢
          clear hbh hc
          cases bh with
          | true =>
            have hf := hidden (List.any_eq_true.2 ⟨x, List.mem_of_getElem? HX.out, by rw [HTK.out]; rfl⟩ : tk gones 2 lab.l t = true)
            go_wp2_with fail
            go_ret
            exact ⟨ret_bool hf.out.symm, _, rfl⟩
          | false =>
            have hf := HST.out (by rw [HTK.out]; rfl)
            go_wp2_with fail
            go_roundw
            case rel => exact ⟨k + 1, by go_num, hlt, hf, _, rfl⟩
            case measure => simp [intOf]; omega
        · have hf := HST.out (by rw [HTK.out, decide_eq_false hc]; rfl)
          have hcb : (cmpLs x.lab.l lab.l == 0) = false := by simpa using hc
          clear hbh hc HTK
          go_wp2_with fail
          go_roundw
          case rel => exact ⟨k + 1, by go_num, hlt, hf, _, rfl⟩
          case measure => simp [intOf]; omega
      · have hf : Hid (tk gones 2 lab.l t = false) := hidden (by
          have := hno.out
          rw [List.take_of_length_le (by rw [HG.out.len]; omega)] at this
          exact List.any_eq_false.2 fun x hx => by rw [this x hx]; simp)
        go_wp2_with fail
        go_ret
        exact ⟨ret_bool hf.out.symm, _, rfl⟩
end Go.Proofs.Ytohocdbneopooaa

namespace Go.Proofs.Ytohocdbneopooaa.MR
set_option maxRecDepth 100000
open Go.RowKit Go.Shelf

set_option maxHeartbeats 12800000 in
theorem rstrip0_any (res : Int) (A : Option Addr) (n c : Nat) (ss : List Ser) (G : Option Addr) (gn gc : Nat) (gones : List Gon) (w : World) (hr : Row w w.heap.size 3 A n (serCells ss)) (hl : ss.length = n) (hat : ∀ x ∈ ss, x.At w w.heap.size) (hs : ∀ x ∈ ss, x.Fit) (hn : n * 72 ≤ 140737488351232) (hG : GonsAt w G gn gones) (h00 : res = 0) :
    Calls Try.prog 32 #[.int .i64 res, .slice A n c, .slice G gn gc] w (RKeptRes w (keptAll (stripS gones res) (stripW gones res) ss)) := by
  obtain ⟨i0, hi, hz0, hz1, hz2⟩ := info_parts info_rser
  obtain ⟨iS, hiS, hzS0, hzS1, hzS2⟩ := info_parts info_rsmp
  obtain ⟨iW, hiW, hzW0, hzW1, hzW2⟩ := info_parts info_rwin
  have HR := hidden hr
  have HL := hidden hl
  have HAT := hidden hat
  have HSS := hidden hs
  have HG := hidden hG
  have hn' : n ≤ 1954687338211 := by omega
  clear hr hl hat hs hG
  have h0 : 0 ≤ res := by omega
  have h3 : res < 3 := by omega
  subst h00
  go_enter Try.func32, Try.ntmps32
  go_wp2_with fail
  go_loopw [7, 8] (fun vo vi wr => ∃ (k : Nat) (v : Value) (L : List Ser), vo = v ∧ vi = .int .i64 k ∧ k ≤ n ∧ L.length ≤ k ∧ Hid (RKSt w wr v L (keptAll (stripS gones 0) (stripW gones 0) (ss.take k)))) (fun _ vi _ => n - (intOf vi).toNat)
  case atStart => exact ⟨0, _, [], rfl, rfl, Nat.zero_le _, Nat.le_refl _, hidden (RKSt.nil w)⟩
  case round =>
    obtain ⟨k, v, L, rfl, rfl, hk, hLk, hst⟩ := hrel
    obtain ⟨w1, rfl⟩ : ∃ w1 : World, w1 = wr := ⟨_, rfl⟩
    by_cases hlt : k < n
    · obtain ⟨gs, o, hA, hgs, x, hx, d0, d1, d2⟩ := ser_cells_at HR.out HL.out hst.out.below k hlt
      subst hA
      simp only [Sl.val] at d0 d1 d2
      obtain ⟨sA, hsA⟩ : ∃ sA, x.smp.A = sA := ⟨_, rfl⟩
      obtain ⟨wA, hwA⟩ : ∃ wA, x.win.A = wA := ⟨_, rfl⟩
      rw [hsA] at d1
      rw [hwA] at d2
      have HsA := hidden hsA
      have HwA := hidden hwA
      clear hsA hwA
      have hxm := List.mem_of_getElem? hx
      have HXA := hidden (HAT.out x hxm)
      obtain ⟨hxl, hxs, hxw⟩ := HSS.out x hxm
      simp only [reachBytes] at hxl hxs hxw
      have hxs' : x.smp.n ≤ 8796093021952 := by omega
      have hxw' : x.win.n ≤ 2932031007317 := by omega
      have HTK : Hid (ss.take (k + 1) = ss.take k ++ [x]) := hidden (take_snoc? hx)
      have b1 : (k : Int) < (n : Int) := by omega
      have b2 : (0 : Int) ≤ (k : Int) := by omega
      have hwb := hst.out.below.size
      clear hx hxm
      go_upto_region 8 with (fail)
      have hZ := Whole1.new w1 85 #[.slice x.lab.A x.lab.n x.lab.c, .slice none 0 0, .slice none 0 0]
      have hbZ : Below w1.heap.size w1 (w1.alloc (.cells #[.slice x.lab.A x.lab.n x.lab.c, .slice none 0 0, .slice none 0 0] 85)) := (Below.refl _ _).alloc (Nat.le_refl _) _
      have hzs : (w1.alloc (.cells #[.slice x.lab.A x.lab.n x.lab.c, .slice none 0 0, .slice none 0 0] 85)).heap.size = w1.heap.size + 1 := World.size_alloc _ _
      generalize w1.alloc (.cells #[.slice x.lab.A x.lab.n x.lab.c, .slice none 0 0, .slice none 0 0] 85) = wZ at hZ hbZ hzs ⊢
      obtain ⟨Z, hZe⟩ : ∃ Z, w1.heap.size = Z := ⟨_, rfl⟩
      rw [hZe] at hZ hbZ hzs hwb ⊢
      have HZE := hidden hZe
      have HBZ := hidden hbZ
      have HZS := hidden hzs
      have HZZ := hidden hZ
      have HD : Hid (w1.cell? ⟨gs, o + k * 3, none⟩ = some (.slice x.lab.A x.lab.n x.lab.c) ∧ w1.cell? ⟨gs, o + k * 3 + 1, none⟩ = some (.slice sA x.smp.n x.smp.c) ∧ w1.cell? ⟨gs, o + k * 3 + 2, none⟩ = some (.slice wA x.win.n x.win.c)) := hidden ⟨d0, d1, d2⟩
      have hgZ : gs < Z := by omega
      clear hZ hbZ hzs hZe d0 d1 d2
      go_wp2_with fail
      go_loopw [10] (fun vj wx => ∃ (j n7 c7 : Nat) (A7 : Option Addr) (l7 : List Smp), vj = .int .i64 j ∧ j ≤ x.smp.n ∧ Hid (l7 = (x.smp.l.take j).filter (stripS gones 0 x)) ∧ l7.length = n7 ∧ n7 ≤ j ∧ Hid (Whole1 wx Z 85 #[.slice x.lab.A x.lab.n x.lab.c, .slice A7 n7 c7, .slice none 0 0]) ∧ Hid (wx.ownsRow wZ.heap.size smpT 2 (.slice A7 n7 c7) n7 (l7.flatMap Smp.cells)) ∧ Hid (wZ.grownBy wx (some Z))) (fun vj _ => x.smp.n - (intOf vj).toNat)
      case atStart => exact ⟨0, 0, 0, none, [], rfl, Nat.zero_le _, hidden rfl, rfl, Nat.le_refl _, HZZ, hidden (World.ownsRow_nil _ _ _ _), hidden (gb_refl _ _)⟩
      case round =>
        obtain ⟨j, n7, c7, A7, l7, rfl, hj, hl7, hn7, hnj, hZ, ho7, hg7⟩ := hrel
        obtain ⟨wo, rfl⟩ : ∃ wo : World, wo = wr := ⟨_, rfl⟩
        have hzz := HZS.out
        have hbo : Below Z w1 wo := HBZ.out.grown hg7.out (by omega) (fun q hq => by injection hq with hq; omega)
        have d1 : wo.cell? ⟨gs, o + k * 3 + 1, none⟩ = some (.slice sA x.smp.n x.smp.c) := (hbo.cell (p := ⟨gs, o + k * 3 + 1, none⟩) hgZ).trans HD.out.2.1
        have hbw : Below w.heap.size w wo := hst.out.below.trans (hbo.mono hwb)
        have z1 := hZ.out.cell 1
        have f1 := hZ.out.free 1
        by_cases hjs : j < x.smp.n
        · obtain ⟨gy, oy, z, hAy, hgy, hz, hcy⟩ := row_at (enc := Smp.cells) InsSmp.hkk ((HXA.out.smp.below hbw).2.2) HXA.out.smp.2.1 j hjs
          rw [HsA.out] at hAy
          subst hAy
          have u0 : wo.cell? ⟨gy, oy + j * 2, none⟩ = some (.int .i64 z.t) := hcy 0 (by omega)
          have u1 : wo.cell? ⟨gy, oy + j * 2 + 1, none⟩ = some (.int .u64 z.v) := hcy 1 (by omega)
          have HTJ : Hid (x.smp.l.take (j + 1) = x.smp.l.take j ++ [z]) := hidden (take_snoc? hz)
          have c1 : (j : Int) < (x.smp.n : Int) := by omega
          have c2 : (0 : Int) ≤ (j : Int) := by omega
          have hmj : x.smp.n - (j + 1) < x.smp.n - j := by omega
          have HBO := hidden hbo
          have HBW := hidden hbw
          clear hz hcy hbw hbo
          have z0 := hZ.out.cell 0
          have hwsz := HBW.out.size
          have S1 := hidden (fun q => rtaken_any G gn gc gones x.lab 0 z.t (wo.drewN q) ((HG.out.on HBW.out).on (below_drewN (Below.refl _ _) q)) ((((HXA.out.lab.below HBW.out).more HBW.out.size).below (below_drewN (Below.refl _ _) q)).more (Nat.le_refl _)) h0 h3)
          have HD1 := hidden d1
          have HU := hidden (And.intro u0 u1)
          go_wp2_with fail
          go_quiet ((go_at_call 81; refine Calls.quiet_of (S1.out _)))
          rename_i nq
          have hZq := hidden (hZ.out.drewN nq)
          have hoq := hidden (own_drewN ho7.out nq)
          have hgq := hidden (gb_drewN hg7.out nq)
          have HBOq := hidden (below_drewN HBO.out nq)
          clear S1 z0 z1 f1 hZ ho7 hg7 HBO
          have dq : (wo.drewN nq).cell? _ = _ := HD1.out
          have uq := HU.out
          have U0 : ∀ i u, wo.cell? ⟨gy, i, none⟩ = u → (wo.drewN nq).cell? ⟨gy, i, none⟩ = u := fun i u h => h
          have v0 := U0 _ _ uq.1
          have v1 := U0 _ _ uq.2
          clear u0 u1 d1 uq U0
          generalize wo.drewN nq = wq at *
          have z1 := hZq.out.cell 1
          have f1 := hZq.out.free 1
          obtain ⟨bh, hbh⟩ : ∃ bh, tk gones 0 x.lab.l z.t = bh := ⟨_, rfl⟩
          rw [hbh]
          have hp : Hid (stripS gones 0 x z = !bh) := hidden (by unfold stripS; rw [hbh]; simp)
          clear hbh
          cases bh with
          | false =>
            have how := hoq.out
            have hfr := Row.fresh wq.drew 86 2 1 [.int .i64 z.t, .int .u64 (z.v : Nat)] rfl
            have T := fun (ops : Array Oper) (o : Oper) (a : Act) (K : Act → World → Prop) (Q : Exit → Act → World → Prop) (E : Prop) (hg : o.guard = none) (s1 s2 : Operand) (ho : o.op = .call { callee := .builtin .append, args := #[s1, s2], argTypes := #[82, 82] }) (hs : a.eval s1 = .slice A7 n7 c7) (hx : a.eval s2 = .slice (some ⟨wq.heap.size, 0, none⟩) 1 1) h =>
              step_app (P := Try.prog) (ops := ops) (o := o) (a := a) (K := K) (Q := Q) (E := E) (wq.drew.alloc (.cells #[.int .i64 z.t, .int .u64 (z.v : Nat)] 86)) hg s1 s2 82 ho wZ.heap.size 86 iS _ 2 16 Try.underlying82 hiS hzS0 hzS1 hzS2 rfl (by decide) _ _ _ hs (how.alloc _) _ _ _ _ _ hx hfr (smpCells_one [z]) (by unfold maxLen; omega) (by omega) (by have := hgq.out.size; rw [World.size_alloc]; exact Nat.le_succ_of_le this) h
            have z1b := (hZq.out.alloc (.cells #[.int .i64 z.t, .int .u64 (z.v : Nat)] 86)).cell 1
            clear how hfr
            go_wp2_with fail
            go_region_law (refine T _ _ _ _ _ _ rfl _ _ rfl rfl rfl ?_; intro v10 w10 hown10 hg10 hat10; obtain ⟨A10, c10, rfl, hc10, hr10⟩ := own_shape hown10; have hZ10 := (hZq.out.drew.alloc (.cells #[.int .i64 z.t, .int .u64 (z.v : Nat)] 86)).grown hg10 (own_ne hoq.out (by omega)); have q1 := hZ10.cell 1; have f2 := hZ10.free 1)
            all_goals
              go_wp2_with fail
              go_roundw
              case rel =>
                exact ⟨j + 1, n7 + 1, c10, A10, l7 ++ [z], by go_num, hjs, hidden (by rw [HTJ.out, filter_snoc, hp.out, if_pos (by rfl), hl7.out]), by rw [List.length_append, hn7]; rfl, by omega, hidden (hZ10.put 1 _), hidden (own_put (by rw [List.flatMap_append]; exact hown10) (by omega) 1 _), hidden (gb_put (gb_far (gb_alloc (gb_drew hgq.out) _) hg10 (fun q hq => (hoq.out.lt q hq).1)) _ _)⟩
              case measure => simp [intOf]; omega
          | true =>
            have HREL := hidden (by rw [HTJ.out, filter_snoc, hp.out, if_neg (by decide)]; exact hl7.out : l7 = (x.smp.l.take (j + 1)).filter (stripS gones 0 x))
            go_wp2_with fail
            go_roundw
            case rel => exact ⟨j + 1, n7, c7, A7, l7, by go_num, hjs, HREL, hn7, by omega, hZq, hoq, hgq⟩
            case measure => simp [intOf]; omega
        · obtain rfl : j = x.smp.n := by omega
          obtain ⟨wD, rfl⟩ : ∃ wD : World, wD = wo := ⟨_, rfl⟩
          have HL7 : Hid (l7 = x.smp.l.filter (stripS gones 0 x)) := hidden (by
            have := hl7.out
            rwa [List.take_of_length_le (by rw [HXA.out.smp.2.1]; exact Nat.le_refl _)] at this)
          have HL8 : Hid (([] : List Win) = x.win.l.filter (stripW gones 0 x)) := hidden (by
            symm
            rw [List.filter_eq_nil_iff]
            intro y _
            unfold stripW
            simp)
          have hZ0 := hZ
          have hCs := hg7.out.size
          have d2 : wD.cell? ⟨gs, o + k * 3 + 2, none⟩ = some (.slice wA x.win.n x.win.c) := (hbo.cell (p := ⟨gs, o + k * 3 + 2, none⟩) hgZ).trans HD.out.2.2
          clear hl7
          go_wp2_with fail
          go_loopw [12] (fun vj wx => vj = .int .i64 ((0 : Nat) : Int) ∧ wD = wx) (fun vj _ => 0)
          case atStart => exact ⟨rfl, rfl⟩
          case round =>
            obtain ⟨rfl, rfl⟩ := hrel
            have hn8 : ([] : List Win).length = 0 := rfl
            have ho8 : Hid (wD.ownsRow wD.heap.size winT 6 (.slice none 0 0) 0 (([] : List Win).flatMap Win.cells)) := hidden (World.ownsRow_nil _ _ _ _)
            have hg8 : Hid (wD.grownBy wD (some Z)) := hidden (gb_refl _ _)
            have hl8 := trivial
            have hla := hidden (HXA.out.lab)
            have hCD := hg8.out.size
            have z1 := trivial
            have f1 := trivial
            by_cases hw0 : (0 : Int) < (x.win.n : Int)
            all_goals
              -- the series, as it lies
              have HYO : Hid (SerOwn wD w.heap.size ⟨x.lab, ⟨A7, n7, c7, l7⟩, ⟨none, 0, 0, []⟩⟩) := hidden (by
                have hlD := hla.out.below hbw
                refine ⟨hlD.more hbw.size, ?_, own_more ho8.out (by omega), ⟨hn7, hn8⟩, ?_, ?_⟩
                · refine own_more (ho7.out.kept hg8.out ?_) (by omega)
                  cases hv : (Value.slice A7 n7 c7).ownBlock with
                  | none => exact .inl rfl
                  | some q => exact .inr fun e => by injection e with e; have := (ho7.out.lt q hv).1; omega
                · intro q h1 h2
                  have := (ho7.out.lt q h1).2
                  have := (ho8.out.lt q h2).1
                  omega
                · rintro q (hq | hq)
                  · exact hlD.off (by have := (ho7.out.lt q hq).1; omega)
                  · exact hlD.off (by have := (ho8.out.lt q hq).1; omega))
              have HYB : Hid (∀ q, (⟨x.lab, ⟨A7, n7, c7, l7⟩, ⟨none, 0, 0, []⟩⟩ : Ser).blk q → Z ≤ q) := hidden (by
                rintro q (hq | hq)
                · have := (ho7.out.lt q hq).1; omega
                · have := (ho8.out.lt q hq).1; omega)
              have HST0 := hidden (hst.out.on (by rw [HZE.out]; exact hbo))
              have HLT := hidden (by have := mout_lt hst.out.out; rw [HZE.out] at this; exact this : ∀ q, (u7.ownBlock = some q ∨ ∃ z ∈ L, z.blk q) → q < Z)
              have HLAB := hidden (fun z hz => (hst.out.lab z hz).below hbw : ∀ z ∈ L, z.lab.At wD w.heap.size 2 Lbl.cells)
              have HLY := hidden (hla.out.below hbw)
              have z0 := hZ.out.cell 0
              have z1' := hZ.out.cell 1
              have z2' := hZ.out.cell 2
              have hsum : n7 + 0 ≤ 17592186044416 := by omega
              clear hl8 hst hbo hbw z1 f1
              by_cases hfu : n7 + 0 = 0
              · have h7 : l7 = [] := List.eq_nil_of_length_eq_zero (by omega)
                have h8 : ([] : List Win) = [] := rfl
                have HFI : Hid (RKSt w wD u7 L (keptAll (stripS gones 0) (stripW gones 0) (ss.take (k + 1)))) := hidden (by
                  rw [HTK.out, kept_snoc, if_pos ⟨by rw [← HL7.out]; exact h7, by rw [← HL8.out]⟩, List.append_nil]
                  exact HST0.out)
                have b6 : ¬ (0 : Int) < (n7 : Int) := by omega
                clear hfu h7 h8
                go_wp2_with fail
                go_roundw
                case rel => exact ⟨k + 1, _, L, rfl, by go_num, by omega, by omega, HFI⟩
                case measure => simp [intOf]; omega
              · have b6 : (0 : Int) < (n7 : Int) := by omega
                have HNF : Hid (¬ (x.smp.l.filter (stripS gones 0 x) = [] ∧ x.win.l.filter (stripW gones 0 x) = [])) := hidden (by
                  rw [← HL7.out, ← HL8.out]
                  rintro ⟨h1, h2⟩
                  rw [h1] at hn7
                  simp at hn7
                  omega)
                obtain ⟨A4, c4, rfl, hc4, hr4⟩ := own_shape HST0.out.out.row
                obtain ⟨ll, hll⟩ : ∃ ll, L.length = ll := ⟨_, rfl⟩
                have HRW := hidden HST0.out.out.row
                rw [hll] at hc4 hLk HRW ⊢
                rw [hll] at HST0 HLT
                have HLL := hidden hll
                have hfr := Row.fresh wD 85 3 1 [.slice x.lab.A x.lab.n x.lab.c, .slice A7 n7 c7, .slice none 0 0] rfl
                have hws := HST0.out.below.size
                clear hll hr4 hfu
                go_wp2_with (at_builtin; refine wpList_app _ rfl _ _ 25 rfl w.heap.size 85 i0 _ 3 72 Try.underlying25 hi hz0 hz1 hz2 rfl (by decide) _ _ _ rfl (HRW.out.alloc _) _ _ _ _ _ rfl hfr (by simp [Value.oneCell']) (by unfold maxLen; omega) (by omega) (by simp; omega) ?_; intro v10 w10 hown10 hg10 hat10)
                go_roundw
                case rel =>
                  have hbA : Below wD.heap.size wD (wD.alloc (.cells #[.slice x.lab.A x.lab.n x.lab.c, .slice A7 n7 c7, .slice none 0 0] 85)) := (Below.refl _ _).alloc (Nat.le_refl _) _
                  have hadd := (HST0.out.out.below hbA).add (v' := v10) (HYO.out.grown (gb_below hbA none) (fun q hq => by cases hq)) HLT.out (fun z hz => (HLAB.out z hz).below (hbA.mono hws)) HYB.out (HLY.out.below (hbA.mono hws)) hg10 (hat10.imp id fun h => ⟨_, h, Nat.le_refl _⟩) (by rw [serCells_snoc, HLL.out]; exact hown10)
                  refine ⟨k + 1, _, _, rfl, by go_num, by omega, by rw [List.length_append, HLL.out]; show ll + 1 ≤ _; omega, hidden ⟨hadd, ?_, ?_, ?_, ?_⟩⟩
                  · rw [HTK.out, kept_snoc, if_neg HNF.out, List.map_append, HST0.out.tells]
                    unfold keptOf
                    rw [← HL7.out, ← HL8.out]
                    rfl
                  · exact (HST0.out.below.trans (hbA.mono hws)).grown hg10 (by have := hbA.size; omega) (fun q hq => (HRW.out.lt q hq).1)
                  · intro y hy
                    rcases List.mem_append.1 hy with hy | hy
                    · exact HST0.out.lab y hy
                    · rw [List.mem_singleton.1 hy]
                      exact hla.out
                  · intro y hy
                    rcases List.mem_append.1 hy with hy | hy
                    · exact HST0.out.small y hy
                    · rw [List.mem_singleton.1 hy]
                      exact ⟨by show x.lab.n * 32 ≤ reachBytes; simp only [reachBytes]; omega, by show n7 * 16 ≤ reachBytes; simp only [reachBytes]; omega, by show 0 * 48 ≤ reachBytes; simp only [reachBytes]; omega⟩
                case measure => simp [intOf]; omega
    · obtain rfl : k = n := by omega
      have HF := hst
      clear hst
      go_wp2_with fail
      go_ret
      have := HF.out
      rw [List.take_of_length_le (by rw [HL.out]; exact Nat.le_refl _)] at this
      exact ⟨_, L, rfl, this⟩

set_option maxHeartbeats 12800000 in
theorem rstrip1_any (res : Int) (A : Option Addr) (n c : Nat) (ss : List Ser) (G : Option Addr) (gn gc : Nat) (gones : List Gon) (w : World) (hr : Row w w.heap.size 3 A n (serCells ss)) (hl : ss.length = n) (hat : ∀ x ∈ ss, x.At w w.heap.size) (hs : ∀ x ∈ ss, x.Fit) (hn : n * 72 ≤ 140737488351232) (hG : GonsAt w G gn gones) (h1 : 0 < res) (h3 : res < 3) :
    Calls Try.prog 32 #[.int .i64 res, .slice A n c, .slice G gn gc] w (RKeptRes w (keptAll (stripS gones res) (stripW gones res) ss)) := by
  obtain ⟨i0, hi, hz0, hz1, hz2⟩ := info_parts info_rser
  obtain ⟨iS, hiS, hzS0, hzS1, hzS2⟩ := info_parts info_rsmp
  obtain ⟨iW, hiW, hzW0, hzW1, hzW2⟩ := info_parts info_rwin
  have HR := hidden hr
  have HL := hidden hl
  have HAT := hidden hat
  have HSS := hidden hs
  have HG := hidden hG
  have hn' : n ≤ 1954687338211 := by omega
  clear hr hl hat hs hG
  have h0 : 0 ≤ res := by omega
  have hrn : ¬ res = 0 := by omega
  have HRN := hidden hrn
  have b0 : (res == 0) = false := by simpa using hrn
  clear hrn
  go_enter Try.func32, Try.ntmps32
  go_wp2_with fail
  go_loopw [7, 8] (fun vo vi wr => ∃ (k : Nat) (v : Value) (L : List Ser), vo = v ∧ vi = .int .i64 k ∧ k ≤ n ∧ L.length ≤ k ∧ Hid (RKSt w wr v L (keptAll (stripS gones res) (stripW gones res) (ss.take k)))) (fun _ vi _ => n - (intOf vi).toNat)
  case atStart => exact ⟨0, _, [], rfl, rfl, Nat.zero_le _, Nat.le_refl _, hidden (RKSt.nil w)⟩
  case round =>
    obtain ⟨k, v, L, rfl, rfl, hk, hLk, hst⟩ := hrel
    obtain ⟨w1, rfl⟩ : ∃ w1 : World, w1 = wr := ⟨_, rfl⟩
    by_cases hlt : k < n
    · obtain ⟨gs, o, hA, hgs, x, hx, d0, d1, d2⟩ := ser_cells_at HR.out HL.out hst.out.below k hlt
      subst hA
      simp only [Sl.val] at d0 d1 d2
      obtain ⟨sA, hsA⟩ : ∃ sA, x.smp.A = sA := ⟨_, rfl⟩
      obtain ⟨wA, hwA⟩ : ∃ wA, x.win.A = wA := ⟨_, rfl⟩
      rw [hsA] at d1
      rw [hwA] at d2
      have HsA := hidden hsA
      have HwA := hidden hwA
      clear hsA hwA
      have hxm := List.mem_of_getElem? hx
      have HXA := hidden (HAT.out x hxm)
      obtain ⟨hxl, hxs, hxw⟩ := HSS.out x hxm
      simp only [reachBytes] at hxl hxs hxw
      have hxs' : x.smp.n ≤ 8796093021952 := by omega
      have hxw' : x.win.n ≤ 2932031007317 := by omega
      have HTK : Hid (ss.take (k + 1) = ss.take k ++ [x]) := hidden (take_snoc? hx)
      have b1 : (k : Int) < (n : Int) := by omega
      have b2 : (0 : Int) ≤ (k : Int) := by omega
      have hwb := hst.out.below.size
      clear hx hxm
      go_upto_region 8 with (fail)
      have hZ := Whole1.new w1 85 #[.slice x.lab.A x.lab.n x.lab.c, .slice none 0 0, .slice none 0 0]
      have hbZ : Below w1.heap.size w1 (w1.alloc (.cells #[.slice x.lab.A x.lab.n x.lab.c, .slice none 0 0, .slice none 0 0] 85)) := (Below.refl _ _).alloc (Nat.le_refl _) _
      have hzs : (w1.alloc (.cells #[.slice x.lab.A x.lab.n x.lab.c, .slice none 0 0, .slice none 0 0] 85)).heap.size = w1.heap.size + 1 := World.size_alloc _ _
      generalize w1.alloc (.cells #[.slice x.lab.A x.lab.n x.lab.c, .slice none 0 0, .slice none 0 0] 85) = wZ at hZ hbZ hzs ⊢
      obtain ⟨Z, hZe⟩ : ∃ Z, w1.heap.size = Z := ⟨_, rfl⟩
      rw [hZe] at hZ hbZ hzs hwb ⊢
      have HZE := hidden hZe
      have HBZ := hidden hbZ
      have HZS := hidden hzs
      have HZZ := hidden hZ
      have HD : Hid (w1.cell? ⟨gs, o + k * 3, none⟩ = some (.slice x.lab.A x.lab.n x.lab.c) ∧ w1.cell? ⟨gs, o + k * 3 + 1, none⟩ = some (.slice sA x.smp.n x.smp.c) ∧ w1.cell? ⟨gs, o + k * 3 + 2, none⟩ = some (.slice wA x.win.n x.win.c)) := hidden ⟨d0, d1, d2⟩
      have hgZ : gs < Z := by omega
      clear hZ hbZ hzs hZe d0 d1 d2
      go_wp2_with fail
      go_loopw [10] (fun vj wx => vj = .int .i64 ((0 : Nat) : Int) ∧ wZ = wx) (fun vj _ => 0)
      case atStart => exact ⟨rfl, rfl⟩
      case round =>
        obtain ⟨rfl, rfl⟩ := hrel
        obtain ⟨wC, rfl⟩ : ∃ wC : World, wC = wZ := ⟨_, rfl⟩
        have HZC := HZZ
        have HBC := HBZ
        have HL7 : Hid (([] : List Smp) = x.smp.l.filter (stripS gones res x)) := hidden (by
          symm
          rw [List.filter_eq_nil_iff]
          intro y _
          unfold stripS
          simp [HRN.out])
        have hn7 : ([] : List Smp).length = 0 := rfl
        have ho7 : Hid (wC.ownsRow wC.heap.size smpT 2 (.slice none 0 0) 0 (([] : List Smp).flatMap Smp.cells)) := hidden (World.ownsRow_nil _ _ _ _)
        have hzz := HZS.out
        have hCs : wC.heap.size ≤ wC.heap.size := Nat.le_refl _
        have hnj : 0 ≤ x.smp.n := Nat.zero_le _
        have d1 : wC.cell? ⟨gs, o + k * 3 + 1, none⟩ = some (.slice sA x.smp.n x.smp.c) := (HBC.out.cell (p := ⟨gs, o + k * 3 + 1, none⟩) hgZ).trans HD.out.2.1
        by_cases hw0 : (0 : Int) < (x.smp.n : Int)
        all_goals
          go_wp2_with fail
          clear d1
          go_loopw [12] (fun vj wx => ∃ (j n8 c8 : Nat) (A8 : Option Addr) (l8 : List Win), vj = .int .i64 j ∧ j ≤ x.win.n ∧ Hid (l8 = (x.win.l.take j).filter (stripW gones res x)) ∧ l8.length = n8 ∧ n8 ≤ j ∧ Hid (Whole1 wx Z 85 #[.slice x.lab.A x.lab.n x.lab.c, .slice none 0 0, .slice A8 n8 c8]) ∧ Hid (wx.ownsRow wC.heap.size winT 6 (.slice A8 n8 c8) n8 (l8.flatMap Win.cells)) ∧ Hid (wC.grownBy wx (some Z))) (fun vj _ => x.win.n - (intOf vj).toNat)
          case atStart => exact ⟨0, 0, 0, none, [], rfl, Nat.zero_le _, hidden rfl, rfl, Nat.le_refl _, HZC, hidden (World.ownsRow_nil _ _ _ _), hidden (gb_refl _ _)⟩
          case round =>
            obtain ⟨j, n8, c8, A8, l8, rfl, hj, hl8, hn8, hnj, hZ, ho8, hg8⟩ := hrel
            obtain ⟨wo, rfl⟩ : ∃ wo : World, wo = wr := ⟨_, rfl⟩
            have hzz := HZS.out
            have hbo : Below Z w1 wo := HBC.out.grown hg8.out (by omega) (fun q hq => by injection hq with hq; omega)
            have d2 : wo.cell? ⟨gs, o + k * 3 + 2, none⟩ = some (.slice wA x.win.n x.win.c) := (hbo.cell (p := ⟨gs, o + k * 3 + 2, none⟩) hgZ).trans HD.out.2.2
            have hbw : Below w.heap.size w wo := hst.out.below.trans (hbo.mono hwb)
            have z1 := hZ.out.cell 2
            have f1 := hZ.out.free 2
            by_cases hjs : j < x.win.n
            · obtain ⟨gy, oy, z, hAy, hgy, hz, hcy⟩ := row_at (enc := Win.cells) InsWin.hkk ((HXA.out.win.below hbw).2.2) HXA.out.win.2.1 j hjs
              rw [HwA.out] at hAy
              subst hAy
              have u0 : wo.cell? ⟨gy, oy + j * 6, none⟩ = some (.int .i64 z.start) := hcy 0 (by omega)
              have u1 : wo.cell? ⟨gy, oy + j * 6 + 1, none⟩ = some (.int .i64 z.count) := hcy 1 (by omega)
              have u2 : wo.cell? ⟨gy, oy + j * 6 + 2, none⟩ = some (.int .u64 z.sum) := hcy 2 (by omega)
              have u3 : wo.cell? ⟨gy, oy + j * 6 + 3, none⟩ = some (.int .u64 z.min) := hcy 3 (by omega)
              have u4 : wo.cell? ⟨gy, oy + j * 6 + 4, none⟩ = some (.int .u64 z.max) := hcy 4 (by omega)
              have u5 : wo.cell? ⟨gy, oy + j * 6 + 5, none⟩ = some (.int .u64 z.last) := hcy 5 (by omega)
              have HTJ : Hid (x.win.l.take (j + 1) = x.win.l.take j ++ [z]) := hidden (take_snoc? hz)
              have c1 : (j : Int) < (x.win.n : Int) := by omega
              have c2 : (0 : Int) ≤ (j : Int) := by omega
              have hmj : x.win.n - (j + 1) < x.win.n - j := by omega
              have HBO := hidden hbo
              have HBW := hidden hbw
              clear hz hcy hbw hbo
              have z0 := hZ.out.cell 0
              have hwsz := HBW.out.size
              have S1 := hidden (fun q => rtaken_any G gn gc gones x.lab res z.start (wo.drewN q) ((HG.out.on HBW.out).on (below_drewN (Below.refl _ _) q)) ((((HXA.out.lab.below HBW.out).more HBW.out.size).below (below_drewN (Below.refl _ _) q)).more (Nat.le_refl _)) h0 h3)
              have HD1 := hidden d2
              have HU := hidden (And.intro u0 (And.intro u1 (And.intro u2 (And.intro u3 (And.intro u4 u5)))))
              go_wp2_with fail
              go_quiet ((go_at_call 81; refine Calls.quiet_of (S1.out _)))
              rename_i nq
              have hZq := hidden (hZ.out.drewN nq)
              have hoq := hidden (own_drewN ho8.out nq)
              have hgq := hidden (gb_drewN hg8.out nq)
              have HBOq := hidden (below_drewN HBO.out nq)
              clear S1 z0 z1 f1 hZ ho8 hg8 HBO
              have dq : (wo.drewN nq).cell? _ = _ := HD1.out
              have uq := HU.out
              have U0 : ∀ i u, wo.cell? ⟨gy, i, none⟩ = u → (wo.drewN nq).cell? ⟨gy, i, none⟩ = u := fun i u h => h
              have v0 := U0 _ _ uq.1
              have v1 := U0 _ _ uq.2.1
              have v2 := U0 _ _ uq.2.2.1
              have v3 := U0 _ _ uq.2.2.2.1
              have v4 := U0 _ _ uq.2.2.2.2.1
              have v5 := U0 _ _ uq.2.2.2.2.2
              clear u0 u1 u2 u3 u4 u5 d2 uq U0
              generalize wo.drewN nq = wq at *
              have z1 := hZq.out.cell 2
              have f1 := hZq.out.free 2
              obtain ⟨bh, hbh⟩ : ∃ bh, tk gones res x.lab.l z.start = bh := ⟨_, rfl⟩
              rw [hbh]
              have hp : Hid (stripW gones res x z = !bh) := hidden (by unfold stripW; rw [hbh]; simp [HRN.out])
              clear hbh
              cases bh with
              | false =>
                have how := hoq.out
                have hfr := Row.fresh wq.drew 89 6 1 [.int .i64 z.start, .int .i64 z.count, .int .u64 (z.sum : Nat), .int .u64 (z.min : Nat), .int .u64 (z.max : Nat), .int .u64 (z.last : Nat)] rfl
                have T := fun (ops : Array Oper) (o : Oper) (a : Act) (K : Act → World → Prop) (Q : Exit → Act → World → Prop) (E : Prop) (hg : o.guard = none) (s1 s2 : Operand) (ho : o.op = .call { callee := .builtin .append, args := #[s1, s2], argTypes := #[83, 83] }) (hs : a.eval s1 = .slice A8 n8 c8) (hx : a.eval s2 = .slice (some ⟨wq.heap.size, 0, none⟩) 1 1) h =>
                  step_app (P := Try.prog) (ops := ops) (o := o) (a := a) (K := K) (Q := Q) (E := E) (wq.drew.alloc (.cells #[.int .i64 z.start, .int .i64 z.count, .int .u64 (z.sum : Nat), .int .u64 (z.min : Nat), .int .u64 (z.max : Nat), .int .u64 (z.last : Nat)] 89)) hg s1 s2 83 ho wC.heap.size 89 iW _ 6 48 Try.underlying83 hiW hzW0 hzW1 hzW2 rfl (by decide) _ _ _ hs (how.alloc _) _ _ _ _ _ hx hfr (winCells_one [z]) (by unfold maxLen; omega) (by omega) (by have := hgq.out.size; rw [World.size_alloc]; exact Nat.le_succ_of_le this) h
                have z1b := (hZq.out.alloc (.cells #[.int .i64 z.start, .int .i64 z.count, .int .u64 (z.sum : Nat), .int .u64 (z.min : Nat), .int .u64 (z.max : Nat), .int .u64 (z.last : Nat)] 89)).cell 2
                clear how hfr
                go_wp2_with fail
                go_region_law (refine T _ _ _ _ _ _ rfl _ _ rfl rfl rfl ?_; intro v10 w10 hown10 hg10 hat10; obtain ⟨A10, c10, rfl, hc10, hr10⟩ := own_shape hown10; have hZ10 := (hZq.out.drew.alloc (.cells #[.int .i64 z.start, .int .i64 z.count, .int .u64 (z.sum : Nat), .int .u64 (z.min : Nat), .int .u64 (z.max : Nat), .int .u64 (z.last : Nat)] 89)).grown hg10 (own_ne hoq.out (by omega)); have q1 := hZ10.cell 2; have f2 := hZ10.free 2)
                all_goals
                  go_wp2_with fail
                  go_roundw
                  case rel =>
                    exact ⟨j + 1, n8 + 1, c10, A10, l8 ++ [z], by go_num, hjs, hidden (by rw [HTJ.out, filter_snoc, hp.out, if_pos (by rfl), hl8.out]), by rw [List.length_append, hn8]; rfl, by omega, hidden (hZ10.put 2 _), hidden (own_put (by rw [List.flatMap_append]; exact hown10) (by omega) 2 _), hidden (gb_put (gb_far (gb_alloc (gb_drew hgq.out) _) hg10 (fun q hq => (hoq.out.lt q hq).1)) _ _)⟩
                  case measure => simp [intOf]; omega
              | true =>
                have HREL := hidden (by rw [HTJ.out, filter_snoc, hp.out, if_neg (by decide)]; exact hl8.out : l8 = (x.win.l.take (j + 1)).filter (stripW gones res x))
                go_wp2_with fail
                go_roundw
                case rel => exact ⟨j + 1, n8, c8, A8, l8, by go_num, hjs, HREL, hn8, by omega, hZq, hoq, hgq⟩
                case measure => simp [intOf]; omega
            · obtain rfl : j = x.win.n := by omega
              obtain ⟨wD, rfl⟩ : ∃ wD : World, wD = wo := ⟨_, rfl⟩
              have HL8 : Hid (l8 = x.win.l.filter (stripW gones res x)) := hidden (by
                have := hl8.out
                rwa [List.take_of_length_le (by rw [HXA.out.win.2.1]; exact Nat.le_refl _)] at this)
              have hCD := hg8.out.size
              have HBD := hidden hbo
              have hla := hidden (HXA.out.lab)
              -- the series, as it lies
              have HYO : Hid (SerOwn wD w.heap.size ⟨x.lab, ⟨none, 0, 0, []⟩, ⟨A8, n8, c8, l8⟩⟩) := hidden (by
                have hlD := hla.out.below hbw
                refine ⟨hlD.more hbw.size, ?_, own_more ho8.out (by omega), ⟨hn7, hn8⟩, ?_, ?_⟩
                · refine own_more (ho7.out.kept hg8.out ?_) (by omega)
                  cases hv : (Value.slice none 0 0).ownBlock with
                  | none => exact .inl rfl
                  | some q => exact .inr fun e => by injection e with e; have := (ho7.out.lt q hv).1; omega
                · intro q h1 h2
                  have := (ho7.out.lt q h1).2
                  have := (ho8.out.lt q h2).1
                  omega
                · rintro q (hq | hq)
                  · exact hlD.off (by have := (ho7.out.lt q hq).1; omega)
                  · exact hlD.off (by have := (ho8.out.lt q hq).1; omega))
              have HYB : Hid (∀ q, (⟨x.lab, ⟨none, 0, 0, []⟩, ⟨A8, n8, c8, l8⟩⟩ : Ser).blk q → Z ≤ q) := hidden (by
                rintro q (hq | hq)
                · have := (ho7.out.lt q hq).1; omega
                · have := (ho8.out.lt q hq).1; omega)
              have HST0 := hidden (hst.out.on (by rw [HZE.out]; exact hbo))
              have HLT := hidden (by have := mout_lt hst.out.out; rw [HZE.out] at this; exact this : ∀ q, (u7.ownBlock = some q ∨ ∃ z ∈ L, z.blk q) → q < Z)
              have HLAB := hidden (fun z hz => (hst.out.lab z hz).below hbw : ∀ z ∈ L, z.lab.At wD w.heap.size 2 Lbl.cells)
              have HLY := hidden (hla.out.below hbw)
              have z0 := hZ.out.cell 0
              have z1' := hZ.out.cell 1
              have z2' := hZ.out.cell 2
              have hsum : 0 + n8 ≤ 17592186044416 := by omega
              clear hl8 hst hbo hbw z1 f1
              by_cases hfu : 0 + n8 = 0
              · have h8 : l8 = [] := List.eq_nil_of_length_eq_zero (by omega)
                have HFI : Hid (RKSt w wD u7 L (keptAll (stripS gones res) (stripW gones res) (ss.take (k + 1)))) := hidden (by
                  rw [HTK.out, kept_snoc, if_pos ⟨by rw [← HL7.out], by rw [← HL8.out]; exact h8⟩, List.append_nil]
                  exact HST0.out)
                have b6 : ¬ (0 : Int) < (n8 : Int) := by omega
                clear hfu h8
                go_wp2_with fail
                go_roundw
                case rel => exact ⟨k + 1, _, L, rfl, by go_num, by omega, by omega, HFI⟩
                case measure => simp [intOf]; omega
              · have b6 : (0 : Int) < (n8 : Int) := by omega
                have HNF : Hid (¬ (x.smp.l.filter (stripS gones res x) = [] ∧ x.win.l.filter (stripW gones res x) = [])) := hidden (by
                  rw [← HL7.out, ← HL8.out]
                  rintro ⟨h1, h2⟩
                  rw [h2] at hn8
                  simp at hn8
                  omega)
                obtain ⟨A4, c4, rfl, hc4, hr4⟩ := own_shape HST0.out.out.row
                obtain ⟨ll, hll⟩ : ∃ ll, L.length = ll := ⟨_, rfl⟩
                have HRW := hidden HST0.out.out.row
                rw [hll] at hc4 hLk HRW ⊢
                rw [hll] at HST0 HLT
                have HLL := hidden hll
                have hfr := Row.fresh wD 85 3 1 [.slice x.lab.A x.lab.n x.lab.c, .slice none 0 0, .slice A8 n8 c8] rfl
                have hws := HST0.out.below.size
                clear hll hr4 hfu
                go_wp2_with (at_builtin; refine wpList_app _ rfl _ _ 25 rfl w.heap.size 85 i0 _ 3 72 Try.underlying25 hi hz0 hz1 hz2 rfl (by decide) _ _ _ rfl (HRW.out.alloc _) _ _ _ _ _ rfl hfr (by simp [Value.oneCell']) (by unfold maxLen; omega) (by omega) (by simp; omega) ?_; intro v10 w10 hown10 hg10 hat10)
                go_roundw
                case rel =>
                  have hbA : Below wD.heap.size wD (wD.alloc (.cells #[.slice x.lab.A x.lab.n x.lab.c, .slice none 0 0, .slice A8 n8 c8] 85)) := (Below.refl _ _).alloc (Nat.le_refl _) _
                  have hadd := (HST0.out.out.below hbA).add (v' := v10) (HYO.out.grown (gb_below hbA none) (fun q hq => by cases hq)) HLT.out (fun z hz => (HLAB.out z hz).below (hbA.mono hws)) HYB.out (HLY.out.below (hbA.mono hws)) hg10 (hat10.imp id fun h => ⟨_, h, Nat.le_refl _⟩) (by rw [serCells_snoc, HLL.out]; exact hown10)
                  refine ⟨k + 1, _, _, rfl, by go_num, by omega, by rw [List.length_append, HLL.out]; show ll + 1 ≤ _; omega, hidden ⟨hadd, ?_, ?_, ?_, ?_⟩⟩
                  · rw [HTK.out, kept_snoc, if_neg HNF.out, List.map_append, HST0.out.tells]
                    unfold keptOf
                    rw [← HL7.out, ← HL8.out]
                    rfl
                  · exact (HST0.out.below.trans (hbA.mono hws)).grown hg10 (by have := hbA.size; omega) (fun q hq => (HRW.out.lt q hq).1)
                  · intro y hy
                    rcases List.mem_append.1 hy with hy | hy
                    · exact HST0.out.lab y hy
                    · rw [List.mem_singleton.1 hy]
                      exact hla.out
                  · intro y hy
                    rcases List.mem_append.1 hy with hy | hy
                    · exact HST0.out.small y hy
                    · rw [List.mem_singleton.1 hy]
                      exact ⟨by show x.lab.n * 32 ≤ reachBytes; simp only [reachBytes]; omega, by show 0 * 16 ≤ reachBytes; simp only [reachBytes]; omega, by show n8 * 48 ≤ reachBytes; simp only [reachBytes]; omega⟩
                case measure => simp [intOf]; omega
    · obtain rfl : k = n := by omega
      have HF := hst
      clear hst
      go_wp2_with fail
      go_ret
      have := HF.out
      rw [List.take_of_length_le (by rw [HL.out]; exact Nat.le_refl _)] at this
      exact ⟨_, L, rfl, this⟩
end Go.Proofs.Ytohocdbneopooaa.MR
