/- (post.without).seek, walked. The library's contracts at this program's numbers: laid plainly by the kit's lay-plain. (*post.list).seek, walked. (*post.Cursor).Seek, Next and Rest, walked: a cursor goes through its list. Condition: the list is within the reach. (*post.Cursor).Rest, walked: all numbers that are left, in memory of the call's own. Condition: the list is within the reach. slices.Clone at ints and at cursors: a copy of the call's own. Condition: the row is within the reach. -/
import Derived.Test.YtbijjjhfekkfaaaGreatPkb5b9ef85
import Derived.Test.YtbijjjhfekkfaaaGreatBase
import Derived.Shelf.Strings.Builder1
import Derived.Shelf.Strings.Builder2
import Derived.Shelf.Small.Utf8
import Derived.Shelf.Small.Bits
import Derived.Shelf.Small.Strs
import Derived.Shelf.Strconv.Itoa0
import Derived.Shelf.Strings.Search1
import Derived.Shelf.Sort.Plain
import Derived.Shelf.Strings.Runes
import Derived.Shelf.Strings.IndexAny
import Derived.Shelf.Strings.AsciiSet
import Derived.Shelf.Strings.IndexAnyAll
import Derived.Ground.Names2Prog
import Derived.Shelf.Slices.Clone
import Derived.Shelf.Slices.CompactI
import Derived.Shelf.Slices.SearchI
import Derived.Shelf.Slices.Cells
import Derived.Shelf.Slices.In.SortNone
import Derived.Shelf.Slices.Empties
import Derived.Ground.SlgnProg
import Derived.Shelf.SlicesE.Clone
import Derived.Ground.SlsfProg
import Derived.Shelf.SlSortCmp.Insertion
import Derived.Test.YtbijjjhfekkfaaaGreatPk60b7ed6a
import Derived.Test.YtbijjjhfekkfaaaGreatPk698bdddd
namespace Go.Proofs.YtbijjjhfekkfaaaGreat
set_option maxRecDepth 100000
open Go.RowKit Go.Shelf

theorem wo_fin {S : Src} {w2 : World} {x y : Kid} {E : List Int} {n q b : Int} {F : Nat → Prop} (hE : rising E) (hm : ∀ z, z ∈ E ↔ z ∈ x.E ∧ z ∉ y.E) (hd : ∀ k, ¬ (x.F k ∧ y.F k)) (hF : ∀ k, F k ↔ x.F k ∨ y.F k) (hnq : n ≤ q) (hno : ∀ z ∈ E, n ≤ z → q ≤ z) (hb : ∀ z ∈ geL q x.E, b ≤ z)
    (hx : CurOf S w2 x.p (geL q x.E) x.F) (hy : CurOf S w2 y.p (geL b y.E) y.F) : IsWo S w2 (.iface 374 (.agg #[x.p, y.p])) (geL n E) F := by
  refine ⟨⟨x.p, geL q x.E, x.F⟩, ⟨y.p, geL b y.E, y.F⟩, rfl, hx, hy, hd, hF, rising_geL hE n, fun z => ?_⟩
  rw [mem_geL, hm z]
  constructor
  · rintro ⟨⟨h1, h2⟩, h3⟩
    exact ⟨mem_geL.2 ⟨h1, hno z ((hm z).2 ⟨h1, h2⟩) h3⟩, fun h => h2 (mem_geL.1 h).1⟩
  · rintro ⟨h1, h2⟩
    have := hb z h1
    have h3 := mem_geL.1 h1
    exact ⟨⟨h3.1, fun h => h2 (mem_geL.2 ⟨h, this⟩)⟩, by omega⟩
theorem wo_nil {S : Src} {w2 : World} {x y : Kid} {D : List Int} {F : Nat → Prop} (hd : ∀ k, ¬ (x.F k ∧ y.F k)) (hF : ∀ k, F k ↔ x.F k ∨ y.F k) (hx : CurOf S w2 x.p [] x.F) (hy : CurOf S w2 y.p D y.F) : IsWo S w2 (.iface 374 (.agg #[x.p, y.p])) [] F :=
  ⟨⟨x.p, [], x.F⟩, ⟨y.p, D, y.F⟩, rfl, hx, hy, hd, hF, List.Pairwise.nil, by simp⟩
theorem head_least {L : List Int} {b : Int} {r : List Int} (h : rising L) (e : L = b :: r) : ∀ z ∈ L, b ≤ z := fun z hz => by
  rw [e] at hz h
  rcases List.mem_cons.1 hz with h1 | h1
  · omega
  · have := (List.pairwise_cons.1 h).1 z h1; omega

set_option maxHeartbeats 3200000 in
theorem wo_seek {S : Src} (hF : FrameOk S) (hO : OldOk S) (hR : RiseOk S) (hP : PeekOk S) : SeekOk (IsWo S) := by
  rintro w v E F n ⟨x, y, rfl, h1, h2, h3, h4, h5, h6⟩ hn
  refine ⟨_, _, 352, .agg #[x.p, y.p], rfl, fun w => by kernel_rfl, enters_of Tryz.func352 (by kernel_rfl) rfl, ?_⟩
  have hOx := cur_old hO _ _ _ _ h1
  have hOy := cur_old hO _ _ _ _ h2
  have hRx := cur_rise hR _ _ _ _ h1
  have hRy := cur_rise hR _ _ _ _ h2
  have ex : geL (-9223372036854775808) x.E = x.E := geL_all fun z hz => (hRx.2 z hz).1
  have ey : geL (-9223372036854775808) y.E = y.E := geL_all fun z hz => (hRy.2 z hz).1
  have h1' := h1
  have h2' := h2
  rw [← ex] at h1'
  rw [← ey] at h2'
  have HX := hidden hRx
  have HY := hidden hRy
  have HM := hidden h6
  have HE := hidden h5
  have HF := hidden h4
  have HD := hidden h3
  have H1 := hidden h1'
  have H2 := hidden h2'
  clear h1 h2 h1' h2' ex ey h3 h4 h5 h6 hRx hRy
  go_enter Tryz.func352, Tryz.ntmps352
  go_upto_region 1 with (fail)
  have hX := Whole1.new w 374 #[x.p, y.p]
  have hkp : Kp F w (w.alloc (.cells #[x.p, y.p] 374)) := (Kp.refl _ _).alloc _
  have hfrm : ∀ k, k < w.heap.size → (w.alloc (.cells #[x.p, y.p] 374)).heap[k]? = w.heap[k]? := fun k hk => Below.heap_alloc w _ k hk
  have H1' := hidden (cur_frame hF _ _ _ _ _ H1.out hkp.size fun k hk => hfrm k (hOx k hk))
  have H2' := hidden (cur_frame hF _ _ _ _ _ H2.out hkp.size fun k hk => hfrm k (hOy k hk))
  have hXF : ¬ F w.heap.size := fun h => by
    rcases (HF.out _).1 h with h | h
    · have := hOx _ h; omega
    · have := hOy _ h; omega
  have hXs : w.heap.size < (w.alloc (.cells #[x.p, y.p] 374)).heap.size := hX.lt
  generalize w.alloc (.cells #[x.p, y.p] 374) = w1 at hX hkp H1' H2' hXs ⊢
  obtain ⟨X, hXe⟩ : ∃ X, w.heap.size = X := ⟨_, rfl⟩
  rw [hXe] at hX hXF hXs ⊢
  have HXE := hidden hXe
  have HX1 := hidden hX
  clear hfrm hXe hX H1 H2 hOx hOy
  go_loopw [1] (fun vn wr => ∃ (q mx my : Int), vn = .int .i64 q ∧ inI q ∧ n ≤ q ∧ mx ≤ q ∧ my ≤ q ∧ Hid (∀ z ∈ E, n ≤ z → q ≤ z) ∧ CurOf S wr x.p (geL mx x.E) x.F ∧ CurOf S wr y.p (geL my y.E) y.F ∧ Whole1 wr X 374 #[x.p, y.p] ∧ Kp F w wr) (fun vn _ => (9223372036854775807 - intOf vn).toNat)
  case atStart => exact ⟨n, -9223372036854775808, -9223372036854775808, rfl, hn, Int.le_refl _, hn.1, hn.1, hidden (fun _ _ h => h), H1'.out, H2'.out, HX1.out, hkp⟩
  case round =>
    clear hkp H1' H2' HX1
    obtain ⟨q, mx, my, rfl, hq, hnq, hmx, hmy, hno, hc1, hc2, hX, hkp⟩ := hrel
    have c0 := hX.cell 0
    have gx : geL q (geL mx x.E) = geL q x.E := by rw [geL_geL, Int.max_eq_left hmx]
    have S1 := hP wr x.p (geL mx x.E) x.F q hc1 hq
    rw [gx] at S1
    have HS1 := hidden S1
    have HOX := hidden (cur_old hO _ _ _ _ hc1)
    have HOY := hidden (cur_old hO _ _ _ _ hc2)
    have HC2 := hidden hc2
    have HXX := hidden hX
    have HKP := hidden hkp
    clear S1 gx hc1 hc2 hX hkp
    have hrx := rising_geL HX.out.1 q
    cases hL : geL q x.E with
    | nil =>
      rw [hL] at HS1
      have HLn := hidden hL
      have HE0 : Hid (geL n E = []) := List.eq_nil_iff_forall_not_mem.2 fun z hz => by
        obtain ⟨z1, z2⟩ := mem_geL.1 hz
        have : z ∈ geL q x.E := mem_geL.2 ⟨((HM.out z).1 z1).1, hno.out z z1 z2⟩
        rw [hL] at this; simp at this
      clear hL hrx
      go_wp2_with fail
      refine HS1.out.mono ?_
      rintro e w2 ⟨he, hc1, hk2⟩
      obtain rfl : e = .returned (.tuple #[.int .i64 0, .bool false]) := he
      have hc2 := cur_frame hF _ _ _ _ _ HC2.out hk2.size fun k hk => hk2.block k (HOY.out k hk) fun h => HD.out k ⟨h, hk⟩
      have hkF : Kp F wr w2 := hk2.wider fun k hk => (HF.out k).2 (.inl hk)
      have hfin := wo_nil HD.out HF.out hc1 hc2
      have HFin := hidden hfin
      have HKF := hidden (HKP.out.trans hkF)
      clear hc1 hc2 hk2 hkF hfin HS1
      go_wp2_with fail
      go_ret2
      rw [HE0.out]
      exact ⟨rfl, HFin.out, HKF.out⟩
    | cons b r =>
      rw [hL] at HS1
      have HLn := hidden hL
      have HLE := hidden (head_least hrx hL)
      have hbm := mem_geL.1 (show b ∈ geL q x.E by rw [hL]; simp)
      have hbI := HX.out.2 b hbm.1
      have HBX := hidden hbm.1
      have hqb := hbm.2
      have hno2 : Hid (∀ z ∈ E, n ≤ z → b ≤ z) := fun z z1 z2 => HLE.out z (mem_geL.2 ⟨((HM.out z).1 z1).1, hno.out z z1 z2⟩)
      clear hL hrx hbm
      go_wp2_with fail
      refine HS1.out.mono ?_
      rintro e w2 ⟨he, hc1, hk2⟩
      obtain rfl : e = .returned (.tuple #[.int .i64 b, .bool true]) := he
      have hc2 := cur_frame hF _ _ _ _ _ HC2.out hk2.size fun k hk => hk2.block k (HOY.out k hk) fun h => HD.out k ⟨h, hk⟩
      have hkF : Kp F wr w2 := hk2.wider fun k hk => (HF.out k).2 (.inl hk)
      have HC1 := hidden (show CurOf S w2 x.p (geL q x.E) x.F by rw [HLn.out]; exact hc1)
      have hX2 := whole_keep HXX.out (hkF.block X HXX.out.lt hXF)
      have c1 := hX2.cell 1
      have gy : geL b (geL my y.E) = geL b y.E := by rw [geL_geL, Int.max_eq_left (by omega)]
      have S2 := hP w2 y.p (geL my y.E) y.F b hc2 hbI
      rw [gy] at S2
      have HS2 := hidden S2
      have HXX2 := hidden hX2
      have HKP2 := hidden (HKP.out.trans hkF)
      have HOX2 := hidden (fun k hk => Nat.lt_of_lt_of_le (HOX.out k hk) hk2.size)
      clear S2 gy hc2 hX2 hkF hc1 hk2 HS1 HC2 HXX HKP HOX HOY c0
      have HFN := hidden (fun (w3 : World) (h1 : CurOf S w3 x.p (geL q x.E) x.F) (h2 : CurOf S w3 y.p (geL b y.E) y.F) => wo_fin HE.out HM.out HD.out HF.out hnq hno.out HLE.out h1 h2)
      have HC1N := hidden (fun (w3 : World) (hk3 : Kp y.F w2 w3) => cur_frame hF _ _ _ _ _ HC1.out hk3.size fun k hk => hk3.block k (HOX2.out k hk) fun h => HD.out k ⟨hk, h⟩)
      have HKN := hidden (fun (w3 : World) (hk3 : Kp y.F w2 w3) => HKP2.out.trans (hk3.wider fun k hk => (HF.out k).2 (.inr hk)))
      cases hM : geL b y.E with
      | nil =>
        rw [hM] at HS2
        have HMn := hidden hM
        have hbE : Hid (b ∈ E) := (HM.out b).2 ⟨HBX.out, fun h => by
          have : b ∈ geL b y.E := mem_geL.2 ⟨h, Int.le_refl _⟩
          rw [hM] at this; simp at this⟩
        clear hM
        go_wp2_with fail
        refine HS2.out.mono ?_
        rintro e w3 ⟨he, hc3, hk3⟩
        obtain rfl : e = .returned (.tuple #[.int .i64 0, .bool false]) := he
        have hfin := HFN.out w3 (HC1N.out w3 hk3) (by rw [HMn.out]; exact hc3)
        have HFin := hidden (And.intro hfin (HKN.out w3 hk3))
        clear hc3 hk3 hfin HS2
        go_wp2_with fail
        go_ret2
        exact ⟨(head_is HE.out hbE.out (by omega) hno2.out).symm, HFin.out.1, HFin.out.2⟩
      | cons d s =>
        rw [hM] at HS2
        have HMn := hidden hM
        have HMle := hidden (head_least (rising_geL HY.out.1 b) hM)
        have hdm := mem_geL.1 (show d ∈ geL b y.E by rw [hM]; simp)
        have HDY := hidden hdm.1
        have hbd := hdm.2
        clear hM hdm
        by_cases hdb : d = b
        · subst hdb
          have hdec : (d != d) = false := by simp
          by_cases hmx : d = 9223372036854775807
          · have HE0 : Hid (geL n E = []) := List.eq_nil_iff_forall_not_mem.2 fun z hz => by
              obtain ⟨z1, z2⟩ := mem_geL.1 hz
              have h1 := hno2.out z z1 z2
              have h2 := (HX.out.2 z ((HM.out z).1 z1).1).2
              have e : z = d := by omega
              subst e
              exact ((HM.out z).1 z1).2 HDY.out
            have hmb : (d == 9223372036854775807) = true := by simpa using hmx
            have HMX := hidden hmx
            clear hmx
            go_wp2_with fail
            refine HS2.out.mono ?_
            rintro e w3 ⟨he, hc3, hk3⟩
            obtain rfl : e = .returned (.tuple #[.int .i64 d, .bool true]) := he
            have hfin := HFN.out w3 (HC1N.out w3 hk3) (by rw [HMn.out]; exact hc3)
            have HFin := hidden (And.intro hfin (HKN.out w3 hk3))
            clear hc3 hk3 hfin HS2
            go_wp2_with fail
            go_ret2
            rw [HE0.out] at HFin ⊢
            exact ⟨rfl, HFin.out.1, HFin.out.2⟩
          · have hno3 : Hid (∀ z ∈ E, n ≤ z → d + 1 ≤ z) := fun z z1 z2 => by
              have h1 := hno2.out z z1 z2
              have h2 : z ≠ d := fun e => ((HM.out z).1 z1).2 (by rw [e]; exact HDY.out)
              omega
            have hd1 : d + 1 ≤ 9223372036854775807 := by have := hbI.2; omega
            have hd0 := hbI.1
            go_wp2_with fail
            refine HS2.out.mono ?_
            rintro e w3 ⟨he, hc3, hk3⟩
            obtain rfl : e = .returned (.tuple #[.int .i64 d, .bool true]) := he
            have hc3' : CurOf S w3 y.p (geL d y.E) y.F := by rw [HMn.out]; exact hc3
            have hx3 := HC1N.out w3 hk3
            have hX3 := whole_keep HXX2.out (hk3.block X HXX2.out.lt fun h => hXF ((HF.out X).2 (.inr h)))
            have HREL := hidden (And.intro hx3 (And.intro hc3' (And.intro hX3 (HKN.out w3 hk3))))
            clear hc3 hk3 hc3' hx3 hX3 HS2
            go_wp2_with fail
            go_roundw
            case rel => exact ⟨d + 1, q, d, by go_num, ⟨by omega, hd1⟩, by omega, by omega, by omega, hno3, HREL.out.1, HREL.out.2.1, HREL.out.2.2.1, HREL.out.2.2.2⟩
            case measure => simp [intOf]; omega
        · have hbE : Hid (b ∈ E) := (HM.out b).2 ⟨HBX.out, fun h => hdb (by
            have := HMle.out b (mem_geL.2 ⟨h, Int.le_refl _⟩); omega)⟩
          have hdec : (d != b) = true := by simpa using hdb
          go_wp2_with fail
          refine HS2.out.mono ?_
          rintro e w3 ⟨he, hc3, hk3⟩
          obtain rfl : e = .returned (.tuple #[.int .i64 d, .bool true]) := he
          have hfin := HFN.out w3 (HC1N.out w3 hk3) (by rw [HMn.out]; exact hc3)
          have HFin := hidden (And.intro hfin (HKN.out w3 hk3))
          clear hc3 hk3 hfin HS2
          go_wp2_with fail
          go_ret2
          exact ⟨(head_is HE.out hbE.out (by omega) hno2.out).symm, HFin.out.1, HFin.out.2⟩
end Go.Proofs.YtbijjjhfekkfaaaGreat

namespace Go.Proofs.YtbijjjhfekkfaaaGreat
set_option maxRecDepth 100000
open Go Go.Shelf Go.Sort Go.RowKit
def lays189_ren : Go.Shelf.Ren := ⟨fun | 189 => 219 | 125 => 179 | 257 => 261 | 128 => 239 | 129 => 240 | 294 => 295 | 295 => 296 | 296 => 297 | 297 => 298 | 298 => 299 | 299 => 300 | 216 => 301 | 300 => 302 | 301 => 303 | 328 => 315 | 329 => 274 | 330 => 275 | 331 => 316 | 332 => 317 | 215 => 318 | 343 => 326 | n => n, fun | 28 => 67 | 3 => 3 | 46 => 256 | 0 => 0 | 51 => 396 | 53 => 110 | 4 => 4 | 183 => 390 | 182 => 389 | 131 => 202 | 5 => 5 | 9 => 9 | 218 => 431 | 222 => 435 | 228 => 453 | 229 => 137 | n => n, fun | n => n⟩
theorem lays189 : Go.Proofs.Lays.n189 Tryz.prog lays189_ren := {
  mixed := by kernel_rfl
  f125 := Tryz.func179.trans (congrArg some (by kernel_rfl))
  f128 := Tryz.func239.trans (congrArg some (by kernel_rfl))
  f129 := Tryz.func240.trans (congrArg some (by kernel_rfl))
  f189 := Tryz.func219.trans (congrArg some (by kernel_rfl))
  f215 := Tryz.func318.trans (congrArg some (by kernel_rfl))
  f216 := Tryz.func301.trans (congrArg some (by kernel_rfl))
  f257 := Tryz.func261.trans (congrArg some (by kernel_rfl))
  f294 := Tryz.func295.trans (congrArg some (by kernel_rfl))
  f295 := Tryz.func296.trans (congrArg some (by kernel_rfl))
  f296 := Tryz.func297.trans (congrArg some (by kernel_rfl))
  f297 := Tryz.func298.trans (congrArg some (by kernel_rfl))
  f298 := Tryz.func299.trans (congrArg some (by kernel_rfl))
  f299 := Tryz.func300.trans (congrArg some (by kernel_rfl))
  f300 := Tryz.func302.trans (congrArg some (by kernel_rfl))
  f301 := Tryz.func303.trans (congrArg some (by kernel_rfl))
  f328 := Tryz.func315.trans (congrArg some (by kernel_rfl))
  f329 := Tryz.func274.trans (congrArg some (by kernel_rfl))
  f330 := Tryz.func275.trans (congrArg some (by kernel_rfl))
  f331 := Tryz.func316.trans (congrArg some (by kernel_rfl))
  f332 := Tryz.func317.trans (congrArg some (by kernel_rfl))
  f343 := Tryz.func326.trans (congrArg some (by kernel_rfl))
  t0 := Tryz.underlying0
  a0 := Tryz.isAgg0
  z0 := Tryz.sizeOf0
  v0 := Tryz.zeroValue0
  t3 := Tryz.underlying3
  a3 := Tryz.isAgg3
  z3 := Tryz.sizeOf3
  v3 := Tryz.zeroValue3
  t4 := Tryz.underlying4
  a4 := Tryz.isAgg4
  z4 := Tryz.sizeOf4
  v4 := Tryz.zeroValue4
  t5 := Tryz.underlying5
  a5 := Tryz.isAgg5
  z5 := Tryz.sizeOf5
  v5 := Tryz.zeroValue5
  t9 := Tryz.underlying9
  a9 := Tryz.isAgg9
  z9 := Tryz.sizeOf9
  v9 := Tryz.zeroValue9
  t28 := Tryz.underlying67
  a28 := Tryz.isAgg67
  z28 := Tryz.sizeOf67
  v28 := Tryz.zeroValue67
  t46 := Tryz.underlying256
  a46 := Tryz.isAgg256
  z46 := Tryz.sizeOf256
  v46 := Tryz.zeroValue256
  t51 := Tryz.underlying396
  a51 := Tryz.isAgg396
  z51 := Tryz.sizeOf396
  v51 := Tryz.zeroValue396
  t53 := Tryz.underlying110
  a53 := Tryz.isAgg110
  z53 := Tryz.sizeOf110
  v53 := Tryz.zeroValue110
  t131 := Tryz.underlying202
  a131 := Tryz.isAgg202
  z131 := Tryz.sizeOf202
  v131 := Tryz.zeroValue202
  t182 := Tryz.underlying389
  a182 := Tryz.isAgg389
  z182 := Tryz.sizeOf389
  v182 := Tryz.zeroValue389
  t183 := Tryz.underlying390
  a183 := Tryz.isAgg390
  z183 := Tryz.sizeOf390
  v183 := Tryz.zeroValue390
  t218 := Tryz.underlying431
  a218 := Tryz.isAgg431
  z218 := Tryz.sizeOf431
  v218 := Tryz.zeroValue431
  t222 := Tryz.underlying435
  a222 := Tryz.isAgg435
  z222 := Tryz.sizeOf435
  v222 := Tryz.zeroValue435
  t228 := Tryz.underlying453
  a228 := Tryz.isAgg453
  z228 := Tryz.sizeOf453
  v228 := Tryz.zeroValue453
  t229 := Tryz.underlying137
  a229 := Tryz.isAgg137
  z229 := Tryz.sizeOf137
  v229 := Tryz.zeroValue137 }
theorem slices_Sort_int (blk off cap : Nat) (zs : List Int) (w : World) (hH : Holds (Value.int .i64) w blk off zs.toArray) (hblk : blk < w.heap.size) (hsz : zs.length < 4611686018427387904) :
    Calls Tryz.prog 219 #[.slice (some ⟨blk, off, none⟩) zs.length cap] w fun e w' =>
      e = .returned (.tuple #[]) ∧ ∃ n os, w' = grow (putRow (Value.int .i64) (Sort.ahead w n) blk off (zs.mergeSort fun x y => decide (x ≤ y)).toArray) os := Any.slices_Sort_int lays189 blk off cap zs w hH hblk hsz
def laysNm215_ren : Go.Shelf.Ren := ⟨fun | 15 => 218 | n => n, fun | 22 => 67 | 3 => 3 | 4 => 4 | n => n, fun | n => n⟩
theorem laysNm215 : Go.Proofs.Lays2.n15 Tryz.prog laysNm215_ren := {
  mixed := by kernel_rfl
  f15 := Tryz.func218.trans (congrArg some (by kernel_rfl))
  t3 := Tryz.underlying3
  a3 := Tryz.isAgg3
  z3 := Tryz.sizeOf3
  v3 := Tryz.zeroValue3
  t4 := Tryz.underlying4
  a4 := Tryz.isAgg4
  z4 := Tryz.sizeOf4
  v4 := Tryz.zeroValue4
  t22 := Tryz.underlying67
  a22 := Tryz.isAgg67
  z22 := Tryz.sizeOf67
  v22 := Tryz.zeroValue67
  i3 := by kernel_rfl }
theorem slices_Clone_int (b off n c : Nat) (zs : List Int) (w : World) (hz : n ≤ zs.length) (hbig : n * 8 ≤ 140737488355328) (hc : ∀ j, j < zs.length → w.cell? ⟨b, off + j, none⟩ = some (.int .i64 (zs.getD j 0))) :
    Calls Tryz.prog 218 #[.slice (some ⟨b, off, none⟩) n c] w fun e w' => ∃ v', e = .returned v' ∧ w'.ownsRow w.heap.size 3 1 v' n ((zs.take n).map (Value.int .i64)) ∧ v' ≠ .slice none 0 0 ∧ Below w.heap.size w w' := Any.slices_Clone_int laysNm215 b off n c zs w hz hbig hc
theorem slices_Clone_int_nil (n c : Nat) (w : World) :
    Calls Tryz.prog 218 #[.slice none n c] w fun e w' => e = .returned (.slice none 0 0) ∧ w' = w := Any.slices_Clone_int_nil laysNm215 n c w
theorem slices_Clone_int_zero (a : Addr) (c : Nat) (w : World) :
    Calls Tryz.prog 218 #[.slice (some a) 0 c] w fun e w' => ∃ v', e = .returned v' ∧ w'.ownsRow w.heap.size 3 1 v' 0 [] ∧ v' ≠ .slice none 0 0 ∧ Below w.heap.size w w' := Any.slices_Clone_int_zero laysNm215 a c w
def laysNm220_ren : Go.Shelf.Ren := ⟨fun | 20 => 220 | n => n, fun | 22 => 67 | 3 => 3 | 4 => 4 | 0 => 0 | n => n, fun | n => n⟩
theorem laysNm220 : Go.Proofs.Lays2.n20 Tryz.prog laysNm220_ren := {
  mixed := by kernel_rfl
  f20 := Tryz.func220.trans (congrArg some (by kernel_rfl))
  t0 := Tryz.underlying0
  a0 := Tryz.isAgg0
  z0 := Tryz.sizeOf0
  v0 := Tryz.zeroValue0
  t3 := Tryz.underlying3
  a3 := Tryz.isAgg3
  z3 := Tryz.sizeOf3
  v3 := Tryz.zeroValue3
  t4 := Tryz.underlying4
  a4 := Tryz.isAgg4
  z4 := Tryz.sizeOf4
  v4 := Tryz.zeroValue4
  t22 := Tryz.underlying67
  a22 := Tryz.isAgg67
  z22 := Tryz.sizeOf67
  v22 := Tryz.zeroValue67
  i3 := by kernel_rfl }
theorem slices_Compact_int (blk off cap : Nat) (zs : List Int) (w : World) (hH : Holds (Value.int .i64) w blk off zs.toArray) (hsz : zs.length ≤ 9223372036854775807) (hcap : zs.length ≤ cap) :
    Calls Tryz.prog 220 #[.slice (some ⟨blk, off, none⟩) zs.length cap] w fun e w' => e = .returned (.slice (some ⟨blk, off, none⟩) (Lib.compact zs).length cap) ∧ ∃ q, w' = putRow (Value.int .i64) (Sort.ahead w q) blk off (Lib.compact zs ++ List.replicate (zs.length - (Lib.compact zs).length) 0).toArray := Any.slices_Compact_int laysNm220 blk off cap zs w hH hsz hcap
theorem slices_Compact_int_empty (a : Option Addr) (cap : Nat) (w : World) :
    Calls Tryz.prog 220 #[.slice a 0 cap] w fun e w' => e = .returned (.slice a 0 cap) ∧ w' = w := Any.slices_Compact_int_empty laysNm220 a cap w
def laysNm237_ren : Go.Shelf.Ren := ⟨fun | 37 => 318 | n => n, fun | 3 => 3 | 4 => 4 | n => n, fun | n => n⟩
theorem laysNm237 : Go.Proofs.Lays2.n37 Tryz.prog laysNm237_ren := {
  mixed := by kernel_rfl
  f37 := Tryz.func318.trans (congrArg some (by kernel_rfl))
  t3 := Tryz.underlying3
  a3 := Tryz.isAgg3
  z3 := Tryz.sizeOf3
  v3 := Tryz.zeroValue3
  t4 := Tryz.underlying4
  a4 := Tryz.isAgg4
  z4 := Tryz.sizeOf4
  v4 := Tryz.zeroValue4 }
def laysNm232_ren : Go.Shelf.Ren := ⟨fun | 32 => 351 | n => n, fun | 3 => 3 | 4 => 4 | n => n, fun | n => n⟩
theorem laysNm232 : Go.Proofs.Lays2.n32 Tryz.prog laysNm232_ren := {
  mixed := by kernel_rfl
  f32 := Tryz.func351.trans (congrArg some (by kernel_rfl))
  t3 := Tryz.underlying3
  a3 := Tryz.isAgg3
  z3 := Tryz.sizeOf3
  v3 := Tryz.zeroValue3
  t4 := Tryz.underlying4
  a4 := Tryz.isAgg4
  z4 := Tryz.sizeOf4
  v4 := Tryz.zeroValue4 }
def laysNm231_ren : Go.Shelf.Ren := ⟨fun | 31 => 301 | 37 => 318 | n => n, fun | 3 => 3 | 4 => 4 | n => n, fun | n => n⟩
theorem laysNm231 : Go.Proofs.Lays2.n31 Tryz.prog laysNm231_ren := {
  mixed := by kernel_rfl
  f31 := Tryz.func301.trans (congrArg some (by kernel_rfl))
  f37 := Tryz.func318.trans (congrArg some (by kernel_rfl))
  t3 := Tryz.underlying3
  a3 := Tryz.isAgg3
  z3 := Tryz.sizeOf3
  v3 := Tryz.zeroValue3
  t4 := Tryz.underlying4
  a4 := Tryz.isAgg4
  z4 := Tryz.sizeOf4
  v4 := Tryz.zeroValue4 }
def laysNm225_ren : Go.Shelf.Ren := ⟨fun | 25 => 350 | 31 => 301 | 32 => 351 | 37 => 318 | n => n, fun | 22 => 67 | 3 => 3 | 4 => 4 | 40 => 256 | 0 => 0 | n => n, fun | n => n⟩
theorem laysNm225 : Go.Proofs.Lays2.n25 Tryz.prog laysNm225_ren := {
  mixed := by kernel_rfl
  f25 := Tryz.func350.trans (congrArg some (by kernel_rfl))
  f31 := Tryz.func301.trans (congrArg some (by kernel_rfl))
  f32 := Tryz.func351.trans (congrArg some (by kernel_rfl))
  f37 := Tryz.func318.trans (congrArg some (by kernel_rfl))
  t0 := Tryz.underlying0
  a0 := Tryz.isAgg0
  z0 := Tryz.sizeOf0
  v0 := Tryz.zeroValue0
  t3 := Tryz.underlying3
  a3 := Tryz.isAgg3
  z3 := Tryz.sizeOf3
  v3 := Tryz.zeroValue3
  t4 := Tryz.underlying4
  a4 := Tryz.isAgg4
  z4 := Tryz.sizeOf4
  v4 := Tryz.zeroValue4
  t22 := Tryz.underlying67
  a22 := Tryz.isAgg67
  z22 := Tryz.sizeOf67
  v22 := Tryz.zeroValue67
  t40 := Tryz.underlying256
  a40 := Tryz.isAgg256
  z40 := Tryz.sizeOf256
  v40 := Tryz.zeroValue256 }
theorem slices_BinarySearch_int (b off n c : Nat) (zs : List Int) (x : Int) (w : World) (hz : n ≤ zs.length) (hbig : n < 4611686018427387904) (hc : ∀ j, j < zs.length → w.cell? ⟨b, off + j, none⟩ = some (.int .i64 (zs.getD j 0))) (hs : (zs.take n).Pairwise (· ≤ ·)) :
    Calls Tryz.prog 350 #[.slice (some ⟨b, off, none⟩) n c, .int .i64 x] w fun e w' => e = .returned (.tuple #[.int .i64 ((zs.take n).countP (· < x) : Nat), .bool ((zs.take n).contains x)]) ∧ ∃ q, w' = w.drewN q := Any.slices_BinarySearch_int laysNm225 b off n c zs x w hz hbig hc hs
theorem slices_Sort_int_none (p : Option Addr) (cap : Nat) (w : World) :
    Calls Tryz.prog 219 #[.slice p 0 cap] w fun e w' => e = .returned (.tuple #[]) ∧ w' = w := Any.slices_Sort_int_none lays189 p cap w
theorem slices_BinarySearch_int_empty (a : Option Addr) (c : Nat) (x : Int) (w : World) :
    Calls Tryz.prog 350 #[.slice a 0 c, .int .i64 x] w fun e w' => e = .returned (.tuple #[.int .i64 0, .bool false]) ∧ w' = w := Any.slices_BinarySearch_int_empty laysNm225 a c x w
end Go.Proofs.YtbijjjhfekkfaaaGreat

namespace Go.Proofs.YtbijjjhfekkfaaaGreat
set_option maxRecDepth 100000
open Go.RowKit Go.Shelf

theorem drop_count : ∀ {E : List Int} (_ : rising E) (n : Int), E.drop (E.countP (fun x => decide (x < n))) = geL n E
  | [], _, _ => rfl
  | e :: E, h, n => by
    obtain ⟨h1, h2⟩ := List.pairwise_cons.1 h
    by_cases he : e < n
    · rw [List.countP_cons_of_pos (by simpa using he), List.drop_succ_cons, drop_count h2 n]
      have hen : ¬ n ≤ e := by omega
      simp [geL, hen]
    · have hz : (e :: E).countP (fun x => decide (x < n)) = 0 := by
        rw [List.countP_eq_zero]
        intro x hx
        rcases List.mem_cons.1 hx with rfl | hx
        · simpa using he
        · have := h1 x hx; simp; omega
      rw [hz, List.drop_zero]
      exact (geL_all fun x hx => by
        rcases List.mem_cons.1 hx with rfl | hx
        · omega
        · have := h1 x hx; omega).symm
theorem ints_at {w : World} {B n : Nat} {A : Option Addr} {E : List Int} (h : Row w B 1 A n (E.map (Value.int .i64))) (hn : 0 < n) : ∃ g o, A = some ⟨g, o, none⟩ ∧ g < B ∧ ∀ j, j < E.length → w.cell? ⟨g, o + j, none⟩ = some (.int .i64 (E.getD j 0)) := by
  obtain ⟨g, o, rfl, hg, hc⟩ := h.at_ hn
  have hl := h.len
  rw [List.length_map] at hl
  refine ⟨g, o, rfl, hg, fun j hj => ?_⟩
  rw [hc j (by omega), List.getElem?_map, List.getElem?_eq_getElem hj]
  simp [List.getD, List.getElem?_eq_getElem hj]

set_option maxHeartbeats 1600000 in
theorem list_seek : SeekOk IsList := by
  rintro w v E F n ⟨lb, A, m, c, rfl, h1, h2, h3, h4, h5, h6, h7, h8, h9⟩ hn
  refine ⟨_, _, 349, .pointer (some ⟨lb, 0, none⟩), rfl, fun w => by kernel_rfl, enters_of Tryz.func349 (by kernel_rfl) rfl, ?_⟩
  have hl := h2.len
  rw [List.length_map, Nat.mul_one] at hl
  have c0 := h1.cell 0
  rcases Nat.eq_zero_or_pos m with h0 | h0
  · subst h0
    obtain rfl : E = [] := List.eq_nil_of_length_eq_zero hl
    have S1 := slices_BinarySearch_int_empty A c n w
    go_enter Tryz.func349, Tryz.ntmps349
    go_wp2_with fail
    refine S1.mono ?_
    rintro e w1 ⟨rfl, rfl⟩
    have f0 := h1.free 0
    go_wp2_with fail
    go_ret2
    exact ⟨rfl, ⟨lb, A, 0, c, rfl, h1.put 0 _, Row.nil, Nat.zero_le _, by omega, fun h => absurd h (by omega), ⟨h6.1, fun k h => absurd h (by omega)⟩, h7, h8, fun k hb => by simpa using h9 k hb⟩, (Kp.refl F w1).put h6.1 0 _⟩
  · obtain ⟨g, o, rfl, hg, hc⟩ := ints_at h2 h0
    have S1 := slices_BinarySearch_int g o m c E n w (by omega) (by omega) hc (by rw [List.take_of_length_le (by omega)]; exact h7.imp fun h => by omega)
    rw [List.take_of_length_le (by omega)] at S1
    have HC := hidden hc
    have HN := hidden (drop_count h7 n)
    have hcl := List.countP_le_length (p := fun x => decide (x < n)) (l := E)
    obtain ⟨i, hi⟩ : ∃ i, E.countP (fun x => decide (x < n)) = i := ⟨_, rfl⟩
    rw [hi] at S1 HN hcl
    clear hc hi
    go_enter Tryz.func349, Tryz.ntmps349
    go_wp2_with fail
    refine S1.mono ?_
    rintro e w1 ⟨rfl, q, rfl⟩
    have f0 := h1.free 0
    have HK : ∀ u, Kp F w ((w.drewN q).setCell ⟨lb, 0, none⟩ u) := fun u => ((Kp.refl F w).drewN q).put h6.1 0 u
    have HW : ∀ u, Whole1 ((w.drewN q).setCell ⟨lb, 0, none⟩ u) lb 372 #[u] := fun u => (h1.drewN q).put 0 u
    have HG := hidden (fun (u : Value) (k : Nat) (hb : F k) => show k < ((w.drewN q).setCell ⟨lb, 0, none⟩ u).heap.size from by simpa using h9 k hb)
    have hlg : lb ≠ g := fun e => h5 h0 ⟨o, by rw [e]⟩
    have i0 : (0 : Int) ≤ (i : Int) := by omega
    have i1 : (i : Int) ≤ (m : Int) := by omega
    have hr : rising (geL n E) := rising_geL h7 n
    have hrI : ∀ x ∈ geL n E, inI x := fun x hx => h8 x (mem_geL.1 hx).1
    by_cases him : i = m
    · have hE0 : geL n E = [] := by rw [← HN.out]; exact List.drop_of_length_le (by omega)
      have HE := hidden hE0
      subst him
      have HFL := hidden h6.1
      have HK2 := hidden HK
      have HW2 := hidden HW
      clear HK HW h6 h5 hr hrI hE0
      by_cases hcm : c = i
      · subst hcm
        go_wp2_with fail
        go_ret2
        rw [HE.out]
        exact ⟨rfl, ⟨lb, some ⟨g, o, none⟩, 0, 0, rfl, by simpa using HW2.out _, Row.nil, Nat.zero_le _, by omega, fun h => absurd h (by omega), ⟨HFL.out, fun k h => absurd h (by omega)⟩, List.Pairwise.nil, by simp, HG.out _⟩, HK2.out _⟩
      · have hci : ¬ c - i = 0 := by omega
        go_wp2_with fail
        go_ret2
        rw [HE.out]
        exact ⟨rfl, ⟨lb, some ⟨g, o + i, none⟩, 0, c - i, rfl, by simpa using HW2.out _, Row.nil, Nat.zero_le _, by omega, fun h => absurd h (by omega), ⟨HFL.out, fun k h => absurd h (by omega)⟩, List.Pairwise.nil, by simp, HG.out _⟩, by simpa using HK2.out _⟩
    · have hci : ¬ c - i = 0 := by omega
      have hil : i < E.length := by omega
      have ci : (w.drewN q).cell? ⟨g, o + i, none⟩ = some (.int .i64 (E.getD i 0)) := HC.out i hil
      have hcut := h2.cut (i := i) (k := m) (by omega) (Nat.le_refl _)
      have HCut := hidden hcut
      have HK2 := hidden HK
      have HW2 := hidden HW
      have hF2 : F lb ∧ ∀ k, 0 < m - i → blockOf (some ⟨g, o + i, none⟩) k → F k := ⟨h6.1, fun k _ ⟨o3, e⟩ => by
        simp only [Option.some.injEq, Addr.mk.injEq] at e
        exact h6.2 k h0 ⟨o, by rw [e.1]⟩⟩
      have hb2 : ¬ blockOf (some ⟨g, o + i, none⟩) lb := fun ⟨o3, e⟩ => by
        simp only [Option.some.injEq, Addr.mk.injEq] at e; exact hlg e.1.symm
      have HF2 := hidden hF2
      have HB2 := hidden hb2
      have HRr := hidden hr
      have HRI := hidden hrI
      have hx : Hid (geL n E = E.getD i 0 :: (geL n E).tail) := by
        have : E.drop i = E.getD i 0 :: E.drop (i + 1) := by rw [List.drop_eq_getElem_cons hil]; simp [List.getD, List.getElem?_eq_getElem hil]
        rw [Hid, ← HN.out, this]; rfl
      have hmi : ¬ m - i = 0 := by omega
      have hmi2 : 0 < m - i := by omega
      generalize E.getD i 0 = x at ci hx
      clear HK HW hF2 hb2 h6 h5 hr hrI hcut
      go_wp2_with fail
      go_ret2
      have hk := HK2.out (.slice (some ⟨g, o + i, none⟩) (m - i) (c - i))
      refine ⟨(congrArg ansL hx.out).symm, ⟨lb, some ⟨g, o + i, none⟩, m - i, c - i, rfl, HW2.out _, ?_, by omega, by omega, fun _ => HB2.out, HF2.out, HRr.out, HRI.out, HG.out _⟩, hk⟩
      have e1 : (geL n E).map (Value.int .i64) = ((E.map (Value.int .i64)).drop (i * 1)).take ((m - i) * 1) := by
        rw [← HN.out, Nat.mul_one, Nat.mul_one, ← List.map_drop, List.take_of_length_le (by rw [List.length_map, List.length_drop]; omega)]
      rw [e1]
      have h9 := HCut.out
      rw [show (some (⟨g, o, none⟩ : Addr)).map (fun a => (⟨a.block, a.off + i * 1, a.spot⟩ : Addr)) = some ⟨g, o + i, none⟩ by simp] at h9
      exact h9.keep1 hk.size fun _ g2 o2 e => by
        simp only [Option.some.injEq, Addr.mk.injEq] at e
        obtain ⟨rfl, _⟩ := e
        exact Below.heap_setCell (w.drewN q) ⟨lb, 0, none⟩ _ g (fun e => hlg e.symm)
end Go.Proofs.YtbijjjhfekkfaaaGreat

namespace Go.Proofs.YtbijjjhfekkfaaaGreat
set_option maxRecDepth 100000
open Go.RowKit Go.Shelf

theorem seek_src : ∀ d, SeekOk (IsSrc d)
  | 0 => list_seek
  | d + 1 => by
    have hP := peek_of (src_frame d) (seek_src d)
    have hA := and_seek (src_frame d) (src_old d) (src_rise d) hP
    have hO := or_seek (src_frame d) (src_old d) (src_rise d) hP
    have hW := wo_seek (src_frame d) (src_old d) (src_rise d) hP
    rintro w v E F n (h | h | h | h) hn
    · obtain ⟨tid, x, f, y, e, q1, q2, q3⟩ := list_seek w v E F n h hn
      exact ⟨tid, x, f, y, e, q1, q2, q3.mono fun e w' ⟨g1, g2, g3⟩ => ⟨g1, .inl g2, g3⟩⟩
    · obtain ⟨tid, x, f, y, e, q1, q2, q3⟩ := hA w v E F n h hn
      exact ⟨tid, x, f, y, e, q1, q2, q3.mono fun e w' ⟨g1, g2, g3⟩ => ⟨g1, .inr (.inl g2), g3⟩⟩
    · obtain ⟨tid, x, f, y, e, q1, q2, q3⟩ := hO w v E F n h hn
      exact ⟨tid, x, f, y, e, q1, q2, q3.mono fun e w' ⟨g1, g2, g3⟩ => ⟨g1, .inr (.inr (.inl g2)), g3⟩⟩
    · obtain ⟨tid, x, f, y, e, q1, q2, q3⟩ := hW w v E F n h hn
      exact ⟨tid, x, f, y, e, q1, q2, q3.mono fun e w' ⟨g1, g2, g3⟩ => ⟨g1, .inr (.inr (.inr g2)), g3⟩⟩
theorem peek_src (d : Nat) : PeekOk (IsSrc d) := peek_of (src_frame d) (seek_src d)
/-- a cursor over a list -/
def IsCur : Src := fun w p E F => ∃ d, CurOf (IsSrc d) w p E F
theorem isCur_frame : FrameOk IsCur := fun _ _ _ _ _ ⟨d, h⟩ hs hk => ⟨d, cur_frame (src_frame d) _ _ _ _ _ h hs hk⟩
theorem isCur_rise : RiseOk IsCur := fun _ _ _ _ ⟨d, h⟩ => cur_rise (src_rise d) _ _ _ _ h
theorem isCur_old : OldOk IsCur := fun _ _ _ _ ⟨d, h⟩ => cur_old (src_old d) _ _ _ _ h
theorem gone_past {E : List Int} (hE : rising E) {fr x : Int} {r : List Int} (h : geL fr E = x :: r) : geL (x + 1) E = r := by
  have hr := rising_geL hE fr
  rw [h] at hr
  obtain ⟨h1, h2⟩ := List.pairwise_cons.1 hr
  refine rising_ext (rising_geL hE _) h2 fun z => ?_
  have hx := mem_geL.1 (show x ∈ geL fr E by rw [h]; simp)
  rw [mem_geL]
  constructor
  · rintro ⟨z1, z2⟩
    have : z ∈ geL fr E := mem_geL.2 ⟨z1, by omega⟩
    rw [h] at this
    rcases List.mem_cons.1 this with e | e
    · omega
    · exact e
  · intro hz
    have := h1 z hz
    have hm := mem_geL.1 (show z ∈ geL fr E by rw [h]; simp [hz])
    exact ⟨hm.1, by omega⟩

set_option maxHeartbeats 1600000 in
theorem seek_cur (p : Value) (E : List Int) (F : Nat → Prop) (n : Int) (w : World) (h : IsCur w p E F) (hn : inI n) :
    Calls Tryz.prog 221 #[p, .int .i64 n] w fun e w' => e = ansL (geL n E) ∧ IsCur w' p (geL n E).tail F ∧ Kp F w w' := by
  obtain ⟨d, h⟩ := h
  have hri := cur_rise (src_rise d) _ _ _ _ h
  have HI := hidden (fun x (hx : x ∈ geL n E) => hri.2 x (mem_geL.1 hx).1)
  have HRr := hidden (rising_geL hri.1 n)
  have HS := hidden (peek_src d w p E F n h hn)
  clear h hri
  generalize geL n E = L at *
  cases L with
  | nil =>
    go_enter Tryz.func221, Tryz.ntmps221
    go_wp2_with fail
    refine HS.out.mono ?_
    rintro e w1 ⟨he, hc, hk⟩
    obtain rfl : e = .returned (.tuple #[.int .i64 0, .bool false]) := he
    rcases hc with ⟨rfl, _, h0⟩ | ⟨b, v, fr, dn, E0, F0, rfl, h1, h2, h3, h4, h5, h6⟩
    · have HK := hidden hk
      go_wp2_with fail
      go_ret2
      exact ⟨rfl, ⟨d, .inl ⟨rfl, rfl, h0⟩⟩, HK.out⟩
    · have f0 := h1.free 2
      have c2 := h1.cell 2
      have HW := hidden (h1.put 2 (.bool true))
      have HK := hidden (hk.put ((h5 b).2 (.inl rfl)) 2 (.bool true))
      have H3 := hidden (src_frame d _ (w1.setCell ⟨b, 2, none⟩ (.bool true)) _ _ _ h3 (by simp) fun k hk' => Below.heap_setCell w1 ⟨b, 2, none⟩ _ k fun e => h2 (by rw [show b = k from e.symm]; exact hk'))
      clear hk h3 h6
      go_wp2_with fail
      go_ret2
      exact ⟨rfl, ⟨d, .inr ⟨b, v, fr, true, E0, F0, rfl, HW.out, h2, H3.out, h4, h5, rfl⟩⟩, HK.out⟩
  | cons x r =>
    have hxI := HI.out x (by simp)
    go_enter Tryz.func221, Tryz.ntmps221
    go_wp2_with fail
    refine HS.out.mono ?_
    rintro e w1 ⟨he, hc, hk⟩
    obtain rfl : e = .returned (.tuple #[.int .i64 x, .bool true]) := he
    rcases hc with ⟨_, h0, _⟩ | ⟨b, v, fr, dn, E0, F0, rfl, h1, h2, h3, h4, h5, h6⟩
    · exact absurd h0 (by simp)
    · cases dn with
      | true => simp at h6
      | false =>
        simp only [Bool.false_eq_true, if_false] at h6
        have hE0 := (src_rise d _ _ _ _ h3).1
        by_cases hmx : x = 9223372036854775807
        · have hr0 : Hid (r = []) := List.eq_nil_iff_forall_not_mem.2 fun z hz => by
            have := (List.pairwise_cons.1 HRr.out).1 z hz
            have := (HI.out z (by simp [hz])).2
            omega
          have hmb : (x == 9223372036854775807) = true := by simpa using hmx
          have f0 := h1.free 2
          have c2 := h1.cell 2
          have HW := hidden (h1.put 2 (.bool true))
          have HK := hidden (hk.put ((h5 b).2 (.inl rfl)) 2 (.bool true))
          have H3 := hidden (src_frame d _ (w1.setCell ⟨b, 2, none⟩ (.bool true)) _ _ _ h3 (by simp) fun k hk' => Below.heap_setCell w1 ⟨b, 2, none⟩ _ k fun e => h2 (by rw [show b = k from e.symm]; exact hk'))
          clear hk h3 h6 hmx
          go_wp2_with fail
          go_ret2
          refine ⟨rfl, ⟨d, .inr ⟨b, v, fr, true, E0, F0, rfl, HW.out, h2, H3.out, h4, h5, ?_⟩⟩, HK.out⟩
          simpa using hr0.out
        · have hg := hidden (gone_past hE0 h6.symm)
          have f0 := h1.free 1
          have c1 := h1.cell 1
          have HW := hidden (h1.put 1 (.int .i64 (x + 1)))
          have HK := hidden (hk.put ((h5 b).2 (.inl rfl)) 1 (.int .i64 (x + 1)))
          have H3 := hidden (src_frame d _ (w1.setCell ⟨b, 1, none⟩ (.int .i64 (x + 1))) _ _ _ h3 (by simp) fun k hk' => Below.heap_setCell w1 ⟨b, 1, none⟩ _ k fun e => h2 (by rw [show b = k from e.symm]; exact hk'))
          have hx0 := hxI.1
          have hx1 := hxI.2
          clear hk h3 h6
          go_wp2_with fail
          go_ret2
          refine ⟨rfl, ⟨d, .inr ⟨b, v, x + 1, false, E0, F0, rfl, HW.out, h2, H3.out, ⟨by omega, by omega⟩, h5, ?_⟩⟩, HK.out⟩
          simpa using hg.out.symm

theorem next_cur (p : Value) (E : List Int) (F : Nat → Prop) (w : World) (h : IsCur w p E F) :
    Calls Tryz.prog 162 #[p] w fun e w' => e = ansL E ∧ IsCur w' p E.tail F ∧ Kp F w w' := by
  have hri := isCur_rise _ _ _ _ h
  have S1 := seek_cur p E F (-9223372036854775808) w h (by unfold inI; decide)
  rw [geL_all fun x hx => (hri.2 x hx).1] at S1
  have HS := hidden S1
  clear S1 hri
  obtain ⟨a, ok, hans⟩ := ansL_two (L := E)
  rw [hans] at HS ⊢
  go_enter Tryz.func162, Tryz.ntmps162
  go_wp2_with fail
  refine HS.out.mono ?_
  rintro e w1 ⟨rfl, h1, h2⟩
  go_wp2_with fail
  go_ret2
  exact ⟨rfl, h1, h2⟩
end Go.Proofs.YtbijjjhfekkfaaaGreat

namespace Go.Proofs.YtbijjjhfekkfaaaGreat
set_option maxRecDepth 100000
open Go.RowKit Go.Shelf

def lenV : Value → Nat
  | .slice _ n _ => n
  | _ => 0
theorem info_int : (Tryz.prog.info? 3).map (fun i => (i.zero, i.size, i.bytes)) = some (some (.int .i64 0), 1, 8) := by kernel_rfl
theorem own_kp {w w' : World} {base : Nat} {e : TypeId} {size n : Nat} {v : Value} {xs : List Value} {F : Nat → Prop} (h : w.ownsRow base e size v n xs) (hk : Kp F w w') (hF : ∀ k, F k → k < base) : w'.ownsRow base e size v n xs := by
  refine ⟨h.1, ?_⟩
  rcases h.2 with h0 | ⟨g, cap, cur, h1, h2, h3, h4⟩
  · exact .inl h0
  · refine .inr ⟨g, cap, cur, h1, h2, ?_, h4⟩
    have hlt : g < w.heap.size := (Array.getElem?_eq_some_iff.1 h3).1
    exact (hk.block g hlt fun h => by have := hF g h; omega).trans h3
theorem kp_grown {F : Nat → Prop} {a w w' : World} {row : Option Nat} (h : Kp F a w) (k : w.grownBy w' row) (hr : ∀ g, row = some g → a.heap.size ≤ g) : Kp F a w' :=
  ⟨k.os.trans h.os, k.tape.trans h.tape, k.output.trans h.output, Nat.le_trans h.size k.size, fun i hi hn => (k.block i (Nat.lt_of_lt_of_le hi h.size) fun e => by have := hr i e.symm; omega).trans (h.block i hi hn)⟩

set_option maxHeartbeats 1600000 in
theorem rest_cur (p : Value) (E : List Int) (F : Nat → Prop) (w : World) (h : IsCur w p E F) (hl : E.length * 8 ≤ 140737488355328) :
    Calls Tryz.prog 88 #[p] w fun e w' => ∃ v, e = .returned v ∧ w'.ownsRow w.heap.size 3 1 v E.length (E.map (Value.int .i64)) ∧ IsCur w' p [] F ∧ Kp F w w' := by
  obtain ⟨i0, hi, hz0, hz1, hz2⟩ := info_parts info_int
  have HO := hidden (isCur_old _ _ _ _ h)
  have HS := hidden (next_cur p E F w h)
  clear h
  go_enter Tryz.func88, Tryz.ntmps88
  obtain ⟨a, ok, hans⟩ := ansL_two (L := E)
  have HA := hidden hans
  rw [hans] at HS
  clear hans
  go_wp2_with fail
  refine HS.out.mono ?_
  rintro e w1 ⟨rfl, hc, hk⟩
  have HC := hidden hc
  have HK := hidden hk
  clear hc hk HS
  go_wp2_with fail
  go_loopw [3, 4, 5] (fun vo vx vk wr => ∃ (D R : List Int) (v : Value) (x : Int) (ok : Bool), v = vo ∧ vx = .int .i64 x ∧ vk = .bool ok ∧ Hid (E = D ++ R) ∧ Hid (ansL R = .returned (.tuple #[.int .i64 x, .bool ok])) ∧ wr.ownsRow w.heap.size 3 1 v D.length (D.map (Value.int .i64)) ∧ IsCur wr p R.tail F ∧ Kp F w wr ∧ E.length - D.length = R.length ∧ D.length ≤ E.length) (fun vo _ _ _ => E.length - lenV vo)
  case atStart => exact ⟨[], E, _, a, ok, rfl, rfl, rfl, rfl, HA, World.ownsRow_nil _ _ _ _, HC.out, HK.out, by simp, by simp⟩
  case round =>
    clear HA HC HK
    obtain ⟨D, R, v, x, ok, rfl, rfl, rfl, hE, hA, hown, hc, hk, hlen, hle⟩ := hrel
    cases R with
    | nil =>
      simp only [ansL, Ending.returned.injEq, Value.tuple.injEq, Array.mk.injEq, List.cons.injEq, Value.int.injEq, Value.bool.injEq, true_and, and_true] at hA
      obtain ⟨rfl, rfl⟩ := hA.out
      have HE := hidden (show E = D by rw [hE.out]; simp)
      have HC := hidden hc
      have HK := hidden hk
      have HW := hidden hown
      clear hE hA hc hk hown
      go_wp2_with fail
      go_ret
      rw [HE.out]
      exact ⟨_, rfl, HW.out, HC.out, HK.out⟩
    | cons y r =>
      have hya : Value.int .i64 y = .int .i64 x ∧ Value.bool true = .bool ok := by
        have := hA.out
        simp only [ansL, Ending.returned.injEq, Value.tuple.injEq, Array.mk.injEq, List.cons.injEq, and_true] at this
        exact this
      simp only [Value.int.injEq, Value.bool.injEq, true_and] at hya
      obtain ⟨rfl, rfl⟩ := hya
      have hbs := hk.size
      have HKP := hidden hk
      have HC := hidden hc
      have hlE : D.length + 1 ≤ E.length := by simp at hlen; omega
      have hE2 := hidden (show E = (D ++ [y]) ++ r by rw [hE.out]; simp)
      obtain ⟨A4, c4, rfl, _, _⟩ := own_shape hown
      clear hA hE hk hc
      have hfr := Row.fresh wr 3 1 1 [.int .i64 y] rfl
      go_wp2_with (at_builtin; refine wpList_app _ rfl _ _ 67 rfl w.heap.size 3 i0 _ 1 8 Tryz.underlying67 hi hz0 hz1 hz2 rfl (by decide) _ _ _ rfl (hown.alloc _) _ _ _ _ _ rfl hfr (by simp [Value.oneCell']) (by unfold maxLen; omega) (by omega) (by simp; omega) ?_; intro v1 w3 hown3 hg3 hat3)
      have hcs : D.map (Value.int .i64) ++ [.int .i64 y] = (D ++ [y]).map (Value.int .i64) := by simp
      rw [hcs] at hown3
      have hk3 : Kp F w w3 := kp_grown (HKP.out.alloc _) hg3 (fun g hg => (hown.lt g hg).1)
      have hc3 : IsCur w3 p r F := isCur_frame _ _ _ _ _ HC.out (by have := hg3.size; simp at this; omega) fun k hk' => by
        have h1 := HO.out k hk'
        exact (hg3.block k (by simp; omega) fun e => by have := (hown.lt k e.symm).1; omega).trans (Below.heap_alloc wr _ k (by omega))
      obtain ⟨A5, c5, rfl, _, _⟩ := own_shape hown3
      have S2 := next_cur p r F w3 hc3
      obtain ⟨a2, ok2, hans2⟩ := ansL_two (L := r)
      have HA2 := hidden hans2
      rw [hans2] at S2
      have HS2 := hidden S2
      have HW3 := hidden hown3
      have HK3 := hidden hk3
      clear S2 hans2 hown hown3 hg3 hat3 hcs hfr hk3 hc3
      go_wp2_with fail
      refine HS2.out.mono ?_
      rintro e w4 ⟨rfl, hc4, hk4⟩
      have hown4 := own_kp HW3.out hk4 HO.out
      have HK4 := hidden (HK3.out.trans hk4)
      have HC4 := hidden hc4
      have HW4 := hidden hown4
      clear hc4 hk4 hown4 HS2
      go_wp2_with fail
      go_roundw
      case rel => exact ⟨D ++ [y], r, _, a2, ok2, rfl, rfl, rfl, hE2, HA2, by rw [List.length_append]; exact HW4.out, HC4.out, HK4.out, by simp at hlen ⊢; omega, by simp; omega⟩
      case measure => simp only [lenV]; omega
end Go.Proofs.YtbijjjhfekkfaaaGreat

namespace Go.Proofs.YtbijjjhfekkfaaaGreat
set_option maxRecDepth 100000
open Go.RowKit Go.Shelf

theorem infoInt : (Tryz.prog.info? 3).map (fun i => (i.zero, i.size, i.bytes)) = some (some (.int .i64 0), 1, 8) := by kernel_rfl
set_option maxHeartbeats 1600000 in
theorem cloneInt (A : Option Addr) (n c : Nat) (xs : List Value) (w : World) (hr : Row w w.heap.size 1 A n xs) (h1c : ∀ u ∈ xs, u.oneCell' = true) (hn : n * 8 ≤ 140737488351232) :
    Calls Tryz.prog 218 #[.slice A n c] w fun e w' => ∃ A' c', e = .returned (.slice A' n c') ∧ n ≤ c' ∧ Row w' w'.heap.size 1 A' n xs ∧ Below w.heap.size w w' ∧ (0 < n → w'.ownsRow w.heap.size 3 1 (.slice A' n c') n xs) := by
  obtain ⟨i0, hi, hz0, hz1, hz2⟩ := info_parts infoInt
  have hL := hr.len
  rw [Nat.mul_one] at hL
  have HL := hidden hL
  clear hL
  cases A with
  | none =>
    have hn0 : n = 0 := by
      rcases Nat.eq_zero_or_pos n with h | h
      · exact h
      · obtain ⟨_, _, h', _⟩ := hr.at_ h
        cases h'
    subst hn0
    have h1 := fun w : World => Lib.run_eql_slice_nil (P := Tryz.prog) w 67 3 none 0 c 0 0 Tryz.underlying67
    go_enter Tryz.func218, Tryz.ntmps218
    go_wp2
    go_ret
    exact ⟨none, 0, rfl, Nat.le_refl _, hr, Below.refl _ _, fun h => absurd h (by omega)⟩
  | some a =>
    have h1 := fun w : World => Lib.run_eql_slice_nil (P := Tryz.prog) w 67 3 (some a) n c 0 0 Tryz.underlying67
    go_enter Tryz.func218, Tryz.ntmps218
    go_wp2_with (at_builtin; refine wpList_clone _ rfl _ _ 67 rfl 3 i0 _ 1 8 Tryz.underlying67 hi hz0 hz1 hz2 rfl (by decide) _ rfl w.heap.size _ _ _ _ rfl (hr.alloc (Nat.le_refl _) _) h1c (by unfold maxLen; omega) (by omega) ?_; intro v1 w1 hg1 hown1)
    go_ret
    have hb1 : Below w.heap.size w w1 := ((Below.refl _ _).alloc (Nat.le_refl _) _).grown hg1 (by simp) (fun j hj => by cases hj)
    rcases hown1 with ⟨rfl, rfl⟩ | hown1
    · have hl0 : xs = [] := List.eq_nil_of_length_eq_zero HL.out
      subst hl0
      exact ⟨_, 0, rfl, Nat.le_refl _, Row.nil, hb1, fun h => absurd h (by omega)⟩
    · obtain ⟨A1, c1, rfl, hc1, hr1⟩ := own_shape hown1
      exact ⟨A1, c1, rfl, hc1, hr1, hb1, fun _ => ⟨hown1.1, hown1.2.imp id fun ⟨g, cap, cur, h1, h2, h3⟩ => ⟨g, cap, cur, h1, by simp at h2; omega, h3⟩⟩⟩

theorem infoPtr : (Tryz.prog.info? 183).map (fun i => (i.zero, i.size, i.bytes)) = some (some (.pointer none), 1, 8) := by kernel_rfl
set_option maxHeartbeats 1600000 in
theorem clonePtr (A : Option Addr) (n c : Nat) (xs : List Value) (w : World) (hr : Row w w.heap.size 1 A n xs) (h1c : ∀ u ∈ xs, u.oneCell' = true) (hn : n * 8 ≤ 140737488351232) :
    Calls Tryz.prog 161 #[.slice A n c] w fun e w' => ∃ A' c', e = .returned (.slice A' n c') ∧ n ≤ c' ∧ Row w' w'.heap.size 1 A' n xs ∧ Below w.heap.size w w' ∧ (0 < n → w'.ownsRow w.heap.size 183 1 (.slice A' n c') n xs) := by
  obtain ⟨i0, hi, hz0, hz1, hz2⟩ := info_parts infoPtr
  have hL := hr.len
  rw [Nat.mul_one] at hL
  have HL := hidden hL
  clear hL
  cases A with
  | none =>
    have hn0 : n = 0 := by
      rcases Nat.eq_zero_or_pos n with h | h
      · exact h
      · obtain ⟨_, _, h', _⟩ := hr.at_ h
        cases h'
    subst hn0
    have h1 := fun w : World => Lib.run_eql_slice_nil (P := Tryz.prog) w 185 183 none 0 c 0 0 Tryz.underlying185
    go_enter Tryz.func161, Tryz.ntmps161
    go_wp2
    go_ret
    exact ⟨none, 0, rfl, Nat.le_refl _, hr, Below.refl _ _, fun h => absurd h (by omega)⟩
  | some a =>
    have h1 := fun w : World => Lib.run_eql_slice_nil (P := Tryz.prog) w 185 183 (some a) n c 0 0 Tryz.underlying185
    go_enter Tryz.func161, Tryz.ntmps161
    go_wp2_with (at_builtin; refine wpList_clone _ rfl _ _ 185 rfl 183 i0 _ 1 8 Tryz.underlying185 hi hz0 hz1 hz2 rfl (by decide) _ rfl w.heap.size _ _ _ _ rfl (hr.alloc (Nat.le_refl _) _) h1c (by unfold maxLen; omega) (by omega) ?_; intro v1 w1 hg1 hown1)
    go_ret
    have hb1 : Below w.heap.size w w1 := ((Below.refl _ _).alloc (Nat.le_refl _) _).grown hg1 (by simp) (fun j hj => by cases hj)
    rcases hown1 with ⟨rfl, rfl⟩ | hown1
    · have hl0 : xs = [] := List.eq_nil_of_length_eq_zero HL.out
      subst hl0
      exact ⟨_, 0, rfl, Nat.le_refl _, Row.nil, hb1, fun h => absurd h (by omega)⟩
    · obtain ⟨A1, c1, rfl, hc1, hr1⟩ := own_shape hown1
      exact ⟨A1, c1, rfl, hc1, hr1, hb1, fun _ => ⟨hown1.1, hown1.2.imp id fun ⟨g, cap, cur, h1, h2, h3⟩ => ⟨g, cap, cur, h1, by simp at h2; omega, h3⟩⟩⟩
end Go.Proofs.YtbijjjhfekkfaaaGreat
