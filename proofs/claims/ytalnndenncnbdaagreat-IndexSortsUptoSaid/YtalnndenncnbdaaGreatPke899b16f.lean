/- (post.without).seek, walked. The library's contracts at this program's numbers: laid plainly by the kit's lay-plain. -/
import Derived.Test.YtalnndenncnbdaaGreatPk0674c971
import Derived.Test.YtalnndenncnbdaaGreatBase
import Derived.Shelf.Strings.Builder1
import Derived.Shelf.Strings.Builder2
import Derived.Shelf.Small.Utf8
import Derived.Shelf.Small.Bits
import Derived.Shelf.Small.Strs
import Derived.Shelf.Strconv.Itoa0
import Derived.Shelf.Strings.Search1
import Derived.Shelf.Sort.Plain
import Derived.Shelf.Strings.Runes
import Derived.Shelf.Strings.IndexAny
import Derived.Shelf.Strings.AsciiSet
import Derived.Shelf.Strings.IndexAnyAll
import Derived.Ground.Names2Prog
import Derived.Shelf.Slices.Clone
import Derived.Shelf.Slices.CompactI
import Derived.Shelf.Slices.SearchI
import Derived.Shelf.Slices.Cells
import Derived.Shelf.Slices.In.SortNone
import Derived.Shelf.Slices.Empties
import Derived.Ground.SlgnProg
import Derived.Shelf.SlicesE.Clone
import Derived.Ground.SlsfProg
import Derived.Shelf.SlSortCmp.Insertion
namespace Go.Proofs.YtalnndenncnbdaaGreat
set_option maxRecDepth 100000
open Go.RowKit Go.Shelf

theorem wo_fin {S : Src} {w2 : World} {x y : Kid} {E : List Int} {n q b : Int} {F : Nat → Prop} (hE : rising E) (hm : ∀ z, z ∈ E ↔ z ∈ x.E ∧ z ∉ y.E) (hd : ∀ k, ¬ (x.F k ∧ y.F k)) (hF : ∀ k, F k ↔ x.F k ∨ y.F k) (hnq : n ≤ q) (hno : ∀ z ∈ E, n ≤ z → q ≤ z) (hb : ∀ z ∈ geL q x.E, b ≤ z)
    (hx : CurOf S w2 x.p (geL q x.E) x.F) (hy : CurOf S w2 y.p (geL b y.E) y.F) : IsWo S w2 (.iface 224 (.agg #[x.p, y.p])) (geL n E) F := by
  refine ⟨⟨x.p, geL q x.E, x.F⟩, ⟨y.p, geL b y.E, y.F⟩, rfl, hx, hy, hd, hF, rising_geL hE n, fun z => ?_⟩
  rw [mem_geL, hm z]
  constructor
  · rintro ⟨⟨h1, h2⟩, h3⟩
    exact ⟨mem_geL.2 ⟨h1, hno z ((hm z).2 ⟨h1, h2⟩) h3⟩, fun h => h2 (mem_geL.1 h).1⟩
  · rintro ⟨h1, h2⟩
    have := hb z h1
    have h3 := mem_geL.1 h1
    exact ⟨⟨h3.1, fun h => h2 (mem_geL.2 ⟨h, this⟩)⟩, by omega⟩
theorem wo_nil {S : Src} {w2 : World} {x y : Kid} {D : List Int} {F : Nat → Prop} (hd : ∀ k, ¬ (x.F k ∧ y.F k)) (hF : ∀ k, F k ↔ x.F k ∨ y.F k) (hx : CurOf S w2 x.p [] x.F) (hy : CurOf S w2 y.p D y.F) : IsWo S w2 (.iface 224 (.agg #[x.p, y.p])) [] F :=
  ⟨⟨x.p, [], x.F⟩, ⟨y.p, D, y.F⟩, rfl, hx, hy, hd, hF, List.Pairwise.nil, by simp⟩
theorem head_least {L : List Int} {b : Int} {r : List Int} (h : rising L) (e : L = b :: r) : ∀ z ∈ L, b ≤ z := fun z hz => by
  rw [e] at hz h
  rcases List.mem_cons.1 hz with h1 | h1
  · omega
  · have := (List.pairwise_cons.1 h).1 z h1; omega

set_option maxHeartbeats 3200000 in
theorem wo_seek {S : Src} (hF : FrameOk S) (hO : OldOk S) (hR : RiseOk S) (hP : PeekOk S) : SeekOk (IsWo S) := by
  rintro w v E F n ⟨x, y, rfl, h1, h2, h3, h4, h5, h6⟩ hn
  refine ⟨_, _, 250, .agg #[x.p, y.p], rfl, fun w => by kernel_rfl, enters_of Tryz.func250 (by kernel_rfl) rfl, ?_⟩
  have hOx := cur_old hO _ _ _ _ h1
  have hOy := cur_old hO _ _ _ _ h2
  have hRx := cur_rise hR _ _ _ _ h1
  have hRy := cur_rise hR _ _ _ _ h2
  have ex : geL (-9223372036854775808) x.E = x.E := geL_all fun z hz => (hRx.2 z hz).1
  have ey : geL (-9223372036854775808) y.E = y.E := geL_all fun z hz => (hRy.2 z hz).1
  have h1' := h1
  have h2' := h2
  rw [← ex] at h1'
  rw [← ey] at h2'
  have HX := hidden hRx
  have HY := hidden hRy
  have HM := hidden h6
  have HE := hidden h5
  have HF := hidden h4
  have HD := hidden h3
  have H1 := hidden h1'
  have H2 := hidden h2'
  clear h1 h2 h1' h2' ex ey h3 h4 h5 h6 hRx hRy
  go_enter Tryz.func250, Tryz.ntmps250
  go_upto_region 1 with (fail)
  have hX := Whole1.new w 224 #[x.p, y.p]
  have hkp : Kp F w (w.alloc (.cells #[x.p, y.p] 224)) := (Kp.refl _ _).alloc _
  have hfrm : ∀ k, k < w.heap.size → (w.alloc (.cells #[x.p, y.p] 224)).heap[k]? = w.heap[k]? := fun k hk => Below.heap_alloc w _ k hk
  have H1' := hidden (cur_frame hF _ _ _ _ _ H1.out hkp.size fun k hk => hfrm k (hOx k hk))
  have H2' := hidden (cur_frame hF _ _ _ _ _ H2.out hkp.size fun k hk => hfrm k (hOy k hk))
  have hXF : ¬ F w.heap.size := fun h => by
    rcases (HF.out _).1 h with h | h
    · have := hOx _ h; omega
    · have := hOy _ h; omega
  have hXs : w.heap.size < (w.alloc (.cells #[x.p, y.p] 224)).heap.size := hX.lt
  generalize w.alloc (.cells #[x.p, y.p] 224) = w1 at hX hkp H1' H2' hXs ⊢
  obtain ⟨X, hXe⟩ : ∃ X, w.heap.size = X := ⟨_, rfl⟩
  rw [hXe] at hX hXF hXs ⊢
  have HXE := hidden hXe
  have HX1 := hidden hX
  clear hfrm hXe hX H1 H2 hOx hOy
  go_loopw [1] (fun vn wr => ∃ (q mx my : Int), vn = .int .i64 q ∧ inI q ∧ n ≤ q ∧ mx ≤ q ∧ my ≤ q ∧ Hid (∀ z ∈ E, n ≤ z → q ≤ z) ∧ CurOf S wr x.p (geL mx x.E) x.F ∧ CurOf S wr y.p (geL my y.E) y.F ∧ Whole1 wr X 224 #[x.p, y.p] ∧ Kp F w wr) (fun vn _ => (9223372036854775807 - intOf vn).toNat)
  case atStart => exact ⟨n, -9223372036854775808, -9223372036854775808, rfl, hn, Int.le_refl _, hn.1, hn.1, hidden (fun _ _ h => h), H1'.out, H2'.out, HX1.out, hkp⟩
  case round =>
    clear hkp H1' H2' HX1
    obtain ⟨q, mx, my, rfl, hq, hnq, hmx, hmy, hno, hc1, hc2, hX, hkp⟩ := hrel
    have c0 := hX.cell 0
    have gx : geL q (geL mx x.E) = geL q x.E := by rw [geL_geL, Int.max_eq_left hmx]
    have S1 := hP wr x.p (geL mx x.E) x.F q hc1 hq
    rw [gx] at S1
    have HS1 := hidden S1
    have HOX := hidden (cur_old hO _ _ _ _ hc1)
    have HOY := hidden (cur_old hO _ _ _ _ hc2)
    have HC2 := hidden hc2
    have HXX := hidden hX
    have HKP := hidden hkp
    clear S1 gx hc1 hc2 hX hkp
    have hrx := rising_geL HX.out.1 q
    cases hL : geL q x.E with
    | nil =>
      rw [hL] at HS1
      have HLn := hidden hL
      have HE0 : Hid (geL n E = []) := List.eq_nil_iff_forall_not_mem.2 fun z hz => by
        obtain ⟨z1, z2⟩ := mem_geL.1 hz
        have : z ∈ geL q x.E := mem_geL.2 ⟨((HM.out z).1 z1).1, hno.out z z1 z2⟩
        rw [hL] at this; simp at this
      clear hL hrx
      go_wp2_with fail
      refine HS1.out.mono ?_
      rintro e w2 ⟨he, hc1, hk2⟩
      obtain rfl : e = .returned (.tuple #[.int .i64 0, .bool false]) := he
      have hc2 := cur_frame hF _ _ _ _ _ HC2.out hk2.size fun k hk => hk2.block k (HOY.out k hk) fun h => HD.out k ⟨h, hk⟩
      have hkF : Kp F wr w2 := hk2.wider fun k hk => (HF.out k).2 (.inl hk)
      have hfin := wo_nil HD.out HF.out hc1 hc2
      have HFin := hidden hfin
      have HKF := hidden (HKP.out.trans hkF)
      clear hc1 hc2 hk2 hkF hfin HS1
      go_wp2_with fail
      go_ret2
      rw [HE0.out]
      exact ⟨rfl, HFin.out, HKF.out⟩
    | cons b r =>
      rw [hL] at HS1
      have HLn := hidden hL
      have HLE := hidden (head_least hrx hL)
      have hbm := mem_geL.1 (show b ∈ geL q x.E by rw [hL]; simp)
      have hbI := HX.out.2 b hbm.1
      have HBX := hidden hbm.1
      have hqb := hbm.2
      have hno2 : Hid (∀ z ∈ E, n ≤ z → b ≤ z) := fun z z1 z2 => HLE.out z (mem_geL.2 ⟨((HM.out z).1 z1).1, hno.out z z1 z2⟩)
      clear hL hrx hbm
      go_wp2_with fail
      refine HS1.out.mono ?_
      rintro e w2 ⟨he, hc1, hk2⟩
      obtain rfl : e = .returned (.tuple #[.int .i64 b, .bool true]) := he
      have hc2 := cur_frame hF _ _ _ _ _ HC2.out hk2.size fun k hk => hk2.block k (HOY.out k hk) fun h => HD.out k ⟨h, hk⟩
      have hkF : Kp F wr w2 := hk2.wider fun k hk => (HF.out k).2 (.inl hk)
      have HC1 := hidden (show CurOf S w2 x.p (geL q x.E) x.F by rw [HLn.out]; exact hc1)
      have hX2 := whole_keep HXX.out (hkF.block X HXX.out.lt hXF)
      have c1 := hX2.cell 1
      have gy : geL b (geL my y.E) = geL b y.E := by rw [geL_geL, Int.max_eq_left (by omega)]
      have S2 := hP w2 y.p (geL my y.E) y.F b hc2 hbI
      rw [gy] at S2
      have HS2 := hidden S2
      have HXX2 := hidden hX2
      have HKP2 := hidden (HKP.out.trans hkF)
      have HOX2 := hidden (fun k hk => Nat.lt_of_lt_of_le (HOX.out k hk) hk2.size)
      clear S2 gy hc2 hX2 hkF hc1 hk2 HS1 HC2 HXX HKP HOX HOY c0
      have HFN := hidden (fun (w3 : World) (h1 : CurOf S w3 x.p (geL q x.E) x.F) (h2 : CurOf S w3 y.p (geL b y.E) y.F) => wo_fin HE.out HM.out HD.out HF.out hnq hno.out HLE.out h1 h2)
      have HC1N := hidden (fun (w3 : World) (hk3 : Kp y.F w2 w3) => cur_frame hF _ _ _ _ _ HC1.out hk3.size fun k hk => hk3.block k (HOX2.out k hk) fun h => HD.out k ⟨hk, h⟩)
      have HKN := hidden (fun (w3 : World) (hk3 : Kp y.F w2 w3) => HKP2.out.trans (hk3.wider fun k hk => (HF.out k).2 (.inr hk)))
      cases hM : geL b y.E with
      | nil =>
        rw [hM] at HS2
        have HMn := hidden hM
        have hbE : Hid (b ∈ E) := (HM.out b).2 ⟨HBX.out, fun h => by
          have : b ∈ geL b y.E := mem_geL.2 ⟨h, Int.le_refl _⟩
          rw [hM] at this; simp at this⟩
        clear hM
        go_wp2_with fail
        refine HS2.out.mono ?_
        rintro e w3 ⟨he, hc3, hk3⟩
        obtain rfl : e = .returned (.tuple #[.int .i64 0, .bool false]) := he
        have hfin := HFN.out w3 (HC1N.out w3 hk3) (by rw [HMn.out]; exact hc3)
        have HFin := hidden (And.intro hfin (HKN.out w3 hk3))
        clear hc3 hk3 hfin HS2
        go_wp2_with fail
        go_ret2
        exact ⟨(head_is HE.out hbE.out (by omega) hno2.out).symm, HFin.out.1, HFin.out.2⟩
      | cons d s =>
        rw [hM] at HS2
        have HMn := hidden hM
        have HMle := hidden (head_least (rising_geL HY.out.1 b) hM)
        have hdm := mem_geL.1 (show d ∈ geL b y.E by rw [hM]; simp)
        have HDY := hidden hdm.1
        have hbd := hdm.2
        clear hM hdm
        by_cases hdb : d = b
        · subst hdb
          have hdec : (d != d) = false := by simp
          by_cases hmx : d = 9223372036854775807
          · have HE0 : Hid (geL n E = []) := List.eq_nil_iff_forall_not_mem.2 fun z hz => by
              obtain ⟨z1, z2⟩ := mem_geL.1 hz
              have h1 := hno2.out z z1 z2
              have h2 := (HX.out.2 z ((HM.out z).1 z1).1).2
              have e : z = d := by omega
              subst e
              exact ((HM.out z).1 z1).2 HDY.out
            have hmb : (d == 9223372036854775807) = true := by simpa using hmx
            have HMX := hidden hmx
            clear hmx
            go_wp2_with fail
            refine HS2.out.mono ?_
            rintro e w3 ⟨he, hc3, hk3⟩
            obtain rfl : e = .returned (.tuple #[.int .i64 d, .bool true]) := he
            have hfin := HFN.out w3 (HC1N.out w3 hk3) (by rw [HMn.out]; exact hc3)
            have HFin := hidden (And.intro hfin (HKN.out w3 hk3))
            clear hc3 hk3 hfin HS2
            go_wp2_with fail
            go_ret2
            rw [HE0.out] at HFin ⊢
            exact ⟨rfl, HFin.out.1, HFin.out.2⟩
          · have hno3 : Hid (∀ z ∈ E, n ≤ z → d + 1 ≤ z) := fun z z1 z2 => by
              have h1 := hno2.out z z1 z2
              have h2 : z ≠ d := fun e => ((HM.out z).1 z1).2 (by rw [e]; exact HDY.out)
              omega
            have hd1 : d + 1 ≤ 9223372036854775807 := by have := hbI.2; omega
            have hd0 := hbI.1
            go_wp2_with fail
            refine HS2.out.mono ?_
            rintro e w3 ⟨he, hc3, hk3⟩
            obtain rfl : e = .returned (.tuple #[.int .i64 d, .bool true]) := he
            have hc3' : CurOf S w3 y.p (geL d y.E) y.F := by rw [HMn.out]; exact hc3
            have hx3 := HC1N.out w3 hk3
            have hX3 := whole_keep HXX2.out (hk3.block X HXX2.out.lt fun h => hXF ((HF.out X).2 (.inr h)))
            have HREL := hidden (And.intro hx3 (And.intro hc3' (And.intro hX3 (HKN.out w3 hk3))))
            clear hc3 hk3 hc3' hx3 hX3 HS2
            go_wp2_with fail
            go_roundw
            case rel => exact ⟨d + 1, q, d, by go_num, ⟨by omega, hd1⟩, by omega, by omega, by omega, hno3, HREL.out.1, HREL.out.2.1, HREL.out.2.2.1, HREL.out.2.2.2⟩
            case measure => simp [intOf]; omega
        · have hbE : Hid (b ∈ E) := (HM.out b).2 ⟨HBX.out, fun h => hdb (by
            have := HMle.out b (mem_geL.2 ⟨h, Int.le_refl _⟩); omega)⟩
          have hdec : (d != b) = true := by simpa using hdb
          go_wp2_with fail
          refine HS2.out.mono ?_
          rintro e w3 ⟨he, hc3, hk3⟩
          obtain rfl : e = .returned (.tuple #[.int .i64 d, .bool true]) := he
          have hfin := HFN.out w3 (HC1N.out w3 hk3) (by rw [HMn.out]; exact hc3)
          have HFin := hidden (And.intro hfin (HKN.out w3 hk3))
          clear hc3 hk3 hfin HS2
          go_wp2_with fail
          go_ret2
          exact ⟨(head_is HE.out hbE.out (by omega) hno2.out).symm, HFin.out.1, HFin.out.2⟩
end Go.Proofs.YtalnndenncnbdaaGreat

namespace Go.Proofs.YtalnndenncnbdaaGreat
set_option maxRecDepth 100000
open Go Go.Shelf Go.Sort Go.RowKit
def lays189_ren : Go.Shelf.Ren := ⟨fun | 189 => 126 | 125 => 85 | 257 => 166 | 128 => 137 | 129 => 138 | 294 => 194 | 295 => 195 | 296 => 196 | 297 => 197 | 298 => 198 | 299 => 199 | 216 => 200 | 300 => 201 | 301 => 202 | 328 => 214 | 329 => 169 | 330 => 170 | 331 => 215 | 332 => 216 | 215 => 217 | 343 => 221 | n => n, fun | 28 => 49 | 3 => 3 | 46 => 150 | 0 => 0 | 51 => 203 | 53 => 143 | 4 => 4 | 183 => 197 | 182 => 196 | 131 => 35 | 5 => 5 | 9 => 9 | 218 => 243 | 222 => 247 | 228 => 279 | 229 => 122 | n => n, fun | n => n⟩
theorem lays189 : Go.Proofs.Lays.n189 Tryz.prog lays189_ren := {
  mixed := by kernel_rfl
  f125 := Tryz.func85.trans (congrArg some (by kernel_rfl))
  f128 := Tryz.func137.trans (congrArg some (by kernel_rfl))
  f129 := Tryz.func138.trans (congrArg some (by kernel_rfl))
  f189 := Tryz.func126.trans (congrArg some (by kernel_rfl))
  f215 := Tryz.func217.trans (congrArg some (by kernel_rfl))
  f216 := Tryz.func200.trans (congrArg some (by kernel_rfl))
  f257 := Tryz.func166.trans (congrArg some (by kernel_rfl))
  f294 := Tryz.func194.trans (congrArg some (by kernel_rfl))
  f295 := Tryz.func195.trans (congrArg some (by kernel_rfl))
  f296 := Tryz.func196.trans (congrArg some (by kernel_rfl))
  f297 := Tryz.func197.trans (congrArg some (by kernel_rfl))
  f298 := Tryz.func198.trans (congrArg some (by kernel_rfl))
  f299 := Tryz.func199.trans (congrArg some (by kernel_rfl))
  f300 := Tryz.func201.trans (congrArg some (by kernel_rfl))
  f301 := Tryz.func202.trans (congrArg some (by kernel_rfl))
  f328 := Tryz.func214.trans (congrArg some (by kernel_rfl))
  f329 := Tryz.func169.trans (congrArg some (by kernel_rfl))
  f330 := Tryz.func170.trans (congrArg some (by kernel_rfl))
  f331 := Tryz.func215.trans (congrArg some (by kernel_rfl))
  f332 := Tryz.func216.trans (congrArg some (by kernel_rfl))
  f343 := Tryz.func221.trans (congrArg some (by kernel_rfl))
  t0 := Tryz.underlying0
  a0 := Tryz.isAgg0
  z0 := Tryz.sizeOf0
  v0 := Tryz.zeroValue0
  t3 := Tryz.underlying3
  a3 := Tryz.isAgg3
  z3 := Tryz.sizeOf3
  v3 := Tryz.zeroValue3
  t4 := Tryz.underlying4
  a4 := Tryz.isAgg4
  z4 := Tryz.sizeOf4
  v4 := Tryz.zeroValue4
  t5 := Tryz.underlying5
  a5 := Tryz.isAgg5
  z5 := Tryz.sizeOf5
  v5 := Tryz.zeroValue5
  t9 := Tryz.underlying9
  a9 := Tryz.isAgg9
  z9 := Tryz.sizeOf9
  v9 := Tryz.zeroValue9
  t28 := Tryz.underlying49
  a28 := Tryz.isAgg49
  z28 := Tryz.sizeOf49
  v28 := Tryz.zeroValue49
  t46 := Tryz.underlying150
  a46 := Tryz.isAgg150
  z46 := Tryz.sizeOf150
  v46 := Tryz.zeroValue150
  t51 := Tryz.underlying203
  a51 := Tryz.isAgg203
  z51 := Tryz.sizeOf203
  v51 := Tryz.zeroValue203
  t53 := Tryz.underlying143
  a53 := Tryz.isAgg143
  z53 := Tryz.sizeOf143
  v53 := Tryz.zeroValue143
  t131 := Tryz.underlying35
  a131 := Tryz.isAgg35
  z131 := Tryz.sizeOf35
  v131 := Tryz.zeroValue35
  t182 := Tryz.underlying196
  a182 := Tryz.isAgg196
  z182 := Tryz.sizeOf196
  v182 := Tryz.zeroValue196
  t183 := Tryz.underlying197
  a183 := Tryz.isAgg197
  z183 := Tryz.sizeOf197
  v183 := Tryz.zeroValue197
  t218 := Tryz.underlying243
  a218 := Tryz.isAgg243
  z218 := Tryz.sizeOf243
  v218 := Tryz.zeroValue243
  t222 := Tryz.underlying247
  a222 := Tryz.isAgg247
  z222 := Tryz.sizeOf247
  v222 := Tryz.zeroValue247
  t228 := Tryz.underlying279
  a228 := Tryz.isAgg279
  z228 := Tryz.sizeOf279
  v228 := Tryz.zeroValue279
  t229 := Tryz.underlying122
  a229 := Tryz.isAgg122
  z229 := Tryz.sizeOf122
  v229 := Tryz.zeroValue122 }
theorem slices_Sort_int (blk off cap : Nat) (zs : List Int) (w : World) (hH : Holds (Value.int .i64) w blk off zs.toArray) (hblk : blk < w.heap.size) (hsz : zs.length < 4611686018427387904) :
    Calls Tryz.prog 126 #[.slice (some ⟨blk, off, none⟩) zs.length cap] w fun e w' =>
      e = .returned (.tuple #[]) ∧ ∃ n os, w' = grow (putRow (Value.int .i64) (Sort.ahead w n) blk off (zs.mergeSort fun x y => decide (x ≤ y)).toArray) os := Any.slices_Sort_int lays189 blk off cap zs w hH hblk hsz
def laysNm215_ren : Go.Shelf.Ren := ⟨fun | 15 => 125 | n => n, fun | 22 => 49 | 3 => 3 | 4 => 4 | n => n, fun | n => n⟩
theorem laysNm215 : Go.Proofs.Lays2.n15 Tryz.prog laysNm215_ren := {
  mixed := by kernel_rfl
  f15 := Tryz.func125.trans (congrArg some (by kernel_rfl))
  t3 := Tryz.underlying3
  a3 := Tryz.isAgg3
  z3 := Tryz.sizeOf3
  v3 := Tryz.zeroValue3
  t4 := Tryz.underlying4
  a4 := Tryz.isAgg4
  z4 := Tryz.sizeOf4
  v4 := Tryz.zeroValue4
  t22 := Tryz.underlying49
  a22 := Tryz.isAgg49
  z22 := Tryz.sizeOf49
  v22 := Tryz.zeroValue49
  i3 := by kernel_rfl }
theorem slices_Clone_int (b off n c : Nat) (zs : List Int) (w : World) (hz : n ≤ zs.length) (hbig : n * 8 ≤ 140737488355328) (hc : ∀ j, j < zs.length → w.cell? ⟨b, off + j, none⟩ = some (.int .i64 (zs.getD j 0))) :
    Calls Tryz.prog 125 #[.slice (some ⟨b, off, none⟩) n c] w fun e w' => ∃ v', e = .returned v' ∧ w'.ownsRow w.heap.size 3 1 v' n ((zs.take n).map (Value.int .i64)) ∧ v' ≠ .slice none 0 0 ∧ Below w.heap.size w w' := Any.slices_Clone_int laysNm215 b off n c zs w hz hbig hc
theorem slices_Clone_int_nil (n c : Nat) (w : World) :
    Calls Tryz.prog 125 #[.slice none n c] w fun e w' => e = .returned (.slice none 0 0) ∧ w' = w := Any.slices_Clone_int_nil laysNm215 n c w
theorem slices_Clone_int_zero (a : Addr) (c : Nat) (w : World) :
    Calls Tryz.prog 125 #[.slice (some a) 0 c] w fun e w' => ∃ v', e = .returned v' ∧ w'.ownsRow w.heap.size 3 1 v' 0 [] ∧ v' ≠ .slice none 0 0 ∧ Below w.heap.size w w' := Any.slices_Clone_int_zero laysNm215 a c w
def laysNm220_ren : Go.Shelf.Ren := ⟨fun | 20 => 127 | n => n, fun | 22 => 49 | 3 => 3 | 4 => 4 | 0 => 0 | n => n, fun | n => n⟩
theorem laysNm220 : Go.Proofs.Lays2.n20 Tryz.prog laysNm220_ren := {
  mixed := by kernel_rfl
  f20 := Tryz.func127.trans (congrArg some (by kernel_rfl))
  t0 := Tryz.underlying0
  a0 := Tryz.isAgg0
  z0 := Tryz.sizeOf0
  v0 := Tryz.zeroValue0
  t3 := Tryz.underlying3
  a3 := Tryz.isAgg3
  z3 := Tryz.sizeOf3
  v3 := Tryz.zeroValue3
  t4 := Tryz.underlying4
  a4 := Tryz.isAgg4
  z4 := Tryz.sizeOf4
  v4 := Tryz.zeroValue4
  t22 := Tryz.underlying49
  a22 := Tryz.isAgg49
  z22 := Tryz.sizeOf49
  v22 := Tryz.zeroValue49
  i3 := by kernel_rfl }
theorem slices_Compact_int (blk off cap : Nat) (zs : List Int) (w : World) (hH : Holds (Value.int .i64) w blk off zs.toArray) (hsz : zs.length ≤ 9223372036854775807) (hcap : zs.length ≤ cap) :
    Calls Tryz.prog 127 #[.slice (some ⟨blk, off, none⟩) zs.length cap] w fun e w' => e = .returned (.slice (some ⟨blk, off, none⟩) (Lib.compact zs).length cap) ∧ ∃ q, w' = putRow (Value.int .i64) (Sort.ahead w q) blk off (Lib.compact zs ++ List.replicate (zs.length - (Lib.compact zs).length) 0).toArray := Any.slices_Compact_int laysNm220 blk off cap zs w hH hsz hcap
theorem slices_Compact_int_empty (a : Option Addr) (cap : Nat) (w : World) :
    Calls Tryz.prog 127 #[.slice a 0 cap] w fun e w' => e = .returned (.slice a 0 cap) ∧ w' = w := Any.slices_Compact_int_empty laysNm220 a cap w
def laysNm237_ren : Go.Shelf.Ren := ⟨fun | 37 => 217 | n => n, fun | 3 => 3 | 4 => 4 | n => n, fun | n => n⟩
theorem laysNm237 : Go.Proofs.Lays2.n37 Tryz.prog laysNm237_ren := {
  mixed := by kernel_rfl
  f37 := Tryz.func217.trans (congrArg some (by kernel_rfl))
  t3 := Tryz.underlying3
  a3 := Tryz.isAgg3
  z3 := Tryz.sizeOf3
  v3 := Tryz.zeroValue3
  t4 := Tryz.underlying4
  a4 := Tryz.isAgg4
  z4 := Tryz.sizeOf4
  v4 := Tryz.zeroValue4 }
def laysNm232_ren : Go.Shelf.Ren := ⟨fun | 32 => 249 | n => n, fun | 3 => 3 | 4 => 4 | n => n, fun | n => n⟩
theorem laysNm232 : Go.Proofs.Lays2.n32 Tryz.prog laysNm232_ren := {
  mixed := by kernel_rfl
  f32 := Tryz.func249.trans (congrArg some (by kernel_rfl))
  t3 := Tryz.underlying3
  a3 := Tryz.isAgg3
  z3 := Tryz.sizeOf3
  v3 := Tryz.zeroValue3
  t4 := Tryz.underlying4
  a4 := Tryz.isAgg4
  z4 := Tryz.sizeOf4
  v4 := Tryz.zeroValue4 }
def laysNm231_ren : Go.Shelf.Ren := ⟨fun | 31 => 200 | 37 => 217 | n => n, fun | 3 => 3 | 4 => 4 | n => n, fun | n => n⟩
theorem laysNm231 : Go.Proofs.Lays2.n31 Tryz.prog laysNm231_ren := {
  mixed := by kernel_rfl
  f31 := Tryz.func200.trans (congrArg some (by kernel_rfl))
  f37 := Tryz.func217.trans (congrArg some (by kernel_rfl))
  t3 := Tryz.underlying3
  a3 := Tryz.isAgg3
  z3 := Tryz.sizeOf3
  v3 := Tryz.zeroValue3
  t4 := Tryz.underlying4
  a4 := Tryz.isAgg4
  z4 := Tryz.sizeOf4
  v4 := Tryz.zeroValue4 }
def laysNm225_ren : Go.Shelf.Ren := ⟨fun | 25 => 248 | 31 => 200 | 32 => 249 | 37 => 217 | n => n, fun | 22 => 49 | 3 => 3 | 4 => 4 | 40 => 150 | 0 => 0 | n => n, fun | n => n⟩
theorem laysNm225 : Go.Proofs.Lays2.n25 Tryz.prog laysNm225_ren := {
  mixed := by kernel_rfl
  f25 := Tryz.func248.trans (congrArg some (by kernel_rfl))
  f31 := Tryz.func200.trans (congrArg some (by kernel_rfl))
  f32 := Tryz.func249.trans (congrArg some (by kernel_rfl))
  f37 := Tryz.func217.trans (congrArg some (by kernel_rfl))
  t0 := Tryz.underlying0
  a0 := Tryz.isAgg0
  z0 := Tryz.sizeOf0
  v0 := Tryz.zeroValue0
  t3 := Tryz.underlying3
  a3 := Tryz.isAgg3
  z3 := Tryz.sizeOf3
  v3 := Tryz.zeroValue3
  t4 := Tryz.underlying4
  a4 := Tryz.isAgg4
  z4 := Tryz.sizeOf4
  v4 := Tryz.zeroValue4
  t22 := Tryz.underlying49
  a22 := Tryz.isAgg49
  z22 := Tryz.sizeOf49
  v22 := Tryz.zeroValue49
  t40 := Tryz.underlying150
  a40 := Tryz.isAgg150
  z40 := Tryz.sizeOf150
  v40 := Tryz.zeroValue150 }
theorem slices_BinarySearch_int (b off n c : Nat) (zs : List Int) (x : Int) (w : World) (hz : n ≤ zs.length) (hbig : n < 4611686018427387904) (hc : ∀ j, j < zs.length → w.cell? ⟨b, off + j, none⟩ = some (.int .i64 (zs.getD j 0))) (hs : (zs.take n).Pairwise (· ≤ ·)) :
    Calls Tryz.prog 248 #[.slice (some ⟨b, off, none⟩) n c, .int .i64 x] w fun e w' => e = .returned (.tuple #[.int .i64 ((zs.take n).countP (· < x) : Nat), .bool ((zs.take n).contains x)]) ∧ ∃ q, w' = w.drewN q := Any.slices_BinarySearch_int laysNm225 b off n c zs x w hz hbig hc hs
theorem slices_Sort_int_none (p : Option Addr) (cap : Nat) (w : World) :
    Calls Tryz.prog 126 #[.slice p 0 cap] w fun e w' => e = .returned (.tuple #[]) ∧ w' = w := Any.slices_Sort_int_none lays189 p cap w
theorem slices_BinarySearch_int_empty (a : Option Addr) (c : Nat) (x : Int) (w : World) :
    Calls Tryz.prog 248 #[.slice a 0 c, .int .i64 x] w fun e w' => e = .returned (.tuple #[.int .i64 0, .bool false]) ∧ w' = w := Any.slices_BinarySearch_int_empty laysNm225 a c x w
end Go.Proofs.YtalnndenncnbdaaGreat
