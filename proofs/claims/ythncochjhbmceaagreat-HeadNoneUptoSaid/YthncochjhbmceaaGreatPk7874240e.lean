/- (post.or).seek, walked. (post.and).seek, walked. (post.without).seek, walked. The library's contracts at this program's numbers: laid plainly by the kit's lay-plain. -/
import Derived.Test.YthncochjhbmceaaGreatPk30e676bf
import Derived.WalkMore
import Derived.ScopeJumps
import Derived.Test.YthncochjhbmceaaGreatPkb5fb2d9c
import Derived.Shelf.Strings.Builder1
import Derived.Shelf.Strings.Builder2
import Derived.Shelf.Small.Utf8
import Derived.Shelf.Small.Bits
import Derived.Shelf.Small.Strs
import Derived.Shelf.Strconv.Itoa0
import Derived.Shelf.Strings.Search1
import Derived.Shelf.Sort.Plain
import Derived.Shelf.Strings.Runes
import Derived.Shelf.Strings.IndexAny
import Derived.Shelf.Strings.AsciiSet
import Derived.Shelf.Strings.IndexAnyAll
import Derived.Ground.Names2Prog
import Derived.Shelf.Slices.Clone
import Derived.Shelf.Slices.CompactI
import Derived.Shelf.Slices.SearchI
import Derived.Shelf.Slices.Cells
import Derived.Shelf.Slices.In.SortNone
import Derived.Shelf.Slices.Empties
import Derived.Ground.SlgnProg
import Derived.Shelf.SlicesE.Clone
import Derived.Ground.SlsfProg
import Derived.Shelf.SlSortCmp.Insertion
namespace Go.Proofs.YthncochjhbmceaaGreat
set_option maxRecDepth 100000
open Go.RowKit Go.Shelf

def upd (n : Int) (x : Kid) : Kid := ⟨x.p, geL n x.E, x.F⟩
def kidsAt (n : Int) (k : Nat) (cs : List Kid) : List Kid := (cs.take k).map (upd n) ++ cs.drop k
theorem kidsAt_zero (n : Int) (cs : List Kid) : kidsAt n 0 cs = cs := by simp [kidsAt]
theorem kidsAt_len (n : Int) (k : Nat) (cs : List Kid) : (kidsAt n k cs).length = cs.length := by simp [kidsAt]; omega
theorem kidsAt_at {n : Int} {k : Nat} {cs : List Kid} (h : k < cs.length) : (kidsAt n k cs)[k]? = cs[k]? := by
  rw [kidsAt, List.getElem?_append_right (by simp; omega)]
  simp only [List.length_map, List.length_take]
  rw [Nat.min_eq_left (by omega), Nat.sub_self, List.getElem?_drop, Nat.add_zero]
theorem kidsAt_succ {n : Int} {k : Nat} {cs : List Kid} {x : Kid} (h : cs[k]? = some x) : (kidsAt n k cs).set k (upd n x) = kidsAt n (k + 1) cs := by
  obtain ⟨hk, hx⟩ := List.getElem?_eq_some_iff.1 h
  have e1 : cs.drop k = x :: cs.drop (k + 1) := by rw [List.drop_eq_getElem_cons hk, hx]
  have hl : ((cs.take k).map (upd n)).length = k := by simp; omega
  rw [kidsAt, kidsAt, e1, List.set_append_right _ _ (by omega), hl, Nat.sub_self, List.set_cons_zero, take_snoc? h]
  simp
theorem kidsAt_all (n : Int) (cs : List Kid) : kidsAt n cs.length cs = cs.map (upd n) := by simp [kidsAt]
theorem kid_cell {S : Src} {w : World} {A : Option Addr} {cs : List Kid} {F : Nat → Prop} (h : Kids S w A cs F) {k : Nat} {x : Kid} (hx : cs[k]? = some x) : ∃ g o, A = some ⟨g, o, none⟩ ∧ w.cell? ⟨g, o + k, none⟩ = some x.p := by
  obtain ⟨hk, _⟩ := List.getElem?_eq_some_iff.1 hx
  obtain ⟨g, o, rfl, _, hc⟩ := h.1.at_ (by omega)
  refine ⟨g, o, rfl, ?_⟩
  rw [hc k (by omega), List.getElem?_map, hx]; rfl
/-- the least among so many kids' lists -/
def leastOf (n : Int) (l : List Kid) (a : Int) (any : Bool) : Prop :=
  (any = false ∧ a = 0 ∧ ∀ y ∈ l, geL n y.E = []) ∨ (any = true ∧ (∃ y ∈ l, a ∈ geL n y.E) ∧ ∀ y ∈ l, ∀ x ∈ geL n y.E, a ≤ x)
theorem least_nil (n : Int) : leastOf n [] 0 false := .inl ⟨rfl, rfl, by simp⟩
theorem least_none {n : Int} {l : List Kid} {a : Int} {any : Bool} {y : Kid} (h : leastOf n l a any) (hy : geL n y.E = []) : leastOf n (l ++ [y]) a any := by
  rcases h with ⟨h1, h2, h3⟩ | ⟨h1, ⟨z, hz, hza⟩, h3⟩
  · exact .inl ⟨h1, h2, fun z hz => (List.mem_append.1 hz).elim (h3 z) fun e => by rw [List.mem_singleton.1 e]; exact hy⟩
  · refine .inr ⟨h1, ⟨z, List.mem_append_left _ hz, hza⟩, fun u hu => (List.mem_append.1 hu).elim (h3 u) fun e x hx => ?_⟩
    rw [List.mem_singleton.1 e, hy] at hx; simp at hx
theorem least_new {n : Int} {l : List Kid} {a b : Int} {any : Bool} {y : Kid} {r : List Int} (h : leastOf n l a any) (hr : rising (geL n y.E)) (hy : geL n y.E = b :: r) (hb : any = false ∨ b < a) : leastOf n (l ++ [y]) b true := by
  have hmin : ∀ x ∈ geL n y.E, b ≤ x := fun x hx => by
    rw [hy] at hx hr
    rcases List.mem_cons.1 hx with rfl | hx
    · omega
    · have := (List.pairwise_cons.1 hr).1 x hx; omega
  refine .inr ⟨rfl, ⟨y, by simp, by rw [hy]; simp⟩, fun u hu x hx => ?_⟩
  rcases List.mem_append.1 hu with hu | hu
  · rcases h with ⟨_, _, h3⟩ | ⟨h1, _, h3⟩
    · rw [h3 u hu] at hx; simp at hx
    · rcases hb with hb | hb
      · rw [h1] at hb; cases hb
      · have := h3 u hu x hx; omega
  · rw [List.mem_singleton.1 hu] at hx; exact hmin x hx
theorem least_old {n : Int} {l : List Kid} {a b : Int} {y : Kid} {r : List Int} (h : leastOf n l a true) (hr : rising (geL n y.E)) (hy : geL n y.E = b :: r) (hb : ¬ b < a) : leastOf n (l ++ [y]) a true := by
  rcases h with ⟨h1, _⟩ | ⟨_, ⟨z, hz, hza⟩, h3⟩
  · cases h1
  · refine .inr ⟨rfl, ⟨z, List.mem_append_left _ hz, hza⟩, fun u hu x hx => ?_⟩
    rcases List.mem_append.1 hu with hu | hu
    · exact h3 u hu x hx
    · rw [List.mem_singleton.1 hu, hy] at hx
      rw [hy] at hr
      rcases List.mem_cons.1 hx with rfl | hx
      · omega
      · have := (List.pairwise_cons.1 hr).1 x hx; omega
theorem least_ans {n : Int} {l : List Kid} {a : Int} {any : Bool} {E : List Int} (h : leastOf n l a any) (hE : rising E) (hm : ∀ x, x ∈ E ↔ ∃ y ∈ l, x ∈ y.E) : .returned (.tuple #[.int .i64 a, .bool any]) = ansL (geL n E) := by
  rcases h with ⟨rfl, rfl, h3⟩ | ⟨rfl, ⟨y, hy, ha⟩, h3⟩
  · have : geL n E = [] := List.eq_nil_iff_forall_not_mem.2 fun x hx => by
      obtain ⟨hx, hn⟩ := mem_geL.1 hx
      obtain ⟨y, hy, hxy⟩ := (hm x).1 hx
      have : x ∈ geL n y.E := mem_geL.2 ⟨hxy, hn⟩
      rw [h3 y hy] at this; simp at this
    rw [this]; rfl
  · have haE : a ∈ geL n E := mem_geL.2 ⟨(hm a).2 ⟨y, hy, (mem_geL.1 ha).1⟩, (mem_geL.1 ha).2⟩
    have hr := rising_geL hE n
    cases hL : geL n E with
    | nil => rw [hL] at haE; simp at haE
    | cons b r =>
      have hba : b ≤ a := by
        rw [hL] at haE hr
        rcases List.mem_cons.1 haE with rfl | h
        · omega
        · have := (List.pairwise_cons.1 hr).1 a h; omega
      have hb : b ∈ geL n E := by rw [hL]; simp
      obtain ⟨hbE, hbn⟩ := mem_geL.1 hb
      obtain ⟨z, hz, hbz⟩ := (hm b).1 hbE
      have := h3 z hz b (mem_geL.2 ⟨hbz, hbn⟩)
      have e : a = b := by omega
      rw [e]; rfl

set_option maxHeartbeats 1600000 in
theorem or_seek {S : Src} (hF : FrameOk S) (hO : OldOk S) (hR : RiseOk S) (hP : PeekOk S) : SeekOk (IsOr S) := by
  rintro w v E F n ⟨A, m, c, cs, rfl, h1, h2, h3, h4, h5⟩ hn
  refine ⟨_, _, 252, .slice A m c, rfl, fun w => by kernel_rfl, enters_of Tryz.func252 (by kernel_rfl) rfl, ?_⟩
  have HK := hidden h3
  have HL := hidden h1
  have HM := hidden h5
  have HE := hidden h4
  clear h1 h3 h4 h5
  go_enter Tryz.func252, Tryz.ntmps252
  go_wp2_with fail
  go_loopw [6, 7, 14] (fun va vb vi wr => ∃ (k : Nat) (a : Int) (any : Bool), k ≤ m ∧ vi = .int .i64 k ∧ va = .int .i64 a ∧ vb = .bool any ∧ Hid (leastOf n (cs.take k) a any) ∧ Kids S wr A (kidsAt n k cs) F ∧ Kp F w wr) (fun _ _ vi _ => m - (intOf vi).toNat)
  case atStart => exact ⟨0, 0, false, Nat.zero_le _, rfl, rfl, rfl, least_nil n, by rw [kidsAt_zero]; exact HK.out, Kp.refl _ _⟩
  case round =>
    obtain ⟨k, a, any, hk, rfl, rfl, rfl, hle, hK, hkp⟩ := hrel
    by_cases hlt : k < m
    · obtain ⟨x, hx⟩ : ∃ x, cs[k]? = some x := ⟨_, List.getElem?_eq_getElem (by rw [HL.out]; omega)⟩
      have hxk : (kidsAt n k cs)[k]? = some x := by rw [kidsAt_at (by rw [HL.out]; omega)]; exact hx
      obtain ⟨g, o, rfl, hc⟩ := kid_cell hK hxk
      have hcur := hK.2.1 x (List.mem_of_getElem? hxk)
      have S1 := hidden (hP wr x.p x.E x.F n hcur hn)
      have HRx := hidden (rising_geL (cur_rise hR _ _ _ _ hcur).1 n)
      have HKx := hidden (fun (w' : World) (h : CurOf S w' x.p (geL n x.E) x.F) (hk : Kp x.F wr w') => kids_step hF hO hK hxk h hk)
      have HKS := hidden (kidsAt_succ (n := n) hx)
      have HT := hidden (take_snoc? hx)
      have HKP := hidden hkp
      have k0 : (0 : Int) ≤ (k : Int) := by omega
      have k1 : (k : Int) < (m : Int) := by omega
      clear hx hxk hcur hK hkp
      cases hL : geL n x.E with
      | nil =>
        rw [hL] at S1 HRx HKx
        have HLn := hidden hL
        clear hL
        go_wp2_with fail
        refine S1.out.mono ?_
        rintro e w2 ⟨he, h2', hk2⟩
        obtain rfl : e = .returned (.tuple #[.int .i64 0, .bool false]) := he
        have hKn := HKx.out w2 h2' hk2
        rw [show (⟨x.p, [], x.F⟩ : Kid) = upd n x by rw [upd, HLn.out], HKS.out] at hKn
        clear S1 HKx h2' hk2
        go_wp2_with fail
        go_roundw
        case rel => exact ⟨k + 1, a, any, by omega, by go_num, rfl, rfl, hidden (by rw [HT.out]; exact least_none hle.out HLn.out), hKn.1, HKP.out.trans hKn.2⟩
        case measure => simp [intOf]; omega
      | cons b r =>
        rw [hL] at S1 HKx
        have HLn := hidden hL
        clear hL
        go_wp2_with fail
        refine S1.out.mono ?_
        rintro e w2 ⟨he, h2', hk2⟩
        obtain rfl : e = .returned (.tuple #[.int .i64 b, .bool true]) := he
        have hKn := HKx.out w2 h2' hk2
        rw [show (⟨x.p, b :: r, x.F⟩ : Kid) = upd n x by rw [upd, HLn.out], HKS.out] at hKn
        clear S1 HKx h2' hk2
        cases any with
        | false =>
          go_wp2_with fail
          go_roundw
          case rel => exact ⟨k + 1, b, true, by omega, by go_num, rfl, rfl, hidden (by rw [HT.out]; exact least_new hle.out HRx.out HLn.out (.inl rfl)), hKn.1, HKP.out.trans hKn.2⟩
          case measure => simp [intOf]; omega
        | true =>
          by_cases hba : b < a
          · go_wp2_with fail
            go_roundw
            case rel => exact ⟨k + 1, b, true, by omega, by go_num, rfl, rfl, hidden (by rw [HT.out]; exact least_new hle.out HRx.out HLn.out (.inr hba)), hKn.1, HKP.out.trans hKn.2⟩
            case measure => simp [intOf]; omega
          · have hba2 : decide (b < a) = false := decide_eq_false hba
            go_wp2_with fail
            go_roundw
            case rel => exact ⟨k + 1, a, true, by omega, by go_num, rfl, rfl, hidden (by rw [HT.out]; exact least_old hle.out HRx.out HLn.out (by omega)), hKn.1, HKP.out.trans hKn.2⟩
            case measure => simp [intOf]; omega
    · obtain rfl : m = k := by omega
      have k1 : ¬ (m : Int) < (m : Int) := by omega
      go_wp2_with fail
      go_ret2
      rw [← HL.out, List.take_length] at hle
      rw [← HL.out, kidsAt_all] at hK
      refine ⟨least_ans hle.out HE.out HM.out, ⟨A, m, c, cs.map (upd n), rfl, by rw [List.length_map]; exact HL.out, h2, hK, rising_geL HE.out n, fun x => ?_⟩, hkp⟩
      rw [mem_geL, HM.out x]
      constructor
      · rintro ⟨⟨y, hy, hxy⟩, hnx⟩
        exact ⟨upd n y, List.mem_map.2 ⟨y, hy, rfl⟩, mem_geL.2 ⟨hxy, hnx⟩⟩
      · rintro ⟨z, hz, hxz⟩
        obtain ⟨y, hy, rfl⟩ := List.mem_map.1 hz
        exact ⟨⟨y, hy, (mem_geL.1 hxz).1⟩, (mem_geL.1 hxz).2⟩
end Go.Proofs.YthncochjhbmceaaGreat

namespace Go.Proofs.YthncochjhbmceaaGreat
set_option maxRecDepth 100000
open Go.RowKit Go.Shelf

def ksOf (cs : List Kid) (ms : List Int) : List Kid := List.zipWith (fun x m => upd m x) cs ms
theorem ksOf_len {cs : List Kid} {ms : List Int} (h : ms.length = cs.length) : (ksOf cs ms).length = cs.length := by simp [ksOf, h]
theorem ksOf_at {cs : List Kid} {ms : List Int} {j : Nat} {x : Kid} {m : Int} (h : cs[j]? = some x) (k : ms[j]? = some m) : (ksOf cs ms)[j]? = some (upd m x) := by
  simp [ksOf, List.getElem?_zipWith, h, k]
theorem ksOf_set {cs : List Kid} {ms : List Int} {j : Nat} {x : Kid} {m q : Int} (h : cs[j]? = some x) (k : ms[j]? = some m) (hq : m ≤ q) : (ksOf cs ms).set j ⟨(upd m x).p, geL q (upd m x).E, (upd m x).F⟩ = ksOf cs (ms.set j q) := by
  refine List.ext_getElem? fun i => ?_
  have hl : j < (ksOf cs ms).length := (List.getElem?_eq_some_iff.1 (ksOf_at h k)).1
  have hlm : j < ms.length := (List.getElem?_eq_some_iff.1 k).1
  by_cases e : i = j
  · subst e
    rw [List.getElem?_set_self hl, ksOf_at h (List.getElem?_set_self hlm)]
    simp only [upd, geL_geL, Int.max_eq_left hq]
  · rw [List.getElem?_set_ne (fun h => e h.symm)]
    simp only [ksOf, List.getElem?_zipWith]
    rw [List.getElem?_set_ne (fun h => e h.symm)]
theorem ksOf_min {cs : List Kid} (h : ∀ y ∈ cs, ∀ x ∈ y.E, inI x) : ksOf cs (List.replicate cs.length (-9223372036854775808)) = cs := by
  refine List.ext_getElem? fun i => ?_
  rcases Nat.lt_or_ge i cs.length with hi | hi
  · have hx : cs[i]? = some cs[i] := List.getElem?_eq_getElem hi
    rw [ksOf_at hx (by rw [List.getElem?_replicate, if_pos hi]), hx]
    have : upd (-9223372036854775808) cs[i] = cs[i] := by
      unfold upd
      rw [geL_all fun x hx => (h _ (List.getElem_mem hi) x hx).1]
    rw [this]
  · rw [List.getElem?_eq_none (by rw [ksOf_len (by simp)]; exact hi), List.getElem?_eq_none hi]
theorem mem_ksOf {cs : List Kid} {ms : List Int} (hl : ms.length = cs.length) {x : Int} : (∀ y ∈ ksOf cs ms, x ∈ y.E) ↔ ∀ (j : Nat) (y : Kid) (m : Int), cs[j]? = some y → ms[j]? = some m → x ∈ y.E ∧ m ≤ x := by
  constructor
  · intro h j y m hy hm
    exact mem_geL.1 (h (upd m y) (List.mem_of_getElem? (ksOf_at hy hm)))
  · intro h z hz
    obtain ⟨j, hj⟩ := List.mem_iff_getElem?.1 hz
    have hjl : j < cs.length := by have := (List.getElem?_eq_some_iff.1 hj).1; rw [ksOf_len hl] at this; exact this
    have hy : cs[j]? = some cs[j] := List.getElem?_eq_getElem hjl
    have hm : ms[j]? = some (ms[j]'(by omega)) := List.getElem?_eq_getElem _
    rw [ksOf_at hy hm] at hj
    cases hj
    exact mem_geL.2 (h j _ _ hy hm)
theorem and_fin {cs : List Kid} {ms : List Int} {n q : Int} {E : List Int} (hl : ms.length = cs.length) (hm : ∀ x, x ∈ E ↔ cs ≠ [] ∧ ∀ y ∈ cs, x ∈ y.E) (hle : ∀ m ∈ ms, m ≤ q) (hnq : n ≤ q) (hno : ∀ z ∈ E, n ≤ z → q ≤ z) {j : Nat} (hj : ms[j]? = some q) (x : Int) :
    x ∈ geL n E ↔ ksOf cs ms ≠ [] ∧ ∀ y ∈ ksOf cs ms, x ∈ y.E := by
  have hjl := (List.getElem?_eq_some_iff.1 hj).1
  have hne : cs ≠ [] := fun e => by rw [e] at hl; simp at hl; rw [hl] at hjl; simp at hjl
  have hne2 : ksOf cs ms ≠ [] := fun e => by have := ksOf_len hl; rw [e] at this; simp at this; omega
  rw [mem_ksOf hl, mem_geL, hm x]
  constructor
  · rintro ⟨⟨_, h1⟩, h2⟩
    refine ⟨hne2, fun i y m hy hmi => ⟨h1 y (List.mem_of_getElem? hy), ?_⟩⟩
    have := hno x ((hm x).2 ⟨hne, h1⟩) h2
    have := hle m (List.mem_of_getElem? hmi)
    omega
  · rintro ⟨_, h1⟩
    refine ⟨⟨hne, fun y hy => ?_⟩, ?_⟩
    · obtain ⟨i, hi⟩ := List.mem_iff_getElem?.1 hy
      have hil := (List.getElem?_eq_some_iff.1 hi).1
      exact (h1 i y _ hi (List.getElem?_eq_getElem (show i < ms.length by omega))).1
    · have hy : cs[j]? = some (cs[j]'(by omega)) := List.getElem?_eq_getElem _
      have := (h1 j _ q hy hj).2
      omega
theorem jumps3 {P : Program} {a : Act} {w : World} {Q : Exit → Act → World → Prop} {c rest : Code} (l : Nat) (J : Act → World → Prop) (μ : Act → World → Nat) (hf : findLabel c l = some (.seq .skip rest))
    (first : (∀ a w, J a w → rest.wp P (Exit.jump l J Q) a w) → c.wp P (Exit.jump l J Q) a w)
    (pass : ∀ a w, J a w → rest.wp P (Exit.jump l (fun a' w' => J a' w' ∧ μ a' w' < μ a w) Q) a w) : (Code.scope c).wp P Q a w :=
  wp_scope_jumps l J μ hf (first fun a w h => Code.wp_mono (fun e _ _ k => by
    cases e <;> first | exact k | exact ⟨k.1, k.2.1⟩) (pass a w h)) fun a w h => wp_seq (wp_skip (pass a w h))

def AndJ (S : Src) (A : Option Addr) (m c : Nat) (cs : List Kid) (E : List Int) (n : Int) (F : Nat → Prop) (w : World) : Act → World → Prop :=
  fun a' w' => ∃ (q : Int) (ms : List Int) (u2 u3 u4 u5 u6 u7 u8 u9 u10 u11 u12 u13 u14 u15 u16 u17 u18 u19 u20 u21 u22 u23 u24 u25 u26 u27 u28 u29 u30 u31 u32 : Value), a' = { tmps := #[.slice A m c, .int .i64 q, u2, u3, u4, u5, u6, u7, u8, u9, u10, u11, u12, u13, u14, u15, u16, u17, u18, u19, u20, u21, u22, u23, u24, u25, u26, u27, u28, u29, u30, u31, u32], defers := [] } ∧ inI q ∧ n ≤ q ∧ ms.length = m ∧ Hid (∀ x ∈ ms, x ≤ q) ∧ Hid (∀ z ∈ E, n ≤ z → q ≤ z) ∧ Kids S w' A (ksOf cs ms) F ∧ Kp F w w'
theorem and_done {S : Src} {w w2 : World} {A : Option Addr} {m c : Nat} {cs : List Kid} {ms : List Int} {E : List Int} {n q : Int} {F : Nat → Prop} (h2 : m ≤ 4611686018427387904) (hL : cs.length = m) (hl : ms.length = m) (hE : rising E) (hm : ∀ x, x ∈ E ↔ cs ≠ [] ∧ ∀ y ∈ cs, x ∈ y.E) (hle : ∀ m ∈ ms, m ≤ q) (hnq : n ≤ q) (hno : ∀ z ∈ E, n ≤ z → q ≤ z) {j : Nat} (hj : ms[j]? = some q) (hK : Kids S w2 A (ksOf cs ms) F) (hkp : Kp F w w2) :
    IsAnd S w2 (.iface 255 (.slice A m c)) (geL n E) F ∧ Kp F w w2 :=
  ⟨⟨A, m, c, ksOf cs ms, rfl, by rw [ksOf_len (by omega)]; exact hL, h2, hK, rising_geL hE n, and_fin (by omega) hm hle hnq hno hj⟩, hkp⟩
theorem head_is {E : List Int} {n q : Int} (hE : rising E) (hq : q ∈ E) (hnq : n ≤ q) (hno : ∀ z ∈ E, n ≤ z → q ≤ z) : ansL (geL n E) = .returned (.tuple #[.int .i64 q, .bool true]) := by
  have hr := rising_geL hE n
  have hm : q ∈ geL n E := mem_geL.2 ⟨hq, hnq⟩
  cases hL : geL n E with
  | nil => rw [hL] at hm; simp at hm
  | cons b r =>
    have hb : b ∈ geL n E := by rw [hL]; simp
    obtain ⟨h1, h2⟩ := mem_geL.1 hb
    have h3 := hno b h1 h2
    rw [hL] at hm hr
    rcases List.mem_cons.1 hm with h | h
    · rw [h]; rfl
    · have := (List.pairwise_cons.1 hr).1 q h; omega

set_option maxHeartbeats 3200000 in
theorem and_seek {S : Src} (hF : FrameOk S) (hO : OldOk S) (hR : RiseOk S) (hP : PeekOk S) : SeekOk (IsAnd S) := by
  rintro w v E F n ⟨A, m, c, cs, rfl, h1, h2, h3, h4, h5⟩ hn
  refine ⟨_, _, 247, .slice A m c, rfl, fun w => by kernel_rfl, enters_of Tryz.func247 (by kernel_rfl) rfl, ?_⟩
  have HK := hidden h3
  have HL := hidden h1
  have HM := hidden h5
  have HE := hidden h4
  have hI := hidden (fun y (hy : y ∈ cs) => (cur_rise hR _ _ _ _ (h3.2.1 y hy)).2)
  clear h1 h3 h4 h5
  rcases Nat.eq_zero_or_pos m with h0 | h0
  · subst h0
    obtain rfl : cs = [] := List.eq_nil_of_length_eq_zero HL.out
    have hE0 : E = [] := List.eq_nil_iff_forall_not_mem.2 fun x hx => ((HM.out x).1 hx).1 rfl
    have HE0 := hidden hE0
    clear hE0
    go_enter Tryz.func247, Tryz.ntmps247
    go_wp2_with fail
    go_step3
    go_wp2_with fail
    rw [Exit.noGoto_ret]
    go_ret2
    rw [HE0.out]
    exact ⟨rfl, ⟨A, 0, c, [], rfl, rfl, h2, HK.out, List.Pairwise.nil, by simp [geL]⟩, Kp.refl _ _⟩
  · have hm0 : ¬ (m : Int) = 0 := by omega
    go_enter Tryz.func247, Tryz.ntmps247
    go_wp2_with fail
    refine jumps3 0 (AndJ S A m c cs E n F w) (fun a' _ => (9223372036854775807 - intOf (a'.tmps.getD 1 undef)).toNat) rfl ?_ ?_
    · intro HP
      go_wp2_with fail
      go_step3
      simp only [Exit.then]
      rename_i hKK
      refine hKK _ _ (HP _ _ ?_)
      exact ⟨n, List.replicate m (-9223372036854775808), _, _, _, _, _, _, _, _, _, _, _, _, _, _, _, _, _, _, _, _, _, _, _, _, _, _, _, _, _, _, _, rfl, hn, Int.le_refl _, List.length_replicate, hidden (fun x hx => by rw [(List.mem_replicate.1 hx).2]; exact hn.1), hidden (fun _ _ h => h), by rw [← HL.out, ksOf_min hI.out]; exact HK.out, Kp.refl _ _⟩
    · rintro a' w' ⟨q, ms, u2, u3, u4, u5, u6, u7, u8, u9, u10, u11, u12, u13, u14, u15, u16, u17, u18, u19, u20, u21, u22, u23, u24, u25, u26, u27, u28, u29, u30, u31, u32, rfl, hq, hnq, hml, hle, hno, hK, hkp⟩
      go_wp2_with fail
      go_loopw [1, 15] (fun v1 vi wr => ∃ (k : Nat) (ms : List Int), k ≤ m ∧ v1 = .int .i64 q ∧ vi = .int .i64 k ∧ ms.length = m ∧ Hid (∀ x ∈ ms, x ≤ q) ∧ Hid (∀ (j : Nat) (y : Kid), j < k → cs[j]? = some y → ms[j]? = some q ∧ q ∈ y.E) ∧ Kids S wr A (ksOf cs ms) F ∧ Kp F w wr) (fun _ vi _ => m - (intOf vi).toNat)
      case atStart => exact ⟨0, ms, Nat.zero_le _, rfl, rfl, hml, hle, hidden (fun j _ hj => absurd hj (Nat.not_lt_zero _)), hK, hkp⟩
      case round =>
        clear hK hkp hml hle
        obtain ⟨k, ms, hk, rfl, rfl, hml, hle, hall, hK, hkp⟩ := hrel
        by_cases hlt : k < m
        · obtain ⟨x, hx⟩ : ∃ x, cs[k]? = some x := ⟨_, List.getElem?_eq_getElem (by rw [HL.out]; omega)⟩
          obtain ⟨mk, hmk⟩ : ∃ mk, ms[k]? = some mk := ⟨_, List.getElem?_eq_getElem (by omega)⟩
          have hxk := ksOf_at hx hmk
          have hmq := hle.out mk (List.mem_of_getElem? hmk)
          obtain ⟨g, o, rfl, hc⟩ := kid_cell hK hxk
          have hc' : wr.cell? ⟨g, o + k, none⟩ = some x.p := hc
          have hcur := hK.2.1 (upd mk x) (List.mem_of_getElem? hxk)
          have hg : geL q (upd mk x).E = geL q x.E := by simp only [upd, geL_geL, Int.max_eq_left hmq]
          have S1 := hP wr x.p (upd mk x).E x.F q hcur hq
          have HKx := fun (w' : World) (h : CurOf S w' x.p (geL q (upd mk x).E) x.F) (hk : Kp x.F wr w') => kids_step hF hO hK hxk h hk
          have hset := ksOf_set hx hmk hmq
          have hrx := rising_geL (cur_rise hR _ _ _ _ hcur).1 q
          have hIx := hI.out x (List.mem_of_getElem? hx)
          rw [hg] at S1 HKx hset hrx
          have HS1 := hidden S1
          have HKX := hidden HKx
          have HSet := hidden hset
          have HRx := hidden hrx
          have HIx := hidden hIx
          have HX := hidden hx
          have HKP := hidden hkp
          have hml2 := hidden (show (ms.set k q).length = m by rw [List.length_set]; exact hml)
          have hle2 : Hid (∀ y ∈ ms.set k q, y ≤ q) := fun y hy => by
            rcases List.mem_or_eq_of_mem_set hy with h | h
            · exact hle.out y h
            · omega
          have hsk : Hid ((ms.set k q)[k]? = some q) := List.getElem?_set_self (by omega)
          have k0 : (0 : Int) ≤ (k : Int) := by omega
          have k1 : (k : Int) < (m : Int) := by omega
          have hall2 : Hid (∀ (j : Nat) (y : Kid), j < k → cs[j]? = some y → (ms.set k q)[j]? = some q ∧ q ∈ y.E) := fun j y hj hy => by
            rw [List.getElem?_set_ne (by omega)]
            exact hall.out j y hj hy
          clear S1 HKx hset hrx hIx hx hkp hK hcur hxk hc hle hall hmk hml hg hmq
          cases hL : geL q x.E with
          | nil =>
            rw [hL] at HS1
            have HLn := hidden hL
            clear hL
            go_wp2_with fail
            refine HS1.out.mono ?_
            rintro e w2 ⟨he, h2', hk2⟩
            obtain rfl : e = .returned (.tuple #[.int .i64 0, .bool false]) := he
            have hKn := HKX.out w2 (by rw [HLn.out]; exact h2') hk2
            have hset := HSet.out
            rw [show (⟨(upd mk x).p, geL q x.E, (upd mk x).F⟩ : Kid) = ⟨x.p, geL q x.E, x.F⟩ from rfl] at hset
            rw [show (⟨(upd mk x).p, geL q x.E, (upd mk x).F⟩ : Kid) = ⟨x.p, geL q x.E, x.F⟩ from rfl, hset] at hKn
            clear HS1 h2' hk2 hset
            have HKn := hidden hKn
            clear hKn
            have HE0 : Hid (geL n E = []) := List.eq_nil_iff_forall_not_mem.2 fun z hz => by
              obtain ⟨z1, z2⟩ := mem_geL.1 hz
              have : z ∈ geL q x.E := mem_geL.2 ⟨((HM.out z).1 z1).2 x (List.mem_of_getElem? HX.out), hno.out z z1 z2⟩
              rw [HLn.out] at this; simp at this
            go_wp2_with fail
            simp only [Exit.jump]
            go_ret2
            have hd := and_done (c := c) (w := w) h2 HL.out hml2.out HE.out HM.out hle2.out hnq hno.out hsk.out HKn.out.1 (HKP.out.trans HKn.out.2)
            rw [HE0.out] at hd ⊢
            exact ⟨rfl, hd.1, hd.2⟩
          | cons b r =>
            rw [hL] at HS1
            have HLn := hidden hL
            clear hL
            go_wp2_with fail
            refine HS1.out.mono ?_
            rintro e w2 ⟨he, h2', hk2⟩
            obtain rfl : e = .returned (.tuple #[.int .i64 b, .bool true]) := he
            have hKn := HKX.out w2 (by rw [HLn.out]; exact h2') hk2
            have hset := HSet.out
            rw [show (⟨(upd mk x).p, geL q x.E, (upd mk x).F⟩ : Kid) = ⟨x.p, geL q x.E, x.F⟩ from rfl] at hset
            rw [show (⟨(upd mk x).p, geL q x.E, (upd mk x).F⟩ : Kid) = ⟨x.p, geL q x.E, x.F⟩ from rfl, hset] at hKn
            clear HS1 h2' hk2 hset
            have HKn := hidden hKn
            clear hKn
            have hbm := mem_geL.1 (show b ∈ geL q x.E by rw [HLn.out]; simp)
            have hbI := HIx.out b hbm.1
            have HBX := hidden hbm.1
            have hbq := hbm.2
            clear hbm
            by_cases hgt : q < b
            · go_wp2_with fail
              go_step3
              have hno2 : Hid (∀ z ∈ E, n ≤ z → b ≤ z) := fun z z1 z2 => by
                have hz : z ∈ geL q x.E := mem_geL.2 ⟨((HM.out z).1 z1).2 x (List.mem_of_getElem? HX.out), hno.out z z1 z2⟩
                have hr := HRx.out
                rw [HLn.out] at hz hr
                rcases List.mem_cons.1 hz with h | h
                · omega
                · have := (List.pairwise_cons.1 hr).1 z h; omega
              refine ⟨rfl, ⟨b, ms.set k q, _, _, _, _, _, _, _, _, _, _, _, _, _, _, _, _, _, _, _, _, _, _, _, _, _, _, _, _, _, _, _, rfl, hbI, by omega, hml2.out, hidden (fun y hy => by have := hle2.out y hy; omega), hno2, HKn.out.1, HKP.out.trans HKn.out.2⟩, ?_⟩
              show (9223372036854775807 - b).toNat < (9223372036854775807 - q).toNat
              have := hbI.2
              omega
            · obtain rfl : b = q := by omega
              go_wp2_with fail
              go_roundw
              case rel => exact ⟨k + 1, ms.set k b, by omega, rfl, by go_num, hml2.out, hle2, hidden (fun j y hj hy => by
                by_cases e : j = k
                · subst e
                  have := hy.symm.trans HX.out
                  cases this
                  exact ⟨hsk.out, HBX.out⟩
                · exact hall2.out j y (by omega) hy), HKn.out.1, HKP.out.trans HKn.out.2⟩
              case measure => simp [intOf]; omega
        · obtain rfl : m = k := by omega
          have k1 : ¬ (m : Int) < (m : Int) := by omega
          have hq0 : Hid (ms[0]? = some q) := (hall.out 0 (cs[0]'(by rw [HL.out]; exact h0)) h0 (List.getElem?_eq_getElem _)).1
          have hqE : Hid (q ∈ E) := (HM.out q).2 ⟨fun e => by have := HL.out; rw [e] at this; simp at this; omega, fun y hy => by
            obtain ⟨j, hj⟩ := List.mem_iff_getElem?.1 hy
            have hjl := (List.getElem?_eq_some_iff.1 hj).1
            exact (hall.out j y (by rw [← HL.out]; exact hjl) hj).2⟩
          go_wp2_with fail
          simp only [Exit.jump]
          go_ret2
          have hd := and_done (c := c) (w := w) h2 HL.out hml HE.out HM.out hle.out hnq hno.out hq0.out hK hkp
          exact ⟨(head_is HE.out hqE.out hnq hno.out).symm, hd.1, hd.2⟩
end Go.Proofs.YthncochjhbmceaaGreat

namespace Go.Proofs.YthncochjhbmceaaGreat
set_option maxRecDepth 100000
open Go.RowKit Go.Shelf

theorem wo_fin {S : Src} {w2 : World} {x y : Kid} {E : List Int} {n q b : Int} {F : Nat → Prop} (hE : rising E) (hm : ∀ z, z ∈ E ↔ z ∈ x.E ∧ z ∉ y.E) (hd : ∀ k, ¬ (x.F k ∧ y.F k)) (hF : ∀ k, F k ↔ x.F k ∨ y.F k) (hnq : n ≤ q) (hno : ∀ z ∈ E, n ≤ z → q ≤ z) (hb : ∀ z ∈ geL q x.E, b ≤ z)
    (hx : CurOf S w2 x.p (geL q x.E) x.F) (hy : CurOf S w2 y.p (geL b y.E) y.F) : IsWo S w2 (.iface 304 (.agg #[x.p, y.p])) (geL n E) F := by
  refine ⟨⟨x.p, geL q x.E, x.F⟩, ⟨y.p, geL b y.E, y.F⟩, rfl, hx, hy, hd, hF, rising_geL hE n, fun z => ?_⟩
  rw [mem_geL, hm z]
  constructor
  · rintro ⟨⟨h1, h2⟩, h3⟩
    exact ⟨mem_geL.2 ⟨h1, hno z ((hm z).2 ⟨h1, h2⟩) h3⟩, fun h => h2 (mem_geL.1 h).1⟩
  · rintro ⟨h1, h2⟩
    have := hb z h1
    have h3 := mem_geL.1 h1
    exact ⟨⟨h3.1, fun h => h2 (mem_geL.2 ⟨h, this⟩)⟩, by omega⟩
theorem wo_nil {S : Src} {w2 : World} {x y : Kid} {D : List Int} {F : Nat → Prop} (hd : ∀ k, ¬ (x.F k ∧ y.F k)) (hF : ∀ k, F k ↔ x.F k ∨ y.F k) (hx : CurOf S w2 x.p [] x.F) (hy : CurOf S w2 y.p D y.F) : IsWo S w2 (.iface 304 (.agg #[x.p, y.p])) [] F :=
  ⟨⟨x.p, [], x.F⟩, ⟨y.p, D, y.F⟩, rfl, hx, hy, hd, hF, List.Pairwise.nil, by simp⟩
theorem head_least {L : List Int} {b : Int} {r : List Int} (h : rising L) (e : L = b :: r) : ∀ z ∈ L, b ≤ z := fun z hz => by
  rw [e] at hz h
  rcases List.mem_cons.1 hz with h1 | h1
  · omega
  · have := (List.pairwise_cons.1 h).1 z h1; omega

set_option maxHeartbeats 3200000 in
theorem wo_seek {S : Src} (hF : FrameOk S) (hO : OldOk S) (hR : RiseOk S) (hP : PeekOk S) : SeekOk (IsWo S) := by
  rintro w v E F n ⟨x, y, rfl, h1, h2, h3, h4, h5, h6⟩ hn
  refine ⟨_, _, 251, .agg #[x.p, y.p], rfl, fun w => by kernel_rfl, enters_of Tryz.func251 (by kernel_rfl) rfl, ?_⟩
  have hOx := cur_old hO _ _ _ _ h1
  have hOy := cur_old hO _ _ _ _ h2
  have hRx := cur_rise hR _ _ _ _ h1
  have hRy := cur_rise hR _ _ _ _ h2
  have ex : geL (-9223372036854775808) x.E = x.E := geL_all fun z hz => (hRx.2 z hz).1
  have ey : geL (-9223372036854775808) y.E = y.E := geL_all fun z hz => (hRy.2 z hz).1
  have h1' := h1
  have h2' := h2
  rw [← ex] at h1'
  rw [← ey] at h2'
  have HX := hidden hRx
  have HY := hidden hRy
  have HM := hidden h6
  have HE := hidden h5
  have HF := hidden h4
  have HD := hidden h3
  have H1 := hidden h1'
  have H2 := hidden h2'
  clear h1 h2 h1' h2' ex ey h3 h4 h5 h6 hRx hRy
  go_enter Tryz.func251, Tryz.ntmps251
  go_upto_region 1 with (fail)
  have hX := Whole1.new w 304 #[x.p, y.p]
  have hkp : Kp F w (w.alloc (.cells #[x.p, y.p] 304)) := (Kp.refl _ _).alloc _
  have hfrm : ∀ k, k < w.heap.size → (w.alloc (.cells #[x.p, y.p] 304)).heap[k]? = w.heap[k]? := fun k hk => Below.heap_alloc w _ k hk
  have H1' := hidden (cur_frame hF _ _ _ _ _ H1.out hkp.size fun k hk => hfrm k (hOx k hk))
  have H2' := hidden (cur_frame hF _ _ _ _ _ H2.out hkp.size fun k hk => hfrm k (hOy k hk))
  have hXF : ¬ F w.heap.size := fun h => by
    rcases (HF.out _).1 h with h | h
    · have := hOx _ h; omega
    · have := hOy _ h; omega
  have hXs : w.heap.size < (w.alloc (.cells #[x.p, y.p] 304)).heap.size := hX.lt
  generalize w.alloc (.cells #[x.p, y.p] 304) = w1 at hX hkp H1' H2' hXs ⊢
  obtain ⟨X, hXe⟩ : ∃ X, w.heap.size = X := ⟨_, rfl⟩
  rw [hXe] at hX hXF hXs ⊢
  have HXE := hidden hXe
  have HX1 := hidden hX
  clear hfrm hXe hX H1 H2 hOx hOy
  go_loopw [1] (fun vn wr => ∃ (q mx my : Int), vn = .int .i64 q ∧ inI q ∧ n ≤ q ∧ mx ≤ q ∧ my ≤ q ∧ Hid (∀ z ∈ E, n ≤ z → q ≤ z) ∧ CurOf S wr x.p (geL mx x.E) x.F ∧ CurOf S wr y.p (geL my y.E) y.F ∧ Whole1 wr X 304 #[x.p, y.p] ∧ Kp F w wr) (fun vn _ => (9223372036854775807 - intOf vn).toNat)
  case atStart => exact ⟨n, -9223372036854775808, -9223372036854775808, rfl, hn, Int.le_refl _, hn.1, hn.1, hidden (fun _ _ h => h), H1'.out, H2'.out, HX1.out, hkp⟩
  case round =>
    clear hkp H1' H2' HX1
    obtain ⟨q, mx, my, rfl, hq, hnq, hmx, hmy, hno, hc1, hc2, hX, hkp⟩ := hrel
    have c0 := hX.cell 0
    have gx : geL q (geL mx x.E) = geL q x.E := by rw [geL_geL, Int.max_eq_left hmx]
    have S1 := hP wr x.p (geL mx x.E) x.F q hc1 hq
    rw [gx] at S1
    have HS1 := hidden S1
    have HOX := hidden (cur_old hO _ _ _ _ hc1)
    have HOY := hidden (cur_old hO _ _ _ _ hc2)
    have HC2 := hidden hc2
    have HXX := hidden hX
    have HKP := hidden hkp
    clear S1 gx hc1 hc2 hX hkp
    have hrx := rising_geL HX.out.1 q
    cases hL : geL q x.E with
    | nil =>
      rw [hL] at HS1
      have HLn := hidden hL
      have HE0 : Hid (geL n E = []) := List.eq_nil_iff_forall_not_mem.2 fun z hz => by
        obtain ⟨z1, z2⟩ := mem_geL.1 hz
        have : z ∈ geL q x.E := mem_geL.2 ⟨((HM.out z).1 z1).1, hno.out z z1 z2⟩
        rw [hL] at this; simp at this
      clear hL hrx
      go_wp2_with fail
      refine HS1.out.mono ?_
      rintro e w2 ⟨he, hc1, hk2⟩
      obtain rfl : e = .returned (.tuple #[.int .i64 0, .bool false]) := he
      have hc2 := cur_frame hF _ _ _ _ _ HC2.out hk2.size fun k hk => hk2.block k (HOY.out k hk) fun h => HD.out k ⟨h, hk⟩
      have hkF : Kp F wr w2 := hk2.wider fun k hk => (HF.out k).2 (.inl hk)
      have hfin := wo_nil HD.out HF.out hc1 hc2
      have HFin := hidden hfin
      have HKF := hidden (HKP.out.trans hkF)
      clear hc1 hc2 hk2 hkF hfin HS1
      go_wp2_with fail
      go_ret2
      rw [HE0.out]
      exact ⟨rfl, HFin.out, HKF.out⟩
    | cons b r =>
      rw [hL] at HS1
      have HLn := hidden hL
      have HLE := hidden (head_least hrx hL)
      have hbm := mem_geL.1 (show b ∈ geL q x.E by rw [hL]; simp)
      have hbI := HX.out.2 b hbm.1
      have HBX := hidden hbm.1
      have hqb := hbm.2
      have hno2 : Hid (∀ z ∈ E, n ≤ z → b ≤ z) := fun z z1 z2 => HLE.out z (mem_geL.2 ⟨((HM.out z).1 z1).1, hno.out z z1 z2⟩)
      clear hL hrx hbm
      go_wp2_with fail
      refine HS1.out.mono ?_
      rintro e w2 ⟨he, hc1, hk2⟩
      obtain rfl : e = .returned (.tuple #[.int .i64 b, .bool true]) := he
      have hc2 := cur_frame hF _ _ _ _ _ HC2.out hk2.size fun k hk => hk2.block k (HOY.out k hk) fun h => HD.out k ⟨h, hk⟩
      have hkF : Kp F wr w2 := hk2.wider fun k hk => (HF.out k).2 (.inl hk)
      have HC1 := hidden (show CurOf S w2 x.p (geL q x.E) x.F by rw [HLn.out]; exact hc1)
      have hX2 := whole_keep HXX.out (hkF.block X HXX.out.lt hXF)
      have c1 := hX2.cell 1
      have gy : geL b (geL my y.E) = geL b y.E := by rw [geL_geL, Int.max_eq_left (by omega)]
      have S2 := hP w2 y.p (geL my y.E) y.F b hc2 hbI
      rw [gy] at S2
      have HS2 := hidden S2
      have HXX2 := hidden hX2
      have HKP2 := hidden (HKP.out.trans hkF)
      have HOX2 := hidden (fun k hk => Nat.lt_of_lt_of_le (HOX.out k hk) hk2.size)
      clear S2 gy hc2 hX2 hkF hc1 hk2 HS1 HC2 HXX HKP HOX HOY c0
      have HFN := hidden (fun (w3 : World) (h1 : CurOf S w3 x.p (geL q x.E) x.F) (h2 : CurOf S w3 y.p (geL b y.E) y.F) => wo_fin HE.out HM.out HD.out HF.out hnq hno.out HLE.out h1 h2)
      have HC1N := hidden (fun (w3 : World) (hk3 : Kp y.F w2 w3) => cur_frame hF _ _ _ _ _ HC1.out hk3.size fun k hk => hk3.block k (HOX2.out k hk) fun h => HD.out k ⟨hk, h⟩)
      have HKN := hidden (fun (w3 : World) (hk3 : Kp y.F w2 w3) => HKP2.out.trans (hk3.wider fun k hk => (HF.out k).2 (.inr hk)))
      cases hM : geL b y.E with
      | nil =>
        rw [hM] at HS2
        have HMn := hidden hM
        have hbE : Hid (b ∈ E) := (HM.out b).2 ⟨HBX.out, fun h => by
          have : b ∈ geL b y.E := mem_geL.2 ⟨h, Int.le_refl _⟩
          rw [hM] at this; simp at this⟩
        clear hM
        go_wp2_with fail
        refine HS2.out.mono ?_
        rintro e w3 ⟨he, hc3, hk3⟩
        obtain rfl : e = .returned (.tuple #[.int .i64 0, .bool false]) := he
        have hfin := HFN.out w3 (HC1N.out w3 hk3) (by rw [HMn.out]; exact hc3)
        have HFin := hidden (And.intro hfin (HKN.out w3 hk3))
        clear hc3 hk3 hfin HS2
        go_wp2_with fail
        go_ret2
        exact ⟨(head_is HE.out hbE.out (by omega) hno2.out).symm, HFin.out.1, HFin.out.2⟩
      | cons d s =>
        rw [hM] at HS2
        have HMn := hidden hM
        have HMle := hidden (head_least (rising_geL HY.out.1 b) hM)
        have hdm := mem_geL.1 (show d ∈ geL b y.E by rw [hM]; simp)
        have HDY := hidden hdm.1
        have hbd := hdm.2
        clear hM hdm
        by_cases hdb : d = b
        · subst hdb
          have hdec : (d != d) = false := by simp
          by_cases hmx : d = 9223372036854775807
          · have HE0 : Hid (geL n E = []) := List.eq_nil_iff_forall_not_mem.2 fun z hz => by
              obtain ⟨z1, z2⟩ := mem_geL.1 hz
              have h1 := hno2.out z z1 z2
              have h2 := (HX.out.2 z ((HM.out z).1 z1).1).2
              have e : z = d := by omega
              subst e
              exact ((HM.out z).1 z1).2 HDY.out
            have hmb : (d == 9223372036854775807) = true := by simpa using hmx
            have HMX := hidden hmx
            clear hmx
            go_wp2_with fail
            refine HS2.out.mono ?_
            rintro e w3 ⟨he, hc3, hk3⟩
            obtain rfl : e = .returned (.tuple #[.int .i64 d, .bool true]) := he
            have hfin := HFN.out w3 (HC1N.out w3 hk3) (by rw [HMn.out]; exact hc3)
            have HFin := hidden (And.intro hfin (HKN.out w3 hk3))
            clear hc3 hk3 hfin HS2
            go_wp2_with fail
            go_ret2
            rw [HE0.out] at HFin ⊢
            exact ⟨rfl, HFin.out.1, HFin.out.2⟩
          · have hno3 : Hid (∀ z ∈ E, n ≤ z → d + 1 ≤ z) := fun z z1 z2 => by
              have h1 := hno2.out z z1 z2
              have h2 : z ≠ d := fun e => ((HM.out z).1 z1).2 (by rw [e]; exact HDY.out)
              omega
            have hd1 : d + 1 ≤ 9223372036854775807 := by have := hbI.2; omega
            have hd0 := hbI.1
            go_wp2_with fail
            refine HS2.out.mono ?_
            rintro e w3 ⟨he, hc3, hk3⟩
            obtain rfl : e = .returned (.tuple #[.int .i64 d, .bool true]) := he
            have hc3' : CurOf S w3 y.p (geL d y.E) y.F := by rw [HMn.out]; exact hc3
            have hx3 := HC1N.out w3 hk3
            have hX3 := whole_keep HXX2.out (hk3.block X HXX2.out.lt fun h => hXF ((HF.out X).2 (.inr h)))
            have HREL := hidden (And.intro hx3 (And.intro hc3' (And.intro hX3 (HKN.out w3 hk3))))
            clear hc3 hk3 hc3' hx3 hX3 HS2
            go_wp2_with fail
            go_roundw
            case rel => exact ⟨d + 1, q, d, by go_num, ⟨by omega, hd1⟩, by omega, by omega, by omega, hno3, HREL.out.1, HREL.out.2.1, HREL.out.2.2.1, HREL.out.2.2.2⟩
            case measure => simp [intOf]; omega
        · have hbE : Hid (b ∈ E) := (HM.out b).2 ⟨HBX.out, fun h => hdb (by
            have := HMle.out b (mem_geL.2 ⟨h, Int.le_refl _⟩); omega)⟩
          have hdec : (d != b) = true := by simpa using hdb
          go_wp2_with fail
          refine HS2.out.mono ?_
          rintro e w3 ⟨he, hc3, hk3⟩
          obtain rfl : e = .returned (.tuple #[.int .i64 d, .bool true]) := he
          have hfin := HFN.out w3 (HC1N.out w3 hk3) (by rw [HMn.out]; exact hc3)
          have HFin := hidden (And.intro hfin (HKN.out w3 hk3))
          clear hc3 hk3 hfin HS2
          go_wp2_with fail
          go_ret2
          exact ⟨(head_is HE.out hbE.out (by omega) hno2.out).symm, HFin.out.1, HFin.out.2⟩
end Go.Proofs.YthncochjhbmceaaGreat

namespace Go.Proofs.YthncochjhbmceaaGreat
set_option maxRecDepth 100000
open Go Go.Shelf Go.Sort Go.RowKit
def lays189_ren : Go.Shelf.Ren := ⟨fun | 189 => 164 | 125 => 86 | 257 => 191 | 128 => 139 | 129 => 140 | 294 => 204 | 295 => 205 | 296 => 206 | 297 => 207 | 298 => 208 | 299 => 209 | 216 => 210 | 300 => 211 | 301 => 212 | 328 => 216 | 329 => 168 | 330 => 169 | 331 => 217 | 332 => 218 | 215 => 219 | 343 => 225 | n => n, fun | 28 => 127 | 3 => 3 | 46 => 214 | 0 => 0 | 51 => 267 | 53 => 66 | 4 => 4 | 183 => 261 | 182 => 260 | 131 => 103 | 5 => 5 | 9 => 9 | 218 => 311 | 222 => 315 | 228 => 341 | 229 => 342 | n => n, fun | n => n⟩
theorem lays189 : Go.Proofs.Lays.n189 Tryz.prog lays189_ren := {
  mixed := by kernel_rfl
  f125 := Tryz.func86.trans (congrArg some (by kernel_rfl))
  f128 := Tryz.func139.trans (congrArg some (by kernel_rfl))
  f129 := Tryz.func140.trans (congrArg some (by kernel_rfl))
  f189 := Tryz.func164.trans (congrArg some (by kernel_rfl))
  f215 := Tryz.func219.trans (congrArg some (by kernel_rfl))
  f216 := Tryz.func210.trans (congrArg some (by kernel_rfl))
  f257 := Tryz.func191.trans (congrArg some (by kernel_rfl))
  f294 := Tryz.func204.trans (congrArg some (by kernel_rfl))
  f295 := Tryz.func205.trans (congrArg some (by kernel_rfl))
  f296 := Tryz.func206.trans (congrArg some (by kernel_rfl))
  f297 := Tryz.func207.trans (congrArg some (by kernel_rfl))
  f298 := Tryz.func208.trans (congrArg some (by kernel_rfl))
  f299 := Tryz.func209.trans (congrArg some (by kernel_rfl))
  f300 := Tryz.func211.trans (congrArg some (by kernel_rfl))
  f301 := Tryz.func212.trans (congrArg some (by kernel_rfl))
  f328 := Tryz.func216.trans (congrArg some (by kernel_rfl))
  f329 := Tryz.func168.trans (congrArg some (by kernel_rfl))
  f330 := Tryz.func169.trans (congrArg some (by kernel_rfl))
  f331 := Tryz.func217.trans (congrArg some (by kernel_rfl))
  f332 := Tryz.func218.trans (congrArg some (by kernel_rfl))
  f343 := Tryz.func225.trans (congrArg some (by kernel_rfl))
  t0 := Tryz.underlying0
  a0 := Tryz.isAgg0
  z0 := Tryz.sizeOf0
  v0 := Tryz.zeroValue0
  t3 := Tryz.underlying3
  a3 := Tryz.isAgg3
  z3 := Tryz.sizeOf3
  v3 := Tryz.zeroValue3
  t4 := Tryz.underlying4
  a4 := Tryz.isAgg4
  z4 := Tryz.sizeOf4
  v4 := Tryz.zeroValue4
  t5 := Tryz.underlying5
  a5 := Tryz.isAgg5
  z5 := Tryz.sizeOf5
  v5 := Tryz.zeroValue5
  t9 := Tryz.underlying9
  a9 := Tryz.isAgg9
  z9 := Tryz.sizeOf9
  v9 := Tryz.zeroValue9
  t28 := Tryz.underlying127
  a28 := Tryz.isAgg127
  z28 := Tryz.sizeOf127
  v28 := Tryz.zeroValue127
  t46 := Tryz.underlying214
  a46 := Tryz.isAgg214
  z46 := Tryz.sizeOf214
  v46 := Tryz.zeroValue214
  t51 := Tryz.underlying267
  a51 := Tryz.isAgg267
  z51 := Tryz.sizeOf267
  v51 := Tryz.zeroValue267
  t53 := Tryz.underlying66
  a53 := Tryz.isAgg66
  z53 := Tryz.sizeOf66
  v53 := Tryz.zeroValue66
  t131 := Tryz.underlying103
  a131 := Tryz.isAgg103
  z131 := Tryz.sizeOf103
  v131 := Tryz.zeroValue103
  t182 := Tryz.underlying260
  a182 := Tryz.isAgg260
  z182 := Tryz.sizeOf260
  v182 := Tryz.zeroValue260
  t183 := Tryz.underlying261
  a183 := Tryz.isAgg261
  z183 := Tryz.sizeOf261
  v183 := Tryz.zeroValue261
  t218 := Tryz.underlying311
  a218 := Tryz.isAgg311
  z218 := Tryz.sizeOf311
  v218 := Tryz.zeroValue311
  t222 := Tryz.underlying315
  a222 := Tryz.isAgg315
  z222 := Tryz.sizeOf315
  v222 := Tryz.zeroValue315
  t228 := Tryz.underlying341
  a228 := Tryz.isAgg341
  z228 := Tryz.sizeOf341
  v228 := Tryz.zeroValue341
  t229 := Tryz.underlying342
  a229 := Tryz.isAgg342
  z229 := Tryz.sizeOf342
  v229 := Tryz.zeroValue342 }
theorem slices_Sort_int (blk off cap : Nat) (zs : List Int) (w : World) (hH : Holds (Value.int .i64) w blk off zs.toArray) (hblk : blk < w.heap.size) (hsz : zs.length < 4611686018427387904) :
    Calls Tryz.prog 164 #[.slice (some ⟨blk, off, none⟩) zs.length cap] w fun e w' =>
      e = .returned (.tuple #[]) ∧ ∃ n os, w' = grow (putRow (Value.int .i64) (Sort.ahead w n) blk off (zs.mergeSort fun x y => decide (x ≤ y)).toArray) os := Any.slices_Sort_int lays189 blk off cap zs w hH hblk hsz
def laysNm215_ren : Go.Shelf.Ren := ⟨fun | 15 => 163 | n => n, fun | 22 => 127 | 3 => 3 | 4 => 4 | n => n, fun | n => n⟩
theorem laysNm215 : Go.Proofs.Lays2.n15 Tryz.prog laysNm215_ren := {
  mixed := by kernel_rfl
  f15 := Tryz.func163.trans (congrArg some (by kernel_rfl))
  t3 := Tryz.underlying3
  a3 := Tryz.isAgg3
  z3 := Tryz.sizeOf3
  v3 := Tryz.zeroValue3
  t4 := Tryz.underlying4
  a4 := Tryz.isAgg4
  z4 := Tryz.sizeOf4
  v4 := Tryz.zeroValue4
  t22 := Tryz.underlying127
  a22 := Tryz.isAgg127
  z22 := Tryz.sizeOf127
  v22 := Tryz.zeroValue127
  i3 := by kernel_rfl }
theorem slices_Clone_int (b off n c : Nat) (zs : List Int) (w : World) (hz : n ≤ zs.length) (hbig : n * 8 ≤ 140737488355328) (hc : ∀ j, j < zs.length → w.cell? ⟨b, off + j, none⟩ = some (.int .i64 (zs.getD j 0))) :
    Calls Tryz.prog 163 #[.slice (some ⟨b, off, none⟩) n c] w fun e w' => ∃ v', e = .returned v' ∧ w'.ownsRow w.heap.size 3 1 v' n ((zs.take n).map (Value.int .i64)) ∧ v' ≠ .slice none 0 0 ∧ Below w.heap.size w w' := Any.slices_Clone_int laysNm215 b off n c zs w hz hbig hc
theorem slices_Clone_int_nil (n c : Nat) (w : World) :
    Calls Tryz.prog 163 #[.slice none n c] w fun e w' => e = .returned (.slice none 0 0) ∧ w' = w := Any.slices_Clone_int_nil laysNm215 n c w
theorem slices_Clone_int_zero (a : Addr) (c : Nat) (w : World) :
    Calls Tryz.prog 163 #[.slice (some a) 0 c] w fun e w' => ∃ v', e = .returned v' ∧ w'.ownsRow w.heap.size 3 1 v' 0 [] ∧ v' ≠ .slice none 0 0 ∧ Below w.heap.size w w' := Any.slices_Clone_int_zero laysNm215 a c w
def laysNm220_ren : Go.Shelf.Ren := ⟨fun | 20 => 165 | n => n, fun | 22 => 127 | 3 => 3 | 4 => 4 | 0 => 0 | n => n, fun | n => n⟩
theorem laysNm220 : Go.Proofs.Lays2.n20 Tryz.prog laysNm220_ren := {
  mixed := by kernel_rfl
  f20 := Tryz.func165.trans (congrArg some (by kernel_rfl))
  t0 := Tryz.underlying0
  a0 := Tryz.isAgg0
  z0 := Tryz.sizeOf0
  v0 := Tryz.zeroValue0
  t3 := Tryz.underlying3
  a3 := Tryz.isAgg3
  z3 := Tryz.sizeOf3
  v3 := Tryz.zeroValue3
  t4 := Tryz.underlying4
  a4 := Tryz.isAgg4
  z4 := Tryz.sizeOf4
  v4 := Tryz.zeroValue4
  t22 := Tryz.underlying127
  a22 := Tryz.isAgg127
  z22 := Tryz.sizeOf127
  v22 := Tryz.zeroValue127
  i3 := by kernel_rfl }
theorem slices_Compact_int (blk off cap : Nat) (zs : List Int) (w : World) (hH : Holds (Value.int .i64) w blk off zs.toArray) (hsz : zs.length ≤ 9223372036854775807) (hcap : zs.length ≤ cap) :
    Calls Tryz.prog 165 #[.slice (some ⟨blk, off, none⟩) zs.length cap] w fun e w' => e = .returned (.slice (some ⟨blk, off, none⟩) (Lib.compact zs).length cap) ∧ ∃ q, w' = putRow (Value.int .i64) (Sort.ahead w q) blk off (Lib.compact zs ++ List.replicate (zs.length - (Lib.compact zs).length) 0).toArray := Any.slices_Compact_int laysNm220 blk off cap zs w hH hsz hcap
theorem slices_Compact_int_empty (a : Option Addr) (cap : Nat) (w : World) :
    Calls Tryz.prog 165 #[.slice a 0 cap] w fun e w' => e = .returned (.slice a 0 cap) ∧ w' = w := Any.slices_Compact_int_empty laysNm220 a cap w
def laysNm237_ren : Go.Shelf.Ren := ⟨fun | 37 => 219 | n => n, fun | 3 => 3 | 4 => 4 | n => n, fun | n => n⟩
theorem laysNm237 : Go.Proofs.Lays2.n37 Tryz.prog laysNm237_ren := {
  mixed := by kernel_rfl
  f37 := Tryz.func219.trans (congrArg some (by kernel_rfl))
  t3 := Tryz.underlying3
  a3 := Tryz.isAgg3
  z3 := Tryz.sizeOf3
  v3 := Tryz.zeroValue3
  t4 := Tryz.underlying4
  a4 := Tryz.isAgg4
  z4 := Tryz.sizeOf4
  v4 := Tryz.zeroValue4 }
def laysNm232_ren : Go.Shelf.Ren := ⟨fun | 32 => 250 | n => n, fun | 3 => 3 | 4 => 4 | n => n, fun | n => n⟩
theorem laysNm232 : Go.Proofs.Lays2.n32 Tryz.prog laysNm232_ren := {
  mixed := by kernel_rfl
  f32 := Tryz.func250.trans (congrArg some (by kernel_rfl))
  t3 := Tryz.underlying3
  a3 := Tryz.isAgg3
  z3 := Tryz.sizeOf3
  v3 := Tryz.zeroValue3
  t4 := Tryz.underlying4
  a4 := Tryz.isAgg4
  z4 := Tryz.sizeOf4
  v4 := Tryz.zeroValue4 }
def laysNm231_ren : Go.Shelf.Ren := ⟨fun | 31 => 210 | 37 => 219 | n => n, fun | 3 => 3 | 4 => 4 | n => n, fun | n => n⟩
theorem laysNm231 : Go.Proofs.Lays2.n31 Tryz.prog laysNm231_ren := {
  mixed := by kernel_rfl
  f31 := Tryz.func210.trans (congrArg some (by kernel_rfl))
  f37 := Tryz.func219.trans (congrArg some (by kernel_rfl))
  t3 := Tryz.underlying3
  a3 := Tryz.isAgg3
  z3 := Tryz.sizeOf3
  v3 := Tryz.zeroValue3
  t4 := Tryz.underlying4
  a4 := Tryz.isAgg4
  z4 := Tryz.sizeOf4
  v4 := Tryz.zeroValue4 }
def laysNm225_ren : Go.Shelf.Ren := ⟨fun | 25 => 249 | 31 => 210 | 32 => 250 | 37 => 219 | n => n, fun | 22 => 127 | 3 => 3 | 4 => 4 | 40 => 214 | 0 => 0 | n => n, fun | n => n⟩
theorem laysNm225 : Go.Proofs.Lays2.n25 Tryz.prog laysNm225_ren := {
  mixed := by kernel_rfl
  f25 := Tryz.func249.trans (congrArg some (by kernel_rfl))
  f31 := Tryz.func210.trans (congrArg some (by kernel_rfl))
  f32 := Tryz.func250.trans (congrArg some (by kernel_rfl))
  f37 := Tryz.func219.trans (congrArg some (by kernel_rfl))
  t0 := Tryz.underlying0
  a0 := Tryz.isAgg0
  z0 := Tryz.sizeOf0
  v0 := Tryz.zeroValue0
  t3 := Tryz.underlying3
  a3 := Tryz.isAgg3
  z3 := Tryz.sizeOf3
  v3 := Tryz.zeroValue3
  t4 := Tryz.underlying4
  a4 := Tryz.isAgg4
  z4 := Tryz.sizeOf4
  v4 := Tryz.zeroValue4
  t22 := Tryz.underlying127
  a22 := Tryz.isAgg127
  z22 := Tryz.sizeOf127
  v22 := Tryz.zeroValue127
  t40 := Tryz.underlying214
  a40 := Tryz.isAgg214
  z40 := Tryz.sizeOf214
  v40 := Tryz.zeroValue214 }
theorem slices_BinarySearch_int (b off n c : Nat) (zs : List Int) (x : Int) (w : World) (hz : n ≤ zs.length) (hbig : n < 4611686018427387904) (hc : ∀ j, j < zs.length → w.cell? ⟨b, off + j, none⟩ = some (.int .i64 (zs.getD j 0))) (hs : (zs.take n).Pairwise (· ≤ ·)) :
    Calls Tryz.prog 249 #[.slice (some ⟨b, off, none⟩) n c, .int .i64 x] w fun e w' => e = .returned (.tuple #[.int .i64 ((zs.take n).countP (· < x) : Nat), .bool ((zs.take n).contains x)]) ∧ ∃ q, w' = w.drewN q := Any.slices_BinarySearch_int laysNm225 b off n c zs x w hz hbig hc hs
theorem slices_Sort_int_none (p : Option Addr) (cap : Nat) (w : World) :
    Calls Tryz.prog 164 #[.slice p 0 cap] w fun e w' => e = .returned (.tuple #[]) ∧ w' = w := Any.slices_Sort_int_none lays189 p cap w
theorem slices_BinarySearch_int_empty (a : Option Addr) (c : Nat) (x : Int) (w : World) :
    Calls Tryz.prog 249 #[.slice a 0 c, .int .i64 x] w fun e w' => e = .returned (.tuple #[.int .i64 0, .bool false]) ∧ w' = w := Any.slices_BinarySearch_int_empty laysNm225 a c x w
end Go.Proofs.YthncochjhbmceaaGreat
