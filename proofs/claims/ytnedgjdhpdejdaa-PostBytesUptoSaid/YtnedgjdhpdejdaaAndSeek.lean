/- (post.and).seek, walked. -/
import Derived.Test.YtnedgjdhpdejdaaOrSeek
import Derived.WalkMore
import Derived.ScopeJumps
namespace Go.Proofs.Ytnedgjdhpdejdaa
set_option maxRecDepth 100000
open Go.RowKit Go.Shelf

def ksOf (cs : List Kid) (ms : List Int) : List Kid := List.zipWith (fun x m => upd m x) cs ms
theorem ksOf_len {cs : List Kid} {ms : List Int} (h : ms.length = cs.length) : (ksOf cs ms).length = cs.length := by simp [ksOf, h]
theorem ksOf_at {cs : List Kid} {ms : List Int} {j : Nat} {x : Kid} {m : Int} (h : cs[j]? = some x) (k : ms[j]? = some m) : (ksOf cs ms)[j]? = some (upd m x) := by
  simp [ksOf, List.getElem?_zipWith, h, k]
theorem ksOf_set {cs : List Kid} {ms : List Int} {j : Nat} {x : Kid} {m q : Int} (h : cs[j]? = some x) (k : ms[j]? = some m) (hq : m ≤ q) : (ksOf cs ms).set j ⟨(upd m x).p, geL q (upd m x).E, (upd m x).F⟩ = ksOf cs (ms.set j q) := by
  refine List.ext_getElem? fun i => ?_
  have hl : j < (ksOf cs ms).length := (List.getElem?_eq_some_iff.1 (ksOf_at h k)).1
  have hlm : j < ms.length := (List.getElem?_eq_some_iff.1 k).1
  by_cases e : i = j
  · subst e
    rw [List.getElem?_set_self hl, ksOf_at h (List.getElem?_set_self hlm)]
    simp only [upd, geL_geL, Int.max_eq_left hq]
  · rw [List.getElem?_set_ne (fun h => e h.symm)]
    simp only [ksOf, List.getElem?_zipWith]
    rw [List.getElem?_set_ne (fun h => e h.symm)]
theorem ksOf_min {cs : List Kid} (h : ∀ y ∈ cs, ∀ x ∈ y.E, inI x) : ksOf cs (List.replicate cs.length (-9223372036854775808)) = cs := by
  refine List.ext_getElem? fun i => ?_
  rcases Nat.lt_or_ge i cs.length with hi | hi
  · have hx : cs[i]? = some cs[i] := List.getElem?_eq_getElem hi
    rw [ksOf_at hx (by rw [List.getElem?_replicate, if_pos hi]), hx]
    have : upd (-9223372036854775808) cs[i] = cs[i] := by
      unfold upd
      rw [geL_all fun x hx => (h _ (List.getElem_mem hi) x hx).1]
    rw [this]
  · rw [List.getElem?_eq_none (by rw [ksOf_len (by simp)]; exact hi), List.getElem?_eq_none hi]
theorem mem_ksOf {cs : List Kid} {ms : List Int} (hl : ms.length = cs.length) {x : Int} : (∀ y ∈ ksOf cs ms, x ∈ y.E) ↔ ∀ (j : Nat) (y : Kid) (m : Int), cs[j]? = some y → ms[j]? = some m → x ∈ y.E ∧ m ≤ x := by
  constructor
  · intro h j y m hy hm
    exact mem_geL.1 (h (upd m y) (List.mem_of_getElem? (ksOf_at hy hm)))
  · intro h z hz
    obtain ⟨j, hj⟩ := List.mem_iff_getElem?.1 hz
    have hjl : j < cs.length := by have := (List.getElem?_eq_some_iff.1 hj).1; rw [ksOf_len hl] at this; exact this
    have hy : cs[j]? = some cs[j] := List.getElem?_eq_getElem hjl
    have hm : ms[j]? = some (ms[j]'(by omega)) := List.getElem?_eq_getElem _
    rw [ksOf_at hy hm] at hj
    cases hj
    exact mem_geL.2 (h j _ _ hy hm)
theorem and_fin {cs : List Kid} {ms : List Int} {n q : Int} {E : List Int} (hl : ms.length = cs.length) (hm : ∀ x, x ∈ E ↔ cs ≠ [] ∧ ∀ y ∈ cs, x ∈ y.E) (hle : ∀ m ∈ ms, m ≤ q) (hnq : n ≤ q) (hno : ∀ z ∈ E, n ≤ z → q ≤ z) {j : Nat} (hj : ms[j]? = some q) (x : Int) :
    x ∈ geL n E ↔ ksOf cs ms ≠ [] ∧ ∀ y ∈ ksOf cs ms, x ∈ y.E := by
  have hjl := (List.getElem?_eq_some_iff.1 hj).1
  have hne : cs ≠ [] := fun e => by rw [e] at hl; simp at hl; rw [hl] at hjl; simp at hjl
  have hne2 : ksOf cs ms ≠ [] := fun e => by have := ksOf_len hl; rw [e] at this; simp at this; omega
  rw [mem_ksOf hl, mem_geL, hm x]
  constructor
  · rintro ⟨⟨_, h1⟩, h2⟩
    refine ⟨hne2, fun i y m hy hmi => ⟨h1 y (List.mem_of_getElem? hy), ?_⟩⟩
    have := hno x ((hm x).2 ⟨hne, h1⟩) h2
    have := hle m (List.mem_of_getElem? hmi)
    omega
  · rintro ⟨_, h1⟩
    refine ⟨⟨hne, fun y hy => ?_⟩, ?_⟩
    · obtain ⟨i, hi⟩ := List.mem_iff_getElem?.1 hy
      have hil := (List.getElem?_eq_some_iff.1 hi).1
      exact (h1 i y _ hi (List.getElem?_eq_getElem (show i < ms.length by omega))).1
    · have hy : cs[j]? = some (cs[j]'(by omega)) := List.getElem?_eq_getElem _
      have := (h1 j _ q hy hj).2
      omega
theorem jumps3 {P : Program} {a : Act} {w : World} {Q : Exit → Act → World → Prop} {c rest : Code} (l : Nat) (J : Act → World → Prop) (μ : Act → World → Nat) (hf : findLabel c l = some (.seq .skip rest))
    (first : (∀ a w, J a w → rest.wp P (Exit.jump l J Q) a w) → c.wp P (Exit.jump l J Q) a w)
    (pass : ∀ a w, J a w → rest.wp P (Exit.jump l (fun a' w' => J a' w' ∧ μ a' w' < μ a w) Q) a w) : (Code.scope c).wp P Q a w :=
  wp_scope_jumps l J μ hf (first fun a w h => Code.wp_mono (fun e _ _ k => by
    cases e <;> first | exact k | exact ⟨k.1, k.2.1⟩) (pass a w h)) fun a w h => wp_seq (wp_skip (pass a w h))

def AndJ (S : Src) (A : Option Addr) (m c : Nat) (cs : List Kid) (E : List Int) (n : Int) (F : Nat → Prop) (w : World) : Act → World → Prop :=
  fun a' w' => ∃ (q : Int) (ms : List Int) (u2 u3 u4 u5 u6 u7 u8 u9 u10 u11 u12 u13 u14 u15 u16 u17 u18 u19 u20 u21 u22 u23 u24 u25 u26 u27 u28 u29 u30 u31 u32 : Value), a' = { tmps := #[.slice A m c, .int .i64 q, u2, u3, u4, u5, u6, u7, u8, u9, u10, u11, u12, u13, u14, u15, u16, u17, u18, u19, u20, u21, u22, u23, u24, u25, u26, u27, u28, u29, u30, u31, u32], defers := [] } ∧ inI q ∧ n ≤ q ∧ ms.length = m ∧ Hid (∀ x ∈ ms, x ≤ q) ∧ Hid (∀ z ∈ E, n ≤ z → q ≤ z) ∧ Kids S w' A (ksOf cs ms) F ∧ Kp F w w'
theorem and_done {S : Src} {w w2 : World} {A : Option Addr} {m c : Nat} {cs : List Kid} {ms : List Int} {E : List Int} {n q : Int} {F : Nat → Prop} (h2 : m ≤ 4611686018427387904) (hL : cs.length = m) (hl : ms.length = m) (hE : rising E) (hm : ∀ x, x ∈ E ↔ cs ≠ [] ∧ ∀ y ∈ cs, x ∈ y.E) (hle : ∀ m ∈ ms, m ≤ q) (hnq : n ≤ q) (hno : ∀ z ∈ E, n ≤ z → q ≤ z) {j : Nat} (hj : ms[j]? = some q) (hK : Kids S w2 A (ksOf cs ms) F) (hkp : Kp F w w2) :
    IsAnd S w2 (.iface 51 (.slice A m c)) (geL n E) F ∧ Kp F w w2 :=
  ⟨⟨A, m, c, ksOf cs ms, rfl, by rw [ksOf_len (by omega)]; exact hL, h2, hK, rising_geL hE n, and_fin (by omega) hm hle hnq hno hj⟩, hkp⟩
theorem head_is {E : List Int} {n q : Int} (hE : rising E) (hq : q ∈ E) (hnq : n ≤ q) (hno : ∀ z ∈ E, n ≤ z → q ≤ z) : ansL (geL n E) = .returned (.tuple #[.int .i64 q, .bool true]) := by
  have hr := rising_geL hE n
  have hm : q ∈ geL n E := mem_geL.2 ⟨hq, hnq⟩
  cases hL : geL n E with
  | nil => rw [hL] at hm; simp at hm
  | cons b r =>
    have hb : b ∈ geL n E := by rw [hL]; simp
    obtain ⟨h1, h2⟩ := mem_geL.1 hb
    have h3 := hno b h1 h2
    rw [hL] at hm hr
    rcases List.mem_cons.1 hm with h | h
    · rw [h]; rfl
    · have := (List.pairwise_cons.1 hr).1 q h; omega

set_option maxHeartbeats 3200000 in
theorem and_seek {S : Src} (hF : FrameOk S) (hO : OldOk S) (hR : RiseOk S) (hP : PeekOk S) : SeekOk (IsAnd S) := by
  rintro w v E F n ⟨A, m, c, cs, rfl, h1, h2, h3, h4, h5⟩ hn
  refine ⟨_, _, 74, .slice A m c, rfl, fun w => by kernel_rfl, enters_of Try.func74 (by kernel_rfl) rfl, ?_⟩
  have HK := hidden h3
  have HL := hidden h1
  have HM := hidden h5
  have HE := hidden h4
  have hI := hidden (fun y (hy : y ∈ cs) => (cur_rise hR _ _ _ _ (h3.2.1 y hy)).2)
  clear h1 h3 h4 h5
  rcases Nat.eq_zero_or_pos m with h0 | h0
  · subst h0
    obtain rfl : cs = [] := List.eq_nil_of_length_eq_zero HL.out
    have hE0 : E = [] := List.eq_nil_iff_forall_not_mem.2 fun x hx => ((HM.out x).1 hx).1 rfl
    have HE0 := hidden hE0
    clear hE0
    go_enter Try.func74, Try.ntmps74
    go_wp2_with fail
    go_step3
    go_wp2_with fail
    rw [Exit.noGoto_ret]
    go_ret2
    rw [HE0.out]
    exact ⟨rfl, ⟨A, 0, c, [], rfl, rfl, h2, HK.out, List.Pairwise.nil, by simp [geL]⟩, Kp.refl _ _⟩
  · have hm0 : ¬ (m : Int) = 0 := by omega
    go_enter Try.func74, Try.ntmps74
    go_wp2_with fail
    refine jumps3 0 (AndJ S A m c cs E n F w) (fun a' _ => (9223372036854775807 - intOf (a'.tmps.getD 1 undef)).toNat) rfl ?_ ?_
    · intro HP
      go_wp2_with fail
      go_step3
      simp only [Exit.then]
      rename_i hKK
      refine hKK _ _ (HP _ _ ?_)
      exact ⟨n, List.replicate m (-9223372036854775808), _, _, _, _, _, _, _, _, _, _, _, _, _, _, _, _, _, _, _, _, _, _, _, _, _, _, _, _, _, _, _, rfl, hn, Int.le_refl _, List.length_replicate, hidden (fun x hx => by rw [(List.mem_replicate.1 hx).2]; exact hn.1), hidden (fun _ _ h => h), by rw [← HL.out, ksOf_min hI.out]; exact HK.out, Kp.refl _ _⟩
    · rintro a' w' ⟨q, ms, u2, u3, u4, u5, u6, u7, u8, u9, u10, u11, u12, u13, u14, u15, u16, u17, u18, u19, u20, u21, u22, u23, u24, u25, u26, u27, u28, u29, u30, u31, u32, rfl, hq, hnq, hml, hle, hno, hK, hkp⟩
      go_wp2_with fail
      go_loopw [1, 15] (fun v1 vi wr => ∃ (k : Nat) (ms : List Int), k ≤ m ∧ v1 = .int .i64 q ∧ vi = .int .i64 k ∧ ms.length = m ∧ Hid (∀ x ∈ ms, x ≤ q) ∧ Hid (∀ (j : Nat) (y : Kid), j < k → cs[j]? = some y → ms[j]? = some q ∧ q ∈ y.E) ∧ Kids S wr A (ksOf cs ms) F ∧ Kp F w wr) (fun _ vi _ => m - (intOf vi).toNat)
      case atStart => exact ⟨0, ms, Nat.zero_le _, rfl, rfl, hml, hle, hidden (fun j _ hj => absurd hj (Nat.not_lt_zero _)), hK, hkp⟩
      case round =>
        clear hK hkp hml hle
        obtain ⟨k, ms, hk, rfl, rfl, hml, hle, hall, hK, hkp⟩ := hrel
        by_cases hlt : k < m
        · obtain ⟨x, hx⟩ : ∃ x, cs[k]? = some x := ⟨_, List.getElem?_eq_getElem (by rw [HL.out]; omega)⟩
          obtain ⟨mk, hmk⟩ : ∃ mk, ms[k]? = some mk := ⟨_, List.getElem?_eq_getElem (by omega)⟩
          have hxk := ksOf_at hx hmk
          have hmq := hle.out mk (List.mem_of_getElem? hmk)
          obtain ⟨g, o, rfl, hc⟩ := kid_cell hK hxk
          have hc' : wr.cell? ⟨g, o + k, none⟩ = some x.p := hc
          have hcur := hK.2.1 (upd mk x) (List.mem_of_getElem? hxk)
          have hg : geL q (upd mk x).E = geL q x.E := by simp only [upd, geL_geL, Int.max_eq_left hmq]
          have S1 := hP wr x.p (upd mk x).E x.F q hcur hq
          have HKx := fun (w' : World) (h : CurOf S w' x.p (geL q (upd mk x).E) x.F) (hk : Kp x.F wr w') => kids_step hF hO hK hxk h hk
          have hset := ksOf_set hx hmk hmq
          have hrx := rising_geL (cur_rise hR _ _ _ _ hcur).1 q
          have hIx := hI.out x (List.mem_of_getElem? hx)
          rw [hg] at S1 HKx hset hrx
          have HS1 := hidden S1
          have HKX := hidden HKx
          have HSet := hidden hset
          have HRx := hidden hrx
          have HIx := hidden hIx
          have HX := hidden hx
          have HKP := hidden hkp
          have hml2 := hidden (show (ms.set k q).length = m by rw [List.length_set]; exact hml)
          have hle2 : Hid (∀ y ∈ ms.set k q, y ≤ q) := fun y hy => by
            rcases List.mem_or_eq_of_mem_set hy with h | h
            · exact hle.out y h
            · omega
          have hsk : Hid ((ms.set k q)[k]? = some q) := List.getElem?_set_self (by omega)
          have k0 : (0 : Int) ≤ (k : Int) := by omega
          have k1 : (k : Int) < (m : Int) := by omega
          have hall2 : Hid (∀ (j : Nat) (y : Kid), j < k → cs[j]? = some y → (ms.set k q)[j]? = some q ∧ q ∈ y.E) := fun j y hj hy => by
            rw [List.getElem?_set_ne (by omega)]
            exact hall.out j y hj hy
          clear S1 HKx hset hrx hIx hx hkp hK hcur hxk hc hle hall hmk hml hg hmq
          cases hL : geL q x.E with
          | nil =>
            rw [hL] at HS1
            have HLn := hidden hL
            clear hL
            go_wp2_with fail
            refine HS1.out.mono ?_
            rintro e w2 ⟨he, h2', hk2⟩
            obtain rfl : e = .returned (.tuple #[.int .i64 0, .bool false]) := he
            have hKn := HKX.out w2 (by rw [HLn.out]; exact h2') hk2
            have hset := HSet.out
            rw [show (⟨(upd mk x).p, geL q x.E, (upd mk x).F⟩ : Kid) = ⟨x.p, geL q x.E, x.F⟩ from rfl] at hset
            rw [show (⟨(upd mk x).p, geL q x.E, (upd mk x).F⟩ : Kid) = ⟨x.p, geL q x.E, x.F⟩ from rfl, hset] at hKn
            clear HS1 h2' hk2 hset
            have HKn := hidden hKn
            clear hKn
            have HE0 : Hid (geL n E = []) := List.eq_nil_iff_forall_not_mem.2 fun z hz => by
              obtain ⟨z1, z2⟩ := mem_geL.1 hz
              have : z ∈ geL q x.E := mem_geL.2 ⟨((HM.out z).1 z1).2 x (List.mem_of_getElem? HX.out), hno.out z z1 z2⟩
              rw [HLn.out] at this; simp at this
            go_wp2_with fail
            simp only [Exit.jump]
            go_ret2
            have hd := and_done (c := c) (w := w) h2 HL.out hml2.out HE.out HM.out hle2.out hnq hno.out hsk.out HKn.out.1 (HKP.out.trans HKn.out.2)
            rw [HE0.out] at hd ⊢
            exact ⟨rfl, hd.1, hd.2⟩
          | cons b r =>
            rw [hL] at HS1
            have HLn := hidden hL
            clear hL
            go_wp2_with fail
            refine HS1.out.mono ?_
            rintro e w2 ⟨he, h2', hk2⟩
            obtain rfl : e = .returned (.tuple #[.int .i64 b, .bool true]) := he
            have hKn := HKX.out w2 (by rw [HLn.out]; exact h2') hk2
            have hset := HSet.out
            rw [show (⟨(upd mk x).p, geL q x.E, (upd mk x).F⟩ : Kid) = ⟨x.p, geL q x.E, x.F⟩ from rfl] at hset
            rw [show (⟨(upd mk x).p, geL q x.E, (upd mk x).F⟩ : Kid) = ⟨x.p, geL q x.E, x.F⟩ from rfl, hset] at hKn
            clear HS1 h2' hk2 hset
            have HKn := hidden hKn
            clear hKn
            have hbm := mem_geL.1 (show b ∈ geL q x.E by rw [HLn.out]; simp)
            have hbI := HIx.out b hbm.1
            have HBX := hidden hbm.1
            have hbq := hbm.2
            clear hbm
            by_cases hgt : q < b
            · go_wp2_with fail
              go_step3
              have hno2 : Hid (∀ z ∈ E, n ≤ z → b ≤ z) := fun z z1 z2 => by
                have hz : z ∈ geL q x.E := mem_geL.2 ⟨((HM.out z).1 z1).2 x (List.mem_of_getElem? HX.out), hno.out z z1 z2⟩
                have hr := HRx.out
                rw [HLn.out] at hz hr
                rcases List.mem_cons.1 hz with h | h
                · omega
                · have := (List.pairwise_cons.1 hr).1 z h; omega
              refine ⟨rfl, ⟨b, ms.set k q, _, _, _, _, _, _, _, _, _, _, _, _, _, _, _, _, _, _, _, _, _, _, _, _, _, _, _, _, _, _, _, rfl, hbI, by omega, hml2.out, hidden (fun y hy => by have := hle2.out y hy; omega), hno2, HKn.out.1, HKP.out.trans HKn.out.2⟩, ?_⟩
              show (9223372036854775807 - b).toNat < (9223372036854775807 - q).toNat
              have := hbI.2
              omega
            · obtain rfl : b = q := by omega
              go_wp2_with fail
              go_roundw
              case rel => exact ⟨k + 1, ms.set k b, by omega, rfl, by go_num, hml2.out, hle2, hidden (fun j y hj hy => by
                by_cases e : j = k
                · subst e
                  have := hy.symm.trans HX.out
                  cases this
                  exact ⟨hsk.out, HBX.out⟩
                · exact hall2.out j y (by omega) hy), HKn.out.1, HKP.out.trans HKn.out.2⟩
              case measure => simp [intOf]; omega
        · obtain rfl : m = k := by omega
          have k1 : ¬ (m : Int) < (m : Int) := by omega
          have hq0 : Hid (ms[0]? = some q) := (hall.out 0 (cs[0]'(by rw [HL.out]; exact h0)) h0 (List.getElem?_eq_getElem _)).1
          have hqE : Hid (q ∈ E) := (HM.out q).2 ⟨fun e => by have := HL.out; rw [e] at this; simp at this; omega, fun y hy => by
            obtain ⟨j, hj⟩ := List.mem_iff_getElem?.1 hy
            have hjl := (List.getElem?_eq_some_iff.1 hj).1
            exact (hall.out j y (by rw [← HL.out]; exact hjl) hj).2⟩
          go_wp2_with fail
          simp only [Exit.jump]
          go_ret2
          have hd := and_done (c := c) (w := w) h2 HL.out hml HE.out HM.out hle.out hnq hno.out hq0.out hK hkp
          exact ⟨(head_is HE.out hqE.out hnq hno.out).symm, hd.1, hd.2⟩
end Go.Proofs.Ytnedgjdhpdejdaa
