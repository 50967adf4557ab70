/- (post.or).seek, walked. (post.and).seek, walked. -/
import Derived.Test.YtbijjjhfekkfaaaGreatPk60b7ed6a
import Derived.WalkMore
import Derived.ScopeJumps
namespace Go.Proofs.YtbijjjhfekkfaaaGreat
set_option maxRecDepth 100000
open Go.RowKit Go.Shelf

def upd (n : Int) (x : Kid) : Kid := ⟨x.p, geL n x.E, x.F⟩
def kidsAt (n : Int) (k : Nat) (cs : List Kid) : List Kid := (cs.take k).map (upd n) ++ cs.drop k
theorem kidsAt_zero (n : Int) (cs : List Kid) : kidsAt n 0 cs = cs := by simp [kidsAt]
theorem kidsAt_len (n : Int) (k : Nat) (cs : List Kid) : (kidsAt n k cs).length = cs.length := by simp [kidsAt]; omega
theorem kidsAt_at {n : Int} {k : Nat} {cs : List Kid} (h : k < cs.length) : (kidsAt n k cs)[k]? = cs[k]? := by
  rw [kidsAt, List.getElem?_append_right (by simp; omega)]
  simp only [List.length_map, List.length_take]
  rw [Nat.min_eq_left (by omega), Nat.sub_self, List.getElem?_drop, Nat.add_zero]
theorem kidsAt_succ {n : Int} {k : Nat} {cs : List Kid} {x : Kid} (h : cs[k]? = some x) : (kidsAt n k cs).set k (upd n x) = kidsAt n (k + 1) cs := by
  obtain ⟨hk, hx⟩ := List.getElem?_eq_some_iff.1 h
  have e1 : cs.drop k = x :: cs.drop (k + 1) := by rw [List.drop_eq_getElem_cons hk, hx]
  have hl : ((cs.take k).map (upd n)).length = k := by simp; omega
  rw [kidsAt, kidsAt, e1, List.set_append_right _ _ (by omega), hl, Nat.sub_self, List.set_cons_zero, take_snoc? h]
  simp
theorem kidsAt_all (n : Int) (cs : List Kid) : kidsAt n cs.length cs = cs.map (upd n) := by simp [kidsAt]
theorem kid_cell {S : Src} {w : World} {A : Option Addr} {cs : List Kid} {F : Nat → Prop} (h : Kids S w A cs F) {k : Nat} {x : Kid} (hx : cs[k]? = some x) : ∃ g o, A = some ⟨g, o, none⟩ ∧ w.cell? ⟨g, o + k, none⟩ = some x.p := by
  obtain ⟨hk, _⟩ := List.getElem?_eq_some_iff.1 hx
  obtain ⟨g, o, rfl, _, hc⟩ := h.1.at_ (by omega)
  refine ⟨g, o, rfl, ?_⟩
  rw [hc k (by omega), List.getElem?_map, hx]; rfl
/-- the least among so many kids' lists -/
def leastOf (n : Int) (l : List Kid) (a : Int) (any : Bool) : Prop :=
  (any = false ∧ a = 0 ∧ ∀ y ∈ l, geL n y.E = []) ∨ (any = true ∧ (∃ y ∈ l, a ∈ geL n y.E) ∧ ∀ y ∈ l, ∀ x ∈ geL n y.E, a ≤ x)
theorem least_nil (n : Int) : leastOf n [] 0 false := .inl ⟨rfl, rfl, by simp⟩
theorem least_none {n : Int} {l : List Kid} {a : Int} {any : Bool} {y : Kid} (h : leastOf n l a any) (hy : geL n y.E = []) : leastOf n (l ++ [y]) a any := by
  rcases h with ⟨h1, h2, h3⟩ | ⟨h1, ⟨z, hz, hza⟩, h3⟩
  · exact .inl ⟨h1, h2, fun z hz => (List.mem_append.1 hz).elim (h3 z) fun e => by rw [List.mem_singleton.1 e]; exact hy⟩
  · refine .inr ⟨h1, ⟨z, List.mem_append_left _ hz, hza⟩, fun u hu => (List.mem_append.1 hu).elim (h3 u) fun e x hx => ?_⟩
    rw [List.mem_singleton.1 e, hy] at hx; simp at hx
theorem least_new {n : Int} {l : List Kid} {a b : Int} {any : Bool} {y : Kid} {r : List Int} (h : leastOf n l a any) (hr : rising (geL n y.E)) (hy : geL n y.E = b :: r) (hb : any = false ∨ b < a) : leastOf n (l ++ [y]) b true := by
  have hmin : ∀ x ∈ geL n y.E, b ≤ x := fun x hx => by
    rw [hy] at hx hr
    rcases List.mem_cons.1 hx with rfl | hx
    · omega
    · have := (List.pairwise_cons.1 hr).1 x hx; omega
  refine .inr ⟨rfl, ⟨y, by simp, by rw [hy]; simp⟩, fun u hu x hx => ?_⟩
  rcases List.mem_append.1 hu with hu | hu
  · rcases h with ⟨_, _, h3⟩ | ⟨h1, _, h3⟩
    · rw [h3 u hu] at hx; simp at hx
    · rcases hb with hb | hb
      · rw [h1] at hb; cases hb
      · have := h3 u hu x hx; omega
  · rw [List.mem_singleton.1 hu] at hx; exact hmin x hx
theorem least_old {n : Int} {l : List Kid} {a b : Int} {y : Kid} {r : List Int} (h : leastOf n l a true) (hr : rising (geL n y.E)) (hy : geL n y.E = b :: r) (hb : ¬ b < a) : leastOf n (l ++ [y]) a true := by
  rcases h with ⟨h1, _⟩ | ⟨_, ⟨z, hz, hza⟩, h3⟩
  · cases h1
  · refine .inr ⟨rfl, ⟨z, List.mem_append_left _ hz, hza⟩, fun u hu x hx => ?_⟩
    rcases List.mem_append.1 hu with hu | hu
    · exact h3 u hu x hx
    · rw [List.mem_singleton.1 hu, hy] at hx
      rw [hy] at hr
      rcases List.mem_cons.1 hx with rfl | hx
      · omega
      · have := (List.pairwise_cons.1 hr).1 x hx; omega
theorem least_ans {n : Int} {l : List Kid} {a : Int} {any : Bool} {E : List Int} (h : leastOf n l a any) (hE : rising E) (hm : ∀ x, x ∈ E ↔ ∃ y ∈ l, x ∈ y.E) : .returned (.tuple #[.int .i64 a, .bool any]) = ansL (geL n E) := by
  rcases h with ⟨rfl, rfl, h3⟩ | ⟨rfl, ⟨y, hy, ha⟩, h3⟩
  · have : geL n E = [] := List.eq_nil_iff_forall_not_mem.2 fun x hx => by
      obtain ⟨hx, hn⟩ := mem_geL.1 hx
      obtain ⟨y, hy, hxy⟩ := (hm x).1 hx
      have : x ∈ geL n y.E := mem_geL.2 ⟨hxy, hn⟩
      rw [h3 y hy] at this; simp at this
    rw [this]; rfl
  · have haE : a ∈ geL n E := mem_geL.2 ⟨(hm a).2 ⟨y, hy, (mem_geL.1 ha).1⟩, (mem_geL.1 ha).2⟩
    have hr := rising_geL hE n
    cases hL : geL n E with
    | nil => rw [hL] at haE; simp at haE
    | cons b r =>
      have hba : b ≤ a := by
        rw [hL] at haE hr
        rcases List.mem_cons.1 haE with rfl | h
        · omega
        · have := (List.pairwise_cons.1 hr).1 a h; omega
      have hb : b ∈ geL n E := by rw [hL]; simp
      obtain ⟨hbE, hbn⟩ := mem_geL.1 hb
      obtain ⟨z, hz, hbz⟩ := (hm b).1 hbE
      have := h3 z hz b (mem_geL.2 ⟨hbz, hbn⟩)
      have e : a = b := by omega
      rw [e]; rfl

set_option maxHeartbeats 1600000 in
theorem or_seek {S : Src} (hF : FrameOk S) (hO : OldOk S) (hR : RiseOk S) (hP : PeekOk S) : SeekOk (IsOr S) := by
  rintro w v E F n ⟨A, m, c, cs, rfl, h1, h2, h3, h4, h5⟩ hn
  refine ⟨_, _, 353, .slice A m c, rfl, fun w => by kernel_rfl, enters_of Tryz.func353 (by kernel_rfl) rfl, ?_⟩
  have HK := hidden h3
  have HL := hidden h1
  have HM := hidden h5
  have HE := hidden h4
  clear h1 h3 h4 h5
  go_enter Tryz.func353, Tryz.ntmps353
  go_wp2_with fail
  go_loopw [6, 7, 14] (fun va vb vi wr => ∃ (k : Nat) (a : Int) (any : Bool), k ≤ m ∧ vi = .int .i64 k ∧ va = .int .i64 a ∧ vb = .bool any ∧ Hid (leastOf n (cs.take k) a any) ∧ Kids S wr A (kidsAt n k cs) F ∧ Kp F w wr) (fun _ _ vi _ => m - (intOf vi).toNat)
  case atStart => exact ⟨0, 0, false, Nat.zero_le _, rfl, rfl, rfl, least_nil n, by rw [kidsAt_zero]; exact HK.out, Kp.refl _ _⟩
  case round =>
    obtain ⟨k, a, any, hk, rfl, rfl, rfl, hle, hK, hkp⟩ := hrel
    by_cases hlt : k < m
    · obtain ⟨x, hx⟩ : ∃ x, cs[k]? = some x := ⟨_, List.getElem?_eq_getElem (by rw [HL.out]; omega)⟩
      have hxk : (kidsAt n k cs)[k]? = some x := by rw [kidsAt_at (by rw [HL.out]; omega)]; exact hx
      obtain ⟨g, o, rfl, hc⟩ := kid_cell hK hxk
      have hcur := hK.2.1 x (List.mem_of_getElem? hxk)
      have S1 := hidden (hP wr x.p x.E x.F n hcur hn)
      have HRx := hidden (rising_geL (cur_rise hR _ _ _ _ hcur).1 n)
      have HKx := hidden (fun (w' : World) (h : CurOf S w' x.p (geL n x.E) x.F) (hk : Kp x.F wr w') => kids_step hF hO hK hxk h hk)
      have HKS := hidden (kidsAt_succ (n := n) hx)
      have HT := hidden (take_snoc? hx)
      have HKP := hidden hkp
      have k0 : (0 : Int) ≤ (k : Int) := by omega
      have k1 : (k : Int) < (m : Int) := by omega
      clear hx hxk hcur hK hkp
      cases hL : geL n x.E with
      | nil =>
        rw [hL] at S1 HRx HKx
        have HLn := hidden hL
        clear hL
        go_wp2_with fail
        refine S1.out.mono ?_
        rintro e w2 ⟨he, h2', hk2⟩
        obtain rfl : e = .returned (.tuple #[.int .i64 0, .bool false]) := he
        have hKn := HKx.out w2 h2' hk2
        rw [show (⟨x.p, [], x.F⟩ : Kid) = upd n x by rw [upd, HLn.out], HKS.out] at hKn
        clear S1 HKx h2' hk2
        go_wp2_with fail
        go_roundw
        case rel => exact ⟨k + 1, a, any, by omega, by go_num, rfl, rfl, hidden (by rw [HT.out]; exact least_none hle.out HLn.out), hKn.1, HKP.out.trans hKn.2⟩
        case measure => simp [intOf]; omega
      | cons b r =>
        rw [hL] at S1 HKx
        have HLn := hidden hL
        clear hL
        go_wp2_with fail
        refine S1.out.mono ?_
        rintro e w2 ⟨he, h2', hk2⟩
        obtain rfl : e = .returned (.tuple #[.int .i64 b, .bool true]) := he
        have hKn := HKx.out w2 h2' hk2
        rw [show (⟨x.p, b :: r, x.F⟩ : Kid) = upd n x by rw [upd, HLn.out], HKS.out] at hKn
        clear S1 HKx h2' hk2
        cases any with
        | false =>
          go_wp2_with fail
          go_roundw
          case rel => exact ⟨k + 1, b, true, by omega, by go_num, rfl, rfl, hidden (by rw [HT.out]; exact least_new hle.out HRx.out HLn.out (.inl rfl)), hKn.1, HKP.out.trans hKn.2⟩
          case measure => simp [intOf]; omega
        | true =>
          by_cases hba : b < a
          · go_wp2_with fail
            go_roundw
            case rel => exact ⟨k + 1, b, true, by omega, by go_num, rfl, rfl, hidden (by rw [HT.out]; exact least_new hle.out HRx.out HLn.out (.inr hba)), hKn.1, HKP.out.trans hKn.2⟩
            case measure => simp [intOf]; omega
          · have hba2 : decide (b < a) = false := decide_eq_false hba
            go_wp2_with fail
            go_roundw
            case rel => exact ⟨k + 1, a, true, by omega, by go_num, rfl, rfl, hidden (by rw [HT.out]; exact least_old hle.out HRx.out HLn.out (by omega)), hKn.1, HKP.out.trans hKn.2⟩
            case measure => simp [intOf]; omega
    · obtain rfl : m = k := by omega
      have k1 : ¬ (m : Int) < (m : Int) := by omega
      go_wp2_with fail
      go_ret2
      rw [← HL.out, List.take_length] at hle
      rw [← HL.out, kidsAt_all] at hK
      refine ⟨least_ans hle.out HE.out HM.out, ⟨A, m, c, cs.map (upd n), rfl, by rw [List.length_map]; exact HL.out, h2, hK, rising_geL HE.out n, fun x => ?_⟩, hkp⟩
      rw [mem_geL, HM.out x]
      constructor
      · rintro ⟨⟨y, hy, hxy⟩, hnx⟩
        exact ⟨upd n y, List.mem_map.2 ⟨y, hy, rfl⟩, mem_geL.2 ⟨hxy, hnx⟩⟩
      · rintro ⟨z, hz, hxz⟩
        obtain ⟨y, hy, rfl⟩ := List.mem_map.1 hz
        exact ⟨⟨y, hy, (mem_geL.1 hxz).1⟩, (mem_geL.1 hxz).2⟩
end Go.Proofs.YtbijjjhfekkfaaaGreat

namespace Go.Proofs.YtbijjjhfekkfaaaGreat
set_option maxRecDepth 100000
open Go.RowKit Go.Shelf

def ksOf (cs : List Kid) (ms : List Int) : List Kid := List.zipWith (fun x m => upd m x) cs ms
theorem ksOf_len {cs : List Kid} {ms : List Int} (h : ms.length = cs.length) : (ksOf cs ms).length = cs.length := by simp [ksOf, h]
theorem ksOf_at {cs : List Kid} {ms : List Int} {j : Nat} {x : Kid} {m : Int} (h : cs[j]? = some x) (k : ms[j]? = some m) : (ksOf cs ms)[j]? = some (upd m x) := by
  simp [ksOf, List.getElem?_zipWith, h, k]
theorem ksOf_set {cs : List Kid} {ms : List Int} {j : Nat} {x : Kid} {m q : Int} (h : cs[j]? = some x) (k : ms[j]? = some m) (hq : m ≤ q) : (ksOf cs ms).set j ⟨(upd m x).p, geL q (upd m x).E, (upd m x).F⟩ = ksOf cs (ms.set j q) := by
  refine List.ext_getElem? fun i => ?_
  have hl : j < (ksOf cs ms).length := (List.getElem?_eq_some_iff.1 (ksOf_at h k)).1
  have hlm : j < ms.length := (List.getElem?_eq_some_iff.1 k).1
  by_cases e : i = j
  · subst e
    rw [List.getElem?_set_self hl, ksOf_at h (List.getElem?_set_self hlm)]
    simp only [upd, geL_geL, Int.max_eq_left hq]
  · rw [List.getElem?_set_ne (fun h => e h.symm)]
    simp only [ksOf, List.getElem?_zipWith]
    rw [List.getElem?_set_ne (fun h => e h.symm)]
theorem ksOf_min {cs : List Kid} (h : ∀ y ∈ cs, ∀ x ∈ y.E, inI x) : ksOf cs (List.replicate cs.length (-9223372036854775808)) = cs := by
  refine List.ext_getElem? fun i => ?_
  rcases Nat.lt_or_ge i cs.length with hi | hi
  · have hx : cs[i]? = some cs[i] := List.getElem?_eq_getElem hi
    rw [ksOf_at hx (by rw [List.getElem?_replicate, if_pos hi]), hx]
    have : upd (-9223372036854775808) cs[i] = cs[i] := by
      unfold upd
      rw [geL_all fun x hx => (h _ (List.getElem_mem hi) x hx).1]
    rw [this]
  · rw [List.getElem?_eq_none (by rw [ksOf_len (by simp)]; exact hi), List.getElem?_eq_none hi]
theorem mem_ksOf {cs : List Kid} {ms : List Int} (hl : ms.length = cs.length) {x : Int} : (∀ y ∈ ksOf cs ms, x ∈ y.E) ↔ ∀ (j : Nat) (y : Kid) (m : Int), cs[j]? = some y → ms[j]? = some m → x ∈ y.E ∧ m ≤ x := by
  constructor
  · intro h j y m hy hm
    exact mem_geL.1 (h (upd m y) (List.mem_of_getElem? (ksOf_at hy hm)))
  · intro h z hz
    obtain ⟨j, hj⟩ := List.mem_iff_getElem?.1 hz
    have hjl : j < cs.length := by have := (List.getElem?_eq_some_iff.1 hj).1; rw [ksOf_len hl] at this; exact this
    have hy : cs[j]? = some cs[j] := List.getElem?_eq_getElem hjl
    have hm : ms[j]? = some (ms[j]'(by omega)) := List.getElem?_eq_getElem _
    rw [ksOf_at hy hm] at hj
    cases hj
    exact mem_geL.2 (h j _ _ hy hm)
theorem and_fin {cs : List Kid} {ms : List Int} {n q : Int} {E : List Int} (hl : ms.length = cs.length) (hm : ∀ x, x ∈ E ↔ cs ≠ [] ∧ ∀ y ∈ cs, x ∈ y.E) (hle : ∀ m ∈ ms, m ≤ q) (hnq : n ≤ q) (hno : ∀ z ∈ E, n ≤ z → q ≤ z) {j : Nat} (hj : ms[j]? = some q) (x : Int) :
    x ∈ geL n E ↔ ksOf cs ms ≠ [] ∧ ∀ y ∈ ksOf cs ms, x ∈ y.E := by
  have hjl := (List.getElem?_eq_some_iff.1 hj).1
  have hne : cs ≠ [] := fun e => by rw [e] at hl; simp at hl; rw [hl] at hjl; simp at hjl
  have hne2 : ksOf cs ms ≠ [] := fun e => by have := ksOf_len hl; rw [e] at this; simp at this; omega
  rw [mem_ksOf hl, mem_geL, hm x]
  constructor
  · rintro ⟨⟨_, h1⟩, h2⟩
    refine ⟨hne2, fun i y m hy hmi => ⟨h1 y (List.mem_of_getElem? hy), ?_⟩⟩
    have := hno x ((hm x).2 ⟨hne, h1⟩) h2
    have := hle m (List.mem_of_getElem? hmi)
    omega
  · rintro ⟨_, h1⟩
    refine ⟨⟨hne, fun y hy => ?_⟩, ?_⟩
    · obtain ⟨i, hi⟩ := List.mem_iff_getElem?.1 hy
      have hil := (List.getElem?_eq_some_iff.1 hi).1
      exact (h1 i y _ hi (List.getElem?_eq_getElem (show i < ms.length by omega))).1
    · have hy : cs[j]? = some (cs[j]'(by omega)) := List.getElem?_eq_getElem _
      have := (h1 j _ q hy hj).2
      omega
theorem jumps3 {P : Program} {a : Act} {w : World} {Q : Exit → Act → World → Prop} {c rest : Code} (l : Nat) (J : Act → World → Prop) (μ : Act → World → Nat) (hf : findLabel c l = some (.seq .skip rest))
    (first : (∀ a w, J a w → rest.wp P (Exit.jump l J Q) a w) → c.wp P (Exit.jump l J Q) a w)
    (pass : ∀ a w, J a w → rest.wp P (Exit.jump l (fun a' w' => J a' w' ∧ μ a' w' < μ a w) Q) a w) : (Code.scope c).wp P Q a w :=
  wp_scope_jumps l J μ hf (first fun a w h => Code.wp_mono (fun e _ _ k => by
    cases e <;> first | exact k | exact ⟨k.1, k.2.1⟩) (pass a w h)) fun a w h => wp_seq (wp_skip (pass a w h))

def AndJ (S : Src) (A : Option Addr) (m c : Nat) (cs : List Kid) (E : List Int) (n : Int) (F : Nat → Prop) (w : World) : Act → World → Prop :=
  fun a' w' => ∃ (q : Int) (ms : List Int) (u2 u3 u4 u5 u6 u7 u8 u9 u10 u11 u12 u13 u14 u15 u16 u17 u18 u19 u20 u21 u22 u23 u24 u25 u26 u27 u28 u29 u30 u31 u32 : Value), a' = { tmps := #[.slice A m c, .int .i64 q, u2, u3, u4, u5, u6, u7, u8, u9, u10, u11, u12, u13, u14, u15, u16, u17, u18, u19, u20, u21, u22, u23, u24, u25, u26, u27, u28, u29, u30, u31, u32], defers := [] } ∧ inI q ∧ n ≤ q ∧ ms.length = m ∧ Hid (∀ x ∈ ms, x ≤ q) ∧ Hid (∀ z ∈ E, n ≤ z → q ≤ z) ∧ Kids S w' A (ksOf cs ms) F ∧ Kp F w w'
theorem and_done {S : Src} {w w2 : World} {A : Option Addr} {m c : Nat} {cs : List Kid} {ms : List Int} {E : List Int} {n q : Int} {F : Nat → Prop} (h2 : m ≤ 4611686018427387904) (hL : cs.length = m) (hl : ms.length = m) (hE : rising E) (hm : ∀ x, x ∈ E ↔ cs ≠ [] ∧ ∀ y ∈ cs, x ∈ y.E) (hle : ∀ m ∈ ms, m ≤ q) (hnq : n ≤ q) (hno : ∀ z ∈ E, n ≤ z → q ≤ z) {j : Nat} (hj : ms[j]? = some q) (hK : Kids S w2 A (ksOf cs ms) F) (hkp : Kp F w w2) :
    IsAnd S w2 (.iface 303 (.slice A m c)) (geL n E) F ∧ Kp F w w2 :=
  ⟨⟨A, m, c, ksOf cs ms, rfl, by rw [ksOf_len (by omega)]; exact hL, h2, hK, rising_geL hE n, and_fin (by omega) hm hle hnq hno hj⟩, hkp⟩
theorem head_is {E : List Int} {n q : Int} (hE : rising E) (hq : q ∈ E) (hnq : n ≤ q) (hno : ∀ z ∈ E, n ≤ z → q ≤ z) : ansL (geL n E) = .returned (.tuple #[.int .i64 q, .bool true]) := by
  have hr := rising_geL hE n
  have hm : q ∈ geL n E := mem_geL.2 ⟨hq, hnq⟩
  cases hL : geL n E with
  | nil => rw [hL] at hm; simp at hm
  | cons b r =>
    have hb : b ∈ geL n E := by rw [hL]; simp
    obtain ⟨h1, h2⟩ := mem_geL.1 hb
    have h3 := hno b h1 h2
    rw [hL] at hm hr
    rcases List.mem_cons.1 hm with h | h
    · rw [h]; rfl
    · have := (List.pairwise_cons.1 hr).1 q h; omega

set_option maxHeartbeats 3200000 in
theorem and_seek {S : Src} (hF : FrameOk S) (hO : OldOk S) (hR : RiseOk S) (hP : PeekOk S) : SeekOk (IsAnd S) := by
  rintro w v E F n ⟨A, m, c, cs, rfl, h1, h2, h3, h4, h5⟩ hn
  refine ⟨_, _, 348, .slice A m c, rfl, fun w => by kernel_rfl, enters_of Tryz.func348 (by kernel_rfl) rfl, ?_⟩
  have HK := hidden h3
  have HL := hidden h1
  have HM := hidden h5
  have HE := hidden h4
  have hI := hidden (fun y (hy : y ∈ cs) => (cur_rise hR _ _ _ _ (h3.2.1 y hy)).2)
  clear h1 h3 h4 h5
  rcases Nat.eq_zero_or_pos m with h0 | h0
  · subst h0
    obtain rfl : cs = [] := List.eq_nil_of_length_eq_zero HL.out
    have hE0 : E = [] := List.eq_nil_iff_forall_not_mem.2 fun x hx => ((HM.out x).1 hx).1 rfl
    have HE0 := hidden hE0
    clear hE0
    go_enter Tryz.func348, Tryz.ntmps348
    go_wp2_with fail
    go_step3
    go_wp2_with fail
    rw [Exit.noGoto_ret]
    go_ret2
    rw [HE0.out]
    exact ⟨rfl, ⟨A, 0, c, [], rfl, rfl, h2, HK.out, List.Pairwise.nil, by simp [geL]⟩, Kp.refl _ _⟩
  · have hm0 : ¬ (m : Int) = 0 := by omega
    go_enter Tryz.func348, Tryz.ntmps348
    go_wp2_with fail
    refine jumps3 0 (AndJ S A m c cs E n F w) (fun a' _ => (9223372036854775807 - intOf (a'.tmps.getD 1 undef)).toNat) rfl ?_ ?_
    · intro HP
      go_wp2_with fail
      go_step3
      simp only [Exit.then]
      rename_i hKK
      refine hKK _ _ (HP _ _ ?_)
      exact ⟨n, List.replicate m (-9223372036854775808), _, _, _, _, _, _, _, _, _, _, _, _, _, _, _, _, _, _, _, _, _, _, _, _, _, _, _, _, _, _, _, rfl, hn, Int.le_refl _, List.length_replicate, hidden (fun x hx => by rw [(List.mem_replicate.1 hx).2]; exact hn.1), hidden (fun _ _ h => h), by rw [← HL.out, ksOf_min hI.out]; exact HK.out, Kp.refl _ _⟩
    · rintro a' w' ⟨q, ms, u2, u3, u4, u5, u6, u7, u8, u9, u10, u11, u12, u13, u14, u15, u16, u17, u18, u19, u20, u21, u22, u23, u24, u25, u26, u27, u28, u29, u30, u31, u32, rfl, hq, hnq, hml, hle, hno, hK, hkp⟩
      go_wp2_with fail
      go_loopw [1, 15] (fun v1 vi wr => ∃ (k : Nat) (ms : List Int), k ≤ m ∧ v1 = .int .i64 q ∧ vi = .int .i64 k ∧ ms.length = m ∧ Hid (∀ x ∈ ms, x ≤ q) ∧ Hid (∀ (j : Nat) (y : Kid), j < k → cs[j]? = some y → ms[j]? = some q ∧ q ∈ y.E) ∧ Kids S wr A (ksOf cs ms) F ∧ Kp F w wr) (fun _ vi _ => m - (intOf vi).toNat)
      case atStart => exact ⟨0, ms, Nat.zero_le _, rfl, rfl, hml, hle, hidden (fun j _ hj => absurd hj (Nat.not_lt_zero _)), hK, hkp⟩
      case round =>
        clear hK hkp hml hle
        obtain ⟨k, ms, hk, rfl, rfl, hml, hle, hall, hK, hkp⟩ := hrel
        by_cases hlt : k < m
        · obtain ⟨x, hx⟩ : ∃ x, cs[k]? = some x := ⟨_, List.getElem?_eq_getElem (by rw [HL.out]; omega)⟩
          obtain ⟨mk, hmk⟩ : ∃ mk, ms[k]? = some mk := ⟨_, List.getElem?_eq_getElem (by omega)⟩
          have hxk := ksOf_at hx hmk
          have hmq := hle.out mk (List.mem_of_getElem? hmk)
          obtain ⟨g, o, rfl, hc⟩ := kid_cell hK hxk
          have hc' : wr.cell? ⟨g, o + k, none⟩ = some x.p := hc
          have hcur := hK.2.1 (upd mk x) (List.mem_of_getElem? hxk)
          have hg : geL q (upd mk x).E = geL q x.E := by simp only [upd, geL_geL, Int.max_eq_left hmq]
          have S1 := hP wr x.p (upd mk x).E x.F q hcur hq
          have HKx := fun (w' : World) (h : CurOf S w' x.p (geL q (upd mk x).E) x.F) (hk : Kp x.F wr w') => kids_step hF hO hK hxk h hk
          have hset := ksOf_set hx hmk hmq
          have hrx := rising_geL (cur_rise hR _ _ _ _ hcur).1 q
          have hIx := hI.out x (List.mem_of_getElem? hx)
          rw [hg] at S1 HKx hset hrx
          have HS1 := hidden S1
          have HKX := hidden HKx
          have HSet := hidden hset
          have HRx := hidden hrx
          have HIx := hidden hIx
          have HX := hidden hx
          have HKP := hidden hkp
          have hml2 := hidden (show (ms.set k q).length = m by rw [List.length_set]; exact hml)
          have hle2 : Hid (∀ y ∈ ms.set k q, y ≤ q) := fun y hy => by
            rcases List.mem_or_eq_of_mem_set hy with h | h
            · exact hle.out y h
            · omega
          have hsk : Hid ((ms.set k q)[k]? = some q) := List.getElem?_set_self (by omega)
          have k0 : (0 : Int) ≤ (k : Int) := by omega
          have k1 : (k : Int) < (m : Int) := by omega
          have hall2 : Hid (∀ (j : Nat) (y : Kid), j < k → cs[j]? = some y → (ms.set k q)[j]? = some q ∧ q ∈ y.E) := fun j y hj hy => by
            rw [List.getElem?_set_ne (by omega)]
            exact hall.out j y hj hy
          clear S1 HKx hset hrx hIx hx hkp hK hcur hxk hc hle hall hmk hml hg hmq
          cases hL : geL q x.E with
          | nil =>
            rw [hL] at HS1
            have HLn := hidden hL
            clear hL
            go_wp2_with fail
            refine HS1.out.mono ?_
            rintro e w2 ⟨he, h2', hk2⟩
            obtain rfl : e = .returned (.tuple #[.int .i64 0, .bool false]) := he
            have hKn := HKX.out w2 (by rw [HLn.out]; exact h2') hk2
            have hset := HSet.out
            rw [show (⟨(upd mk x).p, geL q x.E, (upd mk x).F⟩ : Kid) = ⟨x.p, geL q x.E, x.F⟩ from rfl] at hset
            rw [show (⟨(upd mk x).p, geL q x.E, (upd mk x).F⟩ : Kid) = ⟨x.p, geL q x.E, x.F⟩ from rfl, hset] at hKn
            clear HS1 h2' hk2 hset
            have HKn := hidden hKn
            clear hKn
            have HE0 : Hid (geL n E = []) := List.eq_nil_iff_forall_not_mem.2 fun z hz => by
              obtain ⟨z1, z2⟩ := mem_geL.1 hz
              have : z ∈ geL q x.E := mem_geL.2 ⟨((HM.out z).1 z1).2 x (List.mem_of_getElem? HX.out), hno.out z z1 z2⟩
              rw [HLn.out] at this; simp at this
            go_wp2_with fail
            simp only [Exit.jump]
            go_ret2
            have hd := and_done (c := c) (w := w) h2 HL.out hml2.out HE.out HM.out hle2.out hnq hno.out hsk.out HKn.out.1 (HKP.out.trans HKn.out.2)
            rw [HE0.out] at hd ⊢
            exact ⟨rfl, hd.1, hd.2⟩
          | cons b r =>
            rw [hL] at HS1
            have HLn := hidden hL
            clear hL
            go_wp2_with fail
            refine HS1.out.mono ?_
            rintro e w2 ⟨he, h2', hk2⟩
            obtain rfl : e = .returned (.tuple #[.int .i64 b, .bool true]) := he
            have hKn := HKX.out w2 (by rw [HLn.out]; exact h2') hk2
            have hset := HSet.out
            rw [show (⟨(upd mk x).p, geL q x.E, (upd mk x).F⟩ : Kid) = ⟨x.p, geL q x.E, x.F⟩ from rfl] at hset
            rw [show (⟨(upd mk x).p, geL q x.E, (upd mk x).F⟩ : Kid) = ⟨x.p, geL q x.E, x.F⟩ from rfl, hset] at hKn
            clear HS1 h2' hk2 hset
            have HKn := hidden hKn
            clear hKn
            have hbm := mem_geL.1 (show b ∈ geL q x.E by rw [HLn.out]; simp)
            have hbI := HIx.out b hbm.1
            have HBX := hidden hbm.1
            have hbq := hbm.2
            clear hbm
            by_cases hgt : q < b
            · go_wp2_with fail
              go_step3
              have hno2 : Hid (∀ z ∈ E, n ≤ z → b ≤ z) := fun z z1 z2 => by
                have hz : z ∈ geL q x.E := mem_geL.2 ⟨((HM.out z).1 z1).2 x (List.mem_of_getElem? HX.out), hno.out z z1 z2⟩
                have hr := HRx.out
                rw [HLn.out] at hz hr
                rcases List.mem_cons.1 hz with h | h
                · omega
                · have := (List.pairwise_cons.1 hr).1 z h; omega
              refine ⟨rfl, ⟨b, ms.set k q, _, _, _, _, _, _, _, _, _, _, _, _, _, _, _, _, _, _, _, _, _, _, _, _, _, _, _, _, _, _, _, rfl, hbI, by omega, hml2.out, hidden (fun y hy => by have := hle2.out y hy; omega), hno2, HKn.out.1, HKP.out.trans HKn.out.2⟩, ?_⟩
              show (9223372036854775807 - b).toNat < (9223372036854775807 - q).toNat
              have := hbI.2
              omega
            · obtain rfl : b = q := by omega
              go_wp2_with fail
              go_roundw
              case rel => exact ⟨k + 1, ms.set k b, by omega, rfl, by go_num, hml2.out, hle2, hidden (fun j y hj hy => by
                by_cases e : j = k
                · subst e
                  have := hy.symm.trans HX.out
                  cases this
                  exact ⟨hsk.out, HBX.out⟩
                · exact hall2.out j y (by omega) hy), HKn.out.1, HKP.out.trans HKn.out.2⟩
              case measure => simp [intOf]; omega
        · obtain rfl : m = k := by omega
          have k1 : ¬ (m : Int) < (m : Int) := by omega
          have hq0 : Hid (ms[0]? = some q) := (hall.out 0 (cs[0]'(by rw [HL.out]; exact h0)) h0 (List.getElem?_eq_getElem _)).1
          have hqE : Hid (q ∈ E) := (HM.out q).2 ⟨fun e => by have := HL.out; rw [e] at this; simp at this; omega, fun y hy => by
            obtain ⟨j, hj⟩ := List.mem_iff_getElem?.1 hy
            have hjl := (List.getElem?_eq_some_iff.1 hj).1
            exact (hall.out j y (by rw [← HL.out]; exact hjl) hj).2⟩
          go_wp2_with fail
          simp only [Exit.jump]
          go_ret2
          have hd := and_done (c := c) (w := w) h2 HL.out hml HE.out HM.out hle.out hnq hno.out hq0.out hK hkp
          exact ⟨(head_is HE.out hqE.out hnq hno.out).symm, hd.1, hd.2⟩
end Go.Proofs.YtbijjjhfekkfaaaGreat
