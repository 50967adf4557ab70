/- (post.or).seek, walked. -/
import Derived.Test.YtnedgjdhpdejdaaPeek
namespace Go.Proofs.Ytnedgjdhpdejdaa
set_option maxRecDepth 100000
open Go.RowKit Go.Shelf

def upd (n : Int) (x : Kid) : Kid := ⟨x.p, geL n x.E, x.F⟩
def kidsAt (n : Int) (k : Nat) (cs : List Kid) : List Kid := (cs.take k).map (upd n) ++ cs.drop k
theorem kidsAt_zero (n : Int) (cs : List Kid) : kidsAt n 0 cs = cs := by simp [kidsAt]
theorem kidsAt_len (n : Int) (k : Nat) (cs : List Kid) : (kidsAt n k cs).length = cs.length := by simp [kidsAt]; omega
theorem kidsAt_at {n : Int} {k : Nat} {cs : List Kid} (h : k < cs.length) : (kidsAt n k cs)[k]? = cs[k]? := by
  rw [kidsAt, List.getElem?_append_right (by simp; omega)]
  simp only [List.length_map, List.length_take]
  rw [Nat.min_eq_left (by omega), Nat.sub_self, List.getElem?_drop, Nat.add_zero]
theorem kidsAt_succ {n : Int} {k : Nat} {cs : List Kid} {x : Kid} (h : cs[k]? = some x) : (kidsAt n k cs).set k (upd n x) = kidsAt n (k + 1) cs := by
  obtain ⟨hk, hx⟩ := List.getElem?_eq_some_iff.1 h
  have e1 : cs.drop k = x :: cs.drop (k + 1) := by rw [List.drop_eq_getElem_cons hk, hx]
  have hl : ((cs.take k).map (upd n)).length = k := by simp; omega
  rw [kidsAt, kidsAt, e1, List.set_append_right _ _ (by omega), hl, Nat.sub_self, List.set_cons_zero, take_snoc? h]
  simp
theorem kidsAt_all (n : Int) (cs : List Kid) : kidsAt n cs.length cs = cs.map (upd n) := by simp [kidsAt]
theorem kid_cell {S : Src} {w : World} {A : Option Addr} {cs : List Kid} {F : Nat → Prop} (h : Kids S w A cs F) {k : Nat} {x : Kid} (hx : cs[k]? = some x) : ∃ g o, A = some ⟨g, o, none⟩ ∧ w.cell? ⟨g, o + k, none⟩ = some x.p := by
  obtain ⟨hk, _⟩ := List.getElem?_eq_some_iff.1 hx
  obtain ⟨g, o, rfl, _, hc⟩ := h.1.at_ (by omega)
  refine ⟨g, o, rfl, ?_⟩
  rw [hc k (by omega), List.getElem?_map, hx]; rfl
/-- the least among so many kids' lists -/
def leastOf (n : Int) (l : List Kid) (a : Int) (any : Bool) : Prop :=
  (any = false ∧ a = 0 ∧ ∀ y ∈ l, geL n y.E = []) ∨ (any = true ∧ (∃ y ∈ l, a ∈ geL n y.E) ∧ ∀ y ∈ l, ∀ x ∈ geL n y.E, a ≤ x)
theorem least_nil (n : Int) : leastOf n [] 0 false := .inl ⟨rfl, rfl, by simp⟩
theorem least_none {n : Int} {l : List Kid} {a : Int} {any : Bool} {y : Kid} (h : leastOf n l a any) (hy : geL n y.E = []) : leastOf n (l ++ [y]) a any := by
  rcases h with ⟨h1, h2, h3⟩ | ⟨h1, ⟨z, hz, hza⟩, h3⟩
  · exact .inl ⟨h1, h2, fun z hz => (List.mem_append.1 hz).elim (h3 z) fun e => by rw [List.mem_singleton.1 e]; exact hy⟩
  · refine .inr ⟨h1, ⟨z, List.mem_append_left _ hz, hza⟩, fun u hu => (List.mem_append.1 hu).elim (h3 u) fun e x hx => ?_⟩
    rw [List.mem_singleton.1 e, hy] at hx; simp at hx
theorem least_new {n : Int} {l : List Kid} {a b : Int} {any : Bool} {y : Kid} {r : List Int} (h : leastOf n l a any) (hr : rising (geL n y.E)) (hy : geL n y.E = b :: r) (hb : any = false ∨ b < a) : leastOf n (l ++ [y]) b true := by
  have hmin : ∀ x ∈ geL n y.E, b ≤ x := fun x hx => by
    rw [hy] at hx hr
    rcases List.mem_cons.1 hx with rfl | hx
    · omega
    · have := (List.pairwise_cons.1 hr).1 x hx; omega
  refine .inr ⟨rfl, ⟨y, by simp, by rw [hy]; simp⟩, fun u hu x hx => ?_⟩
  rcases List.mem_append.1 hu with hu | hu
  · rcases h with ⟨_, _, h3⟩ | ⟨h1, _, h3⟩
    · rw [h3 u hu] at hx; simp at hx
    · rcases hb with hb | hb
      · rw [h1] at hb; cases hb
      · have := h3 u hu x hx; omega
  · rw [List.mem_singleton.1 hu] at hx; exact hmin x hx
theorem least_old {n : Int} {l : List Kid} {a b : Int} {y : Kid} {r : List Int} (h : leastOf n l a true) (hr : rising (geL n y.E)) (hy : geL n y.E = b :: r) (hb : ¬ b < a) : leastOf n (l ++ [y]) a true := by
  rcases h with ⟨h1, _⟩ | ⟨_, ⟨z, hz, hza⟩, h3⟩
  · cases h1
  · refine .inr ⟨rfl, ⟨z, List.mem_append_left _ hz, hza⟩, fun u hu x hx => ?_⟩
    rcases List.mem_append.1 hu with hu | hu
    · exact h3 u hu x hx
    · rw [List.mem_singleton.1 hu, hy] at hx
      rw [hy] at hr
      rcases List.mem_cons.1 hx with rfl | hx
      · omega
      · have := (List.pairwise_cons.1 hr).1 x hx; omega
theorem least_ans {n : Int} {l : List Kid} {a : Int} {any : Bool} {E : List Int} (h : leastOf n l a any) (hE : rising E) (hm : ∀ x, x ∈ E ↔ ∃ y ∈ l, x ∈ y.E) : .returned (.tuple #[.int .i64 a, .bool any]) = ansL (geL n E) := by
  rcases h with ⟨rfl, rfl, h3⟩ | ⟨rfl, ⟨y, hy, ha⟩, h3⟩
  · have : geL n E = [] := List.eq_nil_iff_forall_not_mem.2 fun x hx => by
      obtain ⟨hx, hn⟩ := mem_geL.1 hx
      obtain ⟨y, hy, hxy⟩ := (hm x).1 hx
      have : x ∈ geL n y.E := mem_geL.2 ⟨hxy, hn⟩
      rw [h3 y hy] at this; simp at this
    rw [this]; rfl
  · have haE : a ∈ geL n E := mem_geL.2 ⟨(hm a).2 ⟨y, hy, (mem_geL.1 ha).1⟩, (mem_geL.1 ha).2⟩
    have hr := rising_geL hE n
    cases hL : geL n E with
    | nil => rw [hL] at haE; simp at haE
    | cons b r =>
      have hba : b ≤ a := by
        rw [hL] at haE hr
        rcases List.mem_cons.1 haE with rfl | h
        · omega
        · have := (List.pairwise_cons.1 hr).1 a h; omega
      have hb : b ∈ geL n E := by rw [hL]; simp
      obtain ⟨hbE, hbn⟩ := mem_geL.1 hb
      obtain ⟨z, hz, hbz⟩ := (hm b).1 hbE
      have := h3 z hz b (mem_geL.2 ⟨hbz, hbn⟩)
      have e : a = b := by omega
      rw [e]; rfl

set_option maxHeartbeats 1600000 in
theorem or_seek {S : Src} (hF : FrameOk S) (hO : OldOk S) (hR : RiseOk S) (hP : PeekOk S) : SeekOk (IsOr S) := by
  rintro w v E F n ⟨A, m, c, cs, rfl, h1, h2, h3, h4, h5⟩ hn
  refine ⟨_, _, 76, .slice A m c, rfl, fun w => by kernel_rfl, enters_of Try.func76 (by kernel_rfl) rfl, ?_⟩
  have HK := hidden h3
  have HL := hidden h1
  have HM := hidden h5
  have HE := hidden h4
  clear h1 h3 h4 h5
  go_enter Try.func76, Try.ntmps76
  go_wp2_with fail
  go_loopw [6, 7, 14] (fun va vb vi wr => ∃ (k : Nat) (a : Int) (any : Bool), k ≤ m ∧ vi = .int .i64 k ∧ va = .int .i64 a ∧ vb = .bool any ∧ Hid (leastOf n (cs.take k) a any) ∧ Kids S wr A (kidsAt n k cs) F ∧ Kp F w wr) (fun _ _ vi _ => m - (intOf vi).toNat)
  case atStart => exact ⟨0, 0, false, Nat.zero_le _, rfl, rfl, rfl, least_nil n, by rw [kidsAt_zero]; exact HK.out, Kp.refl _ _⟩
  case round =>
    obtain ⟨k, a, any, hk, rfl, rfl, rfl, hle, hK, hkp⟩ := hrel
    by_cases hlt : k < m
    · obtain ⟨x, hx⟩ : ∃ x, cs[k]? = some x := ⟨_, List.getElem?_eq_getElem (by rw [HL.out]; omega)⟩
      have hxk : (kidsAt n k cs)[k]? = some x := by rw [kidsAt_at (by rw [HL.out]; omega)]; exact hx
      obtain ⟨g, o, rfl, hc⟩ := kid_cell hK hxk
      have hcur := hK.2.1 x (List.mem_of_getElem? hxk)
      have S1 := hidden (hP wr x.p x.E x.F n hcur hn)
      have HRx := hidden (rising_geL (cur_rise hR _ _ _ _ hcur).1 n)
      have HKx := hidden (fun (w' : World) (h : CurOf S w' x.p (geL n x.E) x.F) (hk : Kp x.F wr w') => kids_step hF hO hK hxk h hk)
      have HKS := hidden (kidsAt_succ (n := n) hx)
      have HT := hidden (take_snoc? hx)
      have HKP := hidden hkp
      have k0 : (0 : Int) ≤ (k : Int) := by omega
      have k1 : (k : Int) < (m : Int) := by omega
      clear hx hxk hcur hK hkp
      cases hL : geL n x.E with
      | nil =>
        rw [hL] at S1 HRx HKx
        have HLn := hidden hL
        clear hL
        go_wp2_with fail
        refine S1.out.mono ?_
        rintro e w2 ⟨he, h2', hk2⟩
        obtain rfl : e = .returned (.tuple #[.int .i64 0, .bool false]) := he
        have hKn := HKx.out w2 h2' hk2
        rw [show (⟨x.p, [], x.F⟩ : Kid) = upd n x by rw [upd, HLn.out], HKS.out] at hKn
        clear S1 HKx h2' hk2
        go_wp2_with fail
        go_roundw
        case rel => exact ⟨k + 1, a, any, by omega, by go_num, rfl, rfl, hidden (by rw [HT.out]; exact least_none hle.out HLn.out), hKn.1, HKP.out.trans hKn.2⟩
        case measure => simp [intOf]; omega
      | cons b r =>
        rw [hL] at S1 HKx
        have HLn := hidden hL
        clear hL
        go_wp2_with fail
        refine S1.out.mono ?_
        rintro e w2 ⟨he, h2', hk2⟩
        obtain rfl : e = .returned (.tuple #[.int .i64 b, .bool true]) := he
        have hKn := HKx.out w2 h2' hk2
        rw [show (⟨x.p, b :: r, x.F⟩ : Kid) = upd n x by rw [upd, HLn.out], HKS.out] at hKn
        clear S1 HKx h2' hk2
        cases any with
        | false =>
          go_wp2_with fail
          go_roundw
          case rel => exact ⟨k + 1, b, true, by omega, by go_num, rfl, rfl, hidden (by rw [HT.out]; exact least_new hle.out HRx.out HLn.out (.inl rfl)), hKn.1, HKP.out.trans hKn.2⟩
          case measure => simp [intOf]; omega
        | true =>
          by_cases hba : b < a
          · go_wp2_with fail
            go_roundw
            case rel => exact ⟨k + 1, b, true, by omega, by go_num, rfl, rfl, hidden (by rw [HT.out]; exact least_new hle.out HRx.out HLn.out (.inr hba)), hKn.1, HKP.out.trans hKn.2⟩
            case measure => simp [intOf]; omega
          · have hba2 : decide (b < a) = false := decide_eq_false hba
            go_wp2_with fail
            go_roundw
            case rel => exact ⟨k + 1, a, true, by omega, by go_num, rfl, rfl, hidden (by rw [HT.out]; exact least_old hle.out HRx.out HLn.out (by omega)), hKn.1, HKP.out.trans hKn.2⟩
            case measure => simp [intOf]; omega
    · obtain rfl : m = k := by omega
      have k1 : ¬ (m : Int) < (m : Int) := by omega
      go_wp2_with fail
      go_ret2
      rw [← HL.out, List.take_length] at hle
      rw [← HL.out, kidsAt_all] at hK
      refine ⟨least_ans hle.out HE.out HM.out, ⟨A, m, c, cs.map (upd n), rfl, by rw [List.length_map]; exact HL.out, h2, hK, rising_geL HE.out n, fun x => ?_⟩, hkp⟩
      rw [mem_geL, HM.out x]
      constructor
      · rintro ⟨⟨y, hy, hxy⟩, hnx⟩
        exact ⟨upd n y, List.mem_map.2 ⟨y, hy, rfl⟩, mem_geL.2 ⟨hxy, hnx⟩⟩
      · rintro ⟨z, hz, hxz⟩
        obtain ⟨y, hy, rfl⟩ := List.mem_map.1 hz
        exact ⟨⟨y, hy, (mem_geL.1 hxz).1⟩, (mem_geL.1 hxz).2⟩
end Go.Proofs.Ytnedgjdhpdejdaa
