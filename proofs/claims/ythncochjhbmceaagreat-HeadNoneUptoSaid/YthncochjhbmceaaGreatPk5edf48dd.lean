/- labels.Valid and the reference's: is it a set of labels? Condition: the row is within the reach. (*strings.Builder).Grow at a fresh builder, walked. Condition: the number is within the reach. strings.Join at a few short texts, the comma between them. Condition: at most 8 texts of at most 1000 bytes each. append onto a slice that has no room: new memory. Condition: the row is within the reach. labels.Show and the reference's: a set as a text. Condition: the row is within the reach. labels.Get and the reference's: the value of a name. Condition: the row is within the reach. almanaclaw04.wakes: it holds. No condition. A law's arguments, opened. No condition. What the laws of labels take in, opened. No condition. labels.Encode, walked: the bytes of a set. Condition: the row is within the reach. strings.IndexByte of any text; of the digits to the base 16. No condition. -/
import Derived.Test.YthncochjhbmceaaGreatPk56b5c2ce
import Derived.Test.YthncochjhbmceaaGreatPk3fc1764a
import Derived.Lib.MakeNoZero
import Derived.Test.YthncochjhbmceaaGreatPk69198d5e
import Derived.Test.YthncochjhbmceaaGreatPk00f17a61
import Derived.Test.YthncochjhbmceaaGreatPke4234c21
import Derived.Lib.SmallJoins
import Derived.Test.YthncochjhbmceaaGreatPkf70546c0
import Derived.Lib.Bytealg
namespace Go.Proofs.YthncochjhbmceaaGreat
set_option maxRecDepth 100000
open Go.RowKit Go.Shelf Go.Sort

instance : DecidableRel ltN := fun x y => inferInstanceAs (Decidable (cmpB x.name y.name < 0))
instance (l : List Lbl) : Decidable (upN l) := inferInstanceAs (Decidable (l.Pairwise ltN))
instance (l : List Lbl) : Decidable (validP l) := inferInstanceAs (Decidable (_ ∧ _))
def sortedFrom (l : List Lbl) (k : Int) : Prop := ∀ (i : Nat) (x y : Lbl), k ≤ (i : Int) → l[i]? = some x → l[i + 1]? = some y → ¬ ltN y x
def sortedAdj (l : List Lbl) : Prop := ∀ (i : Nat) (x y : Lbl), l[i]? = some x → l[i + 1]? = some y → ¬ ltN y x
def upBelow (l : List Lbl) (k : Nat) : Prop := ∀ (i : Nat) (x y : Lbl), i + 1 < k → l[i]? = some x → l[i + 1]? = some y → ltN x y
def SortedAns (l : List Lbl) (w : World) (e : Ending) (w' : World) : Prop := ∃ b, e = .returned (.bool b) ∧ (b = true ↔ sortedAdj l) ∧ Below w.heap.size w w'
theorem adj_up : ∀ {l : List Lbl}, (∀ (i : Nat) (x y : Lbl), l[i]? = some x → l[i + 1]? = some y → ltN x y) → upN l
  | [], _ => List.Pairwise.nil
  | [x], _ => List.pairwise_singleton _ _
  | x :: y :: r, h => by
    have ih : upN (y :: r) := adj_up fun i a b ha hb => h (i + 1) a b (by simpa using ha) (by simpa using hb)
    have hxy : ltN x y := h 0 x y rfl rfl
    refine List.pairwise_cons.2 ⟨fun z hz => ?_, ih⟩
    rcases List.mem_cons.1 hz with rfl | hz
    · exact hxy
    · exact ltN_trans hxy ((List.pairwise_cons.1 ih).1 z hz)
theorem up_adj {l : List Lbl} (h : upN l) {i : Nat} {x y : Lbl} (hx : l[i]? = some x) (hy : l[i + 1]? = some y) : ltN x y := by
  obtain ⟨x1, x2⟩ := List.getElem?_eq_some_iff.1 hx
  obtain ⟨y1, y2⟩ := List.getElem?_eq_some_iff.1 hy
  have := List.pairwise_iff_getElem.1 h i (i + 1) x1 y1 (by omega)
  rw [x2, y2] at this; exact this
theorem sorted_up {l : List Lbl} (ha : l.Pairwise fun x y => x.name ≠ y.name) : sortedAdj l ↔ upN l := by
  constructor
  · intro h
    refine adj_up fun i x y hx hy => ?_
    have h1 := h i x y hx hy
    have t := tri_B.turn x.name y.name
    have z := tri_B.zero x.name y.name
    obtain ⟨x1, x2⟩ := List.getElem?_eq_some_iff.1 hx
    obtain ⟨y1, y2⟩ := List.getElem?_eq_some_iff.1 hy
    have hne := List.pairwise_iff_getElem.1 ha i (i + 1) x1 y1 (by omega)
    rw [x2, y2] at hne
    unfold ltN at h1 ⊢
    rcases tri_B.range x.name y.name with h | h | h
    · omega
    · exact absurd (z.1 h) hne
    · omega
  · intro h i x y hx hy
    have h1 := up_adj h hx hy
    have t := tri_B.turn x.name y.name
    unfold ltN at h1 ⊢; omega

set_option maxHeartbeats 3200000 in
theorem isSorted_any (A : Option Addr) (n c : Nat) (l : List Lbl) (w : World) (h : LbF w A n l) :
    Calls Tryz.prog 107 #[.slice A n c, .func (.func 90) #[] #[]] w (SortedAns l w) := by
  have H := hidden h
  have hfit := h.fit
  have E51 := hidden e51
  clear h
  go_enter Tryz.func107, Tryz.ntmps107
  go_wp2_with fail
  go_loopw [5] (fun vi wr => ∃ k : Int, vi = .int .i64 k ∧ -1 ≤ k ∧ k ≤ (n : Int) - 1 ∧ Hid (sortedFrom l k) ∧ Below w.heap.size w wr) (fun vi _ => (intOf vi).toNat)
  case atStart => exact ⟨(n : Int) - 1, by go_num, by omega, Int.le_refl _, fun i x y hi hx hy => absurd (List.getElem?_eq_some_iff.1 hy).1 (by have := H.out.len; omega), Below.refl _ _⟩
  case round =>
    obtain ⟨k, rfl, hk1, hk2, hs, hb⟩ := hrel
    by_cases hk0 : 0 < k
    · obtain ⟨j, rfl⟩ : ∃ j : Nat, k = (j : Int) + 1 := ⟨(k - 1).toNat, by omega⟩
      obtain ⟨g, o, y, rfl, hg, hy, d0, d1, _⟩ := lb_cells (H.out.on hb) (show j + 1 < n by omega)
      obtain ⟨g', o', x, he, _, hx, f0, f1, _⟩ := lb_cells (H.out.on hb) (show j < n by omega)
      simp only [Option.some.injEq, Addr.mk.injEq, and_true] at he
      obtain ⟨rfl, rfl⟩ := he
      have HX := hidden hx
      have HY := hidden hy
      have HB := hidden hb
      have S1 : Hid (∀ D os, Calls Tryz.prog 90 #[.agg #[.string y.name, .string y.value], .agg #[.string x.name, .string x.value]] (grow (redrawn wr D) os) fun e w'' => e = .returned (.int .i64 (cmpB y.name x.name)) ∧ ∃ p : Regrown, w'' = grow (redrawn wr p.d) p.os) :=
        hidden fun D os => Calls.regrown_of ((byName_any y x _).mono fun _ _ k => ⟨k.1, k.2.below⟩)
      have r0 := cell_regrown d0
      have r1 := cell_regrown d1
      have r2 := cell_regrown f0
      have r3 := cell_regrown f1
      clear hx hy hb d0 d1 f0 f1
      have q0 : (0 : Int) < (j : Int) + 1 := by omega
      have q1 : (j : Int) + 1 - 1 = (j : Int) := by omega
      have q2 : IntKind.i64.wrap (j : Int) = (j : Int) := Go.IntWalk.i64_in _ (by omega)
      have q3 : (j : Int) + 1 < (n : Int) := by omega
      have q4 : (j : Int) < (n : Int) := by omega
      have q5 : (0 : Int) ≤ (j : Int) := by omega
      have q6 : (0 : Int) ≤ (j : Int) + 1 := by omega
      have q7 : j + 1 < n := by omega
      have q8 : j < n := by omega
      have q9 : ((j : Int) + 1).toNat = j + 1 := by omega
      go_wp2_with fail
      refine wp_region_quiet_below (by kernel_rfl) (by kernel_rfl) ?_
      repeat (first | go_big_quiet_step (first | exact S1.out _ _ | (go_at_fn 90; exact S1.out _ _)) | quiet_step (first | exact S1.out _ _ | (go_at_fn 90; exact S1.out _ _)))
      refine wpQuiet_nil ?_
      intro _ hw'
      obtain ⟨⟨dq, osq⟩, hw''⟩ := hw'
      subst hw''
      clear r0 r1 r2 r3 S1
      have HB2 := hidden (HB.out.trans ((below_regrown wr (Regrown.mk dq osq).d (Regrown.mk dq osq).os).mono HB.out.size))
      generalize grow (redrawn wr (Regrown.mk dq osq).d) (Regrown.mk dq osq).os = w2 at HB2 ⊢
      by_cases hc : cmpB y.name x.name < 0
      · have HN : Hid (¬ sortedAdj l) := fun h => h j x y HX.out HY.out hc
        go_wp2_with fail
        go_ret
        exact ⟨false, rfl, ⟨fun h => absurd h (by decide), fun h => absurd h HN.out⟩, HB2.out⟩
      · have hcd : decide (cmpB y.name x.name < 0) = false := decide_eq_false hc
        have HS2 : Hid (sortedFrom l (j : Int)) := fun i a b hi ha hb => by
          by_cases e : i = j
          · subst e
            have e1 := ha.symm.trans HX.out
            have e2 := hb.symm.trans HY.out
            cases e1; cases e2
            exact hc
          · exact hs.out i a b (by omega) ha hb
        go_wp2_with fail
        go_roundw
        case rel => exact ⟨j, by go_num, by omega, by omega, HS2, HB2.out⟩
        case measure => simp [intOf]
    · have HS2 : Hid (sortedAdj l) := fun i a b ha hb => hs.out i a b (by omega) ha hb
      have hk0' : ¬ (0 : Int) < k := hk0
      go_wp2_with fail
      go_ret
      exact ⟨true, rfl, ⟨fun _ => HS2.out, fun _ => rfl⟩, hb⟩

set_option maxHeartbeats 1600000 in
theorem lvalid_any (A : Option Addr) (n c : Nat) (l : List Lbl) (w : World) (h : LbF w A n l) (hnc : n ≤ c) :
    Calls Tryz.prog 61 #[.slice A n c] w fun e w' => e = .returned (.bool (decide (validP l))) ∧ Below w.heap.size w w' := by
  have H := hidden h
  have S1 := hidden (lmake_any A n c l w h hnc)
  clear h
  go_enter Tryz.func61, Tryz.ntmps61
  go_wp2_with fail
  refine S1.out.mono ?_
  rintro e w2 ⟨v, rfl, _, b2⟩
  have HB := hidden b2
  by_cases he : makeErr l = 0
  · have hee : (((makeErr l : Nat) : Int) == 0) = true := by rw [he]; rfl
    have S2 := hidden (isSorted_any A n c l w2 (H.out.on b2))
    have HA := hidden (make_apart (makeErr_ok he).2.2)
    have HE := hidden he
    clear b2 S1 he
    go_wp2_with fail
    refine S2.out.mono ?_
    rintro e w3 ⟨b, rfl, hb, b3⟩
    have hv : Hid (decide (validP l) = b) := by
      have h1 := sorted_up HA.out
      cases b with
      | true => exact decide_eq_true ⟨HE.out, h1.1 (hb.1 rfl)⟩
      | false => exact decide_eq_false fun k => absurd (hb.2 (h1.2 k.2)) (by decide)
    have HB3 := hidden (HB.out.trans (b3.mono HB.out.size))
    clear hb b3 S2
    go_wp2_with fail
    go_ret
    rw [hv.out]
    exact ⟨rfl, HB3.out⟩
  · have hee : (((makeErr l : Nat) : Int) == 0) = false := by simpa using he
    have hv : Hid (decide (validP l) = false) := decide_eq_false fun k => he k.1
    clear b2 S1 he
    go_wp2_with fail
    go_ret
    rw [hv.out]
    exact ⟨rfl, HB.out⟩

set_option maxHeartbeats 3200000 in
theorem rvalid_any (A : Option Addr) (n c : Nat) (l : List Lbl) (w : World) (h : LbF w A n l) :
    Calls Tryz.prog 119 #[.slice A n c] w fun e w' => e = .returned (.bool (decide (validP l))) ∧ Below w.heap.size w w' := by
  have H := hidden h
  have hfit := h.fit
  have S1 := hidden (rmake_any A n c l w h)
  clear h
  go_enter Tryz.func119, Tryz.ntmps119
  go_wp2_with fail
  refine S1.out.mono ?_
  rintro e w2 ⟨v, rfl, _, b2⟩
  have HB := hidden b2
  clear b2 S1
  go_wp2_with fail
  go_loopw [5] (fun vi wr => ∃ k : Nat, vi = .int .i64 k ∧ 1 ≤ k ∧ Hid (makeErr l = 0 → upBelow l k) ∧ Below w.heap.size w wr) (fun vi _ => n + 1 - (intOf vi).toNat)
  case atStart => exact ⟨1, rfl, Nat.le_refl _, fun _ i x y hi => absurd hi (by omega), HB.out⟩
  case round =>
    obtain ⟨k, rfl, hk1, hs, hb⟩ := hrel
    by_cases he : makeErr l = 0
    · have hee : (((makeErr l : Nat) : Int) == 0) = true := by rw [he]; rfl
      have HE := hidden he
      clear he
      by_cases hkn : k < n
      · obtain ⟨j, rfl⟩ : ∃ j, k = j + 1 := ⟨k - 1, by omega⟩
        obtain ⟨g, o, y, rfl, hg, hy, d0, d1, _⟩ := lb_cells (H.out.on hb) (show j + 1 < n by omega)
        obtain ⟨g', o', x, he', _, hx, f0, f1, _⟩ := lb_cells (H.out.on hb) (show j < n by omega)
        simp only [Option.some.injEq, Addr.mk.injEq, and_true] at he'
        obtain ⟨rfl, rfl⟩ := he'
        have HX := hidden hx
        have HY := hidden hy
        have HBr := hidden hb
        clear hx hy hb d1 f1
        have q1 : ((j + 1 : Nat) : Int) - 1 = (j : Int) := by omega
        have q2 : IntKind.i64.wrap (j : Int) = (j : Int) := Go.IntWalk.i64_in _ (by omega)
        have q3 : ((j + 1 : Nat) : Int) < (n : Int) := by omega
        have q4 : (j : Int) < (n : Int) := by omega
        have q5 : (0 : Int) ≤ (j : Int) := by omega
        have q6 : (0 : Int) ≤ ((j + 1 : Nat) : Int) := by omega
        have hcmp : (Hid (ltN x y) ∧ Op.bytesLess y.name.toList x.name.toList = false ∧ (y.name.toList == x.name.toList) = false) ∨ (Hid (¬ ltN x y) ∧ (Op.bytesLess y.name.toList x.name.toList || (y.name.toList == x.name.toList)) = true) := by
          rcases str_cases x.name y.name with ⟨_, h2, h3⟩ | ⟨h1, _, _, h4⟩ | ⟨h2, _, _, h4⟩
          · refine .inl ⟨by rw [Hid, ltN, h3]; decide, h2, ?_⟩
            rw [str_eq]
            exact decide_eq_false fun e => by rw [e, (tri_B.zero _ _).2 rfl] at h3; omega
          · exact .inr ⟨by rw [Hid, ltN, h4]; decide, by rw [str_eq, decide_eq_true h1.symm, Bool.or_true]⟩
          · exact .inr ⟨by rw [Hid, ltN, h4]; decide, by rw [h2, Bool.true_or]⟩
        rcases hcmp with ⟨hl, hb1, hb2⟩ | ⟨hl, hb1⟩
        · have hs2 : Hid (makeErr l = 0 → upBelow l (j + 1 + 1)) := fun h0 i a b hi ha hb => by
            by_cases e : i = j
            · subst e
              have e1 := ha.symm.trans HX.out
              have e2 := hb.symm.trans HY.out
              cases e1; cases e2
              exact hl.out
            · exact hs.out h0 i a b (by omega) ha hb
          go_wp2_with fail
          go_quiet (fail)
          rename_i nq
          have HBq := hidden (below_drewN HBr.out nq)
          go_wp2_with fail
          go_roundw
          case rel => exact ⟨j + 1 + 1, by go_num, by omega, hs2, HBq.out⟩
          case measure => simp [intOf]; omega
        · have hv : Hid (decide (validP l) = false) := decide_eq_false fun k => hl.out (up_adj k.2 HX.out HY.out)
          go_wp2_with fail
          go_quiet (fail)
          rename_i nq
          have HBq := hidden (below_drewN HBr.out nq)
          go_wp2_with fail
          all_goals go_ret
          all_goals rw [hv.out]
          all_goals exact ⟨rfl, HBq.out⟩
      · have hkn' : ¬ (k : Int) < (n : Int) := by omega
        have hv : Hid (decide (validP l) = true) := decide_eq_true ⟨HE.out, adj_up fun i x y hx hy => hs.out HE.out i x y (by have := (List.getElem?_eq_some_iff.1 hy).1; have := H.out.len; omega) hx hy⟩
        have HBr := hidden hb
        clear hb
        go_wp2_with fail
        go_ret
        rw [hv.out]
        exact ⟨rfl, HBr.out⟩
    · have hee : (((makeErr l : Nat) : Int) == 0) = false := by simpa using he
      have hv : Hid (decide (validP l) = false) := decide_eq_false fun k => he k.1
      have HBr := hidden hb
      clear hb he
      by_cases hkn : k < n
      · have hkn' : (k : Int) < (n : Int) := by omega
        go_wp2_with fail
        go_ret
        rw [hv.out]
        exact ⟨rfl, HBr.out⟩
      · have hkn' : ¬ (k : Int) < (n : Int) := by omega
        go_wp2_with fail
        go_ret
        rw [hv.out]
        exact ⟨rfl, HBr.out⟩
end Go.Proofs.YthncochjhbmceaaGreat

namespace Go.Proofs.YthncochjhbmceaaGreat
set_option maxRecDepth 100000
open Go.RowKit Go.Shelf

theorem alloc_put (w : World) (b i : Nat) (v : Value) (o : Obj) (hb : b < w.heap.size) : (w.alloc o).setCell ⟨b, i, none⟩ v = (w.setCell ⟨b, i, none⟩ v).alloc o := by
  unfold World.alloc World.setCell
  congr 1
  simp only
  apply Array.ext_getElem?
  intro k
  simp only [Array.getElem?_modify, Array.getElem?_push, Array.size_modify]
  by_cases hk : k = w.heap.size
  · subst hk
    rw [if_neg (by omega)]; simp
  · simp [hk]
theorem sizeByte : (Tryz.prog.info? 5).map (·.size) = some 1 := by kernel_rfl
end Go.Proofs.YthncochjhbmceaaGreat

namespace Go.Proofs.YthncochjhbmceaaGreat
set_option maxRecDepth 100000
open Go.RowKit

/-- texts with commas between them -/
def joinL : List ByteArray → List UInt8
  | [] => []
  | x :: r => x.data.toList ++ r.flatMap fun y => 44 :: y.data.toList
def sizes (xs : List ByteArray) : Nat := (xs.map ByteArray.size).sum
theorem sizes_take {xs : List ByteArray} {k : Nat} {x : ByteArray} (h : xs[k]? = some x) : sizes (xs.take (k + 1)) = sizes (xs.take k) + x.size := by
  rw [take_snoc? h]; simp [sizes]
theorem sizes_le {xs : List ByteArray} (h : ∀ x ∈ xs, x.size ≤ 1000) : sizes xs ≤ 1000 * xs.length := by
  induction xs with
  | nil => simp [sizes]
  | cons x xs ih =>
    have := ih fun y hy => h y (by simp [hy])
    have := h x (by simp)
    simp only [sizes, List.map_cons, List.sum_cons, List.length_cons] at *
    omega

theorem joinL_len : ∀ xs : List ByteArray, (joinL xs).length ≤ sizes xs + xs.length
  | [] => by simp [joinL]
  | x :: r => by
    have h : (r.flatMap fun y => 44 :: y.data.toList).length = sizes r + r.length := by
      induction r with
      | nil => simp [sizes]
      | cons y r ih =>
        have e : y.data.toList.length = y.size := rfl
        simp only [List.flatMap_cons, List.length_append, List.length_cons, ih, sizes, List.map_cons, List.sum_cons, e]
        omega
    have e : x.data.toList.length = x.size := rfl
    simp only [joinL, List.length_append, h, sizes, List.map_cons, List.sum_cons, List.length_cons, e]
    omega
theorem joinL_snoc {xs : List ByteArray} {i : Nat} {y : ByteArray} (h : xs[i + 1]? = some y) : joinL (xs.take (i + 1 + 1)) = joinL (xs.take (i + 1)) ++ 44 :: y.data.toList := by
  rw [take_snoc? h]
  cases xs with
  | nil => simp at h
  | cons x r => simp [joinL]
theorem joinL_ne : ∀ {xs : List ByteArray}, 2 ≤ xs.length → joinL xs ≠ []
  | [], h => absurd h (by simp)
  | [_], h => absurd h (by simp)
  | x :: y :: r, _ => by simp [joinL]
end Go.Proofs.YthncochjhbmceaaGreat

namespace Go.Proofs.YthncochjhbmceaaGreat
set_option maxRecDepth 100000
open Go.RowKit

section
variable {P : Program} (w : World)
theorem run_full (t ty e : TypeId) (i : TypeInfo) (z : Value) (size bytes : Nat) (ht : P.underlying t = some (.slice e)) (hi : P.info? e = some i) (hz : i.zero = some z)
    (hsize : i.size = size) (hby : i.bytes = bytes) (hzs : z.cells.size = size) (hsz : 0 < size) (B0 : Nat) (D : Option Addr) (n : Nat) (xs : List Value) (hr0 : Row w B0 size D n xs)
    (B : Nat) (A : Option Addr) (m c : Nat) (news : List Value) (hr : Row w B size A m news) (h1 : ∀ u ∈ news, u.oneCell' = true) (hm : 0 < m)
    (h63 : n + m ≤ maxLen) (hbytes : (n + m) * bytes ≤ 140737488355328) :
    ∃ v' w', (Builtin.append_ #[t, t] ty #[.slice D n n, .slice A m c]).run P w = .ok v' w' ∧ w.grownBy w' none ∧ w'.ownsRow w.heap.size e size v' (n + m) (xs ++ news) := by
  obtain ⟨g, o, rfl, _, hc⟩ := hr.at_ hm
  have hcells : ∀ j u, news[j]? = some u → w.cell? ((⟨g, o, none⟩ : Addr).add j) = some u := fun j u hu => by
    have hj : j < news.length := by
      rcases Nat.lt_or_ge j news.length with h | h
      · exact h
      · rw [List.getElem?_eq_none h] at hu; cases hu
    rw [Addr.add_lit, hc j (by rw [← hr.len]; exact hj)]; exact hu
  cases D with
  | none =>
    have hn : n = 0 := by
      rcases Nat.eq_zero_or_pos n with h0 | h0
      · exact h0
      · obtain ⟨_, _, h, _⟩ := hr0.at_ h0
        cases h
    subst hn
    have hx : xs = [] := List.eq_nil_of_length_eq_zero (by rw [hr0.len, Nat.zero_mul])
    subst hx
    obtain ⟨v', w', hrun, h2, h3, _⟩ := run_app (P := P) w w.heap.size t ty e i z size bytes ht hi hz hsize hby hzs hsz (.slice none 0 0) 0 [] (World.ownsRow_nil _ _ _ _) B _ m c news hr h1 h63 hbytes (Nat.le_refl _)
    exact ⟨v', w', hrun, h3, h2⟩
  | some b =>
    obtain ⟨v', w', hrun, h2, h3⟩ := run_append_arg_grows (P := P) w t ty e i z size bytes ht hi hz hsize hby hzs hsz b n n xs hr0.len
      (fun j u hu => by
        have hj : j < xs.length := by
          rcases Nat.lt_or_ge j xs.length with h | h
          · exact h
          · rw [List.getElem?_eq_none h] at hu; cases hu
        rw [hr0.len] at hj
        have hn : 0 < n := by
          rcases Nat.eq_zero_or_pos n with h0 | h0
          · rw [h0, Nat.zero_mul] at hj; omega
          · exact h0
        obtain ⟨g0, o0, hb, _, hc0⟩ := hr0.at_ hn
        injection hb with hb
        subst hb
        rw [Addr.add_lit, hc0 j hj]; exact hu) ⟨g, o, none⟩ m c news hr.len hcells (by omega) h63 hbytes
    exact ⟨v', w', hrun, h3, h2⟩
end

theorem wp_full {P : Program} (w : World) {o : Oper} {a : Act} {K : Act → World → Prop} {Q : Exit → Act → World → Prop} (s x : Operand) (t : TypeId)
    (ho : o.op = .call { callee := .builtin .append, args := #[s, x], argTypes := #[t, t] })
    (e : TypeId) (i : TypeInfo) (z : Value) (size bytes : Nat) (ht : P.underlying t = some (.slice e)) (hi : P.info? e = some i) (hz : i.zero = some z)
    (hsize : i.size = size) (hby : i.bytes = bytes) (hzs : z.cells.size = size) (hsz : 0 < size) (B0 : Nat) (D : Option Addr) (n : Nat) (xs : List Value) (hs : a.eval s = .slice D n n) (hr0 : Row w B0 size D n xs)
    (B : Nat) (A : Option Addr) (m c : Nat) (news : List Value) (hx : a.eval x = .slice A m c) (hr : Row w B size A m news) (h1 : ∀ u ∈ news, u.oneCell' = true) (hm : 0 < m)
    (h63 : n + m ≤ maxLen) (hbytes : (n + m) * bytes ≤ 140737488355328)
    (h : ∀ v' w', w.grownBy w' none → w'.ownsRow w.heap.size e size v' (n + m) (xs ++ news) → K (a.put o.dst v') w') : o.wp P a w K Q := by
  obtain ⟨v', w', hrun, h2, h3⟩ := run_full (P := P) w t o.type e i z size bytes ht hi hz hsize hby hzs hsz B0 D n xs hr0 B A m c news hr h1 hm h63 hbytes
  unfold Oper.wp execOp
  simp only [ho, resolve, invoke, builtin, Sem.run_bind, Sem.run_pure, Result.andThen_ok, List.map_toArray, List.map_cons, List.map_nil, hs, hx, hrun]
  exact h v' w' h2 h3
theorem wpList_full {P : Program} (w : World) {ops : Array Oper} {rest : List Oper} {o : Oper} {a : Act} {Q : Exit → Act → World → Prop} (hgd : o.guard = none) (s x : Operand) (t : TypeId)
    (ho : o.op = .call { callee := .builtin .append, args := #[s, x], argTypes := #[t, t] })
    (e : TypeId) (i : TypeInfo) (z : Value) (size bytes : Nat) (ht : P.underlying t = some (.slice e)) (hi : P.info? e = some i) (hz : i.zero = some z)
    (hsize : i.size = size) (hby : i.bytes = bytes) (hzs : z.cells.size = size) (hsz : 0 < size) (B0 : Nat) (D : Option Addr) (n : Nat) (xs : List Value) (hs : a.eval s = .slice D n n) (hr0 : Row w B0 size D n xs)
    (B : Nat) (A : Option Addr) (m c : Nat) (news : List Value) (hx : a.eval x = .slice A m c) (hr : Row w B size A m news) (h1 : ∀ u ∈ news, u.oneCell' = true) (hm : 0 < m)
    (h63 : n + m ≤ maxLen) (hbytes : (n + m) * bytes ≤ 140737488355328)
    (h : ∀ v' w', w.grownBy w' none → w'.ownsRow w.heap.size e size v' (n + m) (xs ++ news) → wpList P ops Q rest (a.put o.dst v') w') : wpList P ops Q (o :: rest) a w :=
  wpList_plain hgd fun _ hK => wp_full w s x t ho e i z size bytes ht hi hz hsize hby hzs hsz B0 D n xs hs hr0 B A m c news hx hr h1 hm h63 hbytes fun v' w' h2 h3 => hK _ _ (h v' w' h2 h3)
theorem step_full {P : Program} {w : World} {ops : Array Oper} {o : Oper} {a : Act} {K : Act → World → Prop} {Q : Exit → Act → World → Prop} {E : Prop} (hgd : o.guard = none) (s x : Operand) (t : TypeId)
    (ho : o.op = .call { callee := .builtin .append, args := #[s, x], argTypes := #[t, t] })
    (e : TypeId) (i : TypeInfo) (z : Value) (size bytes : Nat) (ht : P.underlying t = some (.slice e)) (hi : P.info? e = some i) (hz : i.zero = some z)
    (hsize : i.size = size) (hby : i.bytes = bytes) (hzs : z.cells.size = size) (hsz : 0 < size) (B0 : Nat) (D : Option Addr) (n : Nat) (xs : List Value) (hs : a.eval s = .slice D n n) (hr0 : Row w B0 size D n xs)
    (B : Nat) (A : Option Addr) (m c : Nat) (news : List Value) (hx : a.eval x = .slice A m c) (hr : Row w B size A m news) (h1 : ∀ u ∈ news, u.oneCell' = true) (hm : 0 < m)
    (h63 : n + m ≤ maxLen) (hbytes : (n + m) * bytes ≤ 140737488355328)
    (h : ∀ v' w', w.grownBy w' none → w'.ownsRow w.heap.size e size v' (n + m) (xs ++ news) → K (a.put o.dst v') w') :
    if Region.wanted o (yielded ops a.tmps) = true then Oper.wp P o a w K Q else E := by
  have hw : Region.wanted o (yielded ops a.tmps) = true := by simp [Region.wanted, hgd]
  rw [if_pos hw]
  exact wp_full w s x t ho e i z size bytes ht hi hz hsize hby hzs hsz B0 D n xs hs hr0 B A m c news hx hr h1 hm h63 hbytes h
theorem step_appW {P : Program} {w : World} {ops : Array Oper} {o : Oper} {a : Act} {K : Act → World → Prop} {Q : Exit → Act → World → Prop} {E : Prop} (hgd : o.guard = none) (s x : Operand) (t : TypeId)
    (ho : o.op = .call { callee := .builtin .append, args := #[s, x], argTypes := #[t, t] })
    (base : Nat) (e : TypeId) (i : TypeInfo) (z : Value) (size bytes : Nat) (ht : P.underlying t = some (.slice e)) (hi : P.info? e = some i) (hz : i.zero = some z)
    (hsize : i.size = size) (hby : i.bytes = bytes) (hzs : z.cells.size = size) (hsz : 0 < size)
    (v : Value) (n : Nat) (xs : List Value) (hs : a.eval s = v) (hown : w.ownsRow base e size v n xs)
    (B : Nat) (A : Option Addr) (m c : Nat) (news : List Value) (hx : a.eval x = .slice A m c) (hr : Row w B size A m news) (h1 : ∀ u ∈ news, u.oneCell' = true)
    (h63 : n + m ≤ maxLen) (hbytes : (n + m) * bytes ≤ 140737488355328) (hbase : base ≤ w.heap.size)
    (h : ∀ v' w', w'.ownsRow base e size v' (n + m) (xs ++ news) → w.grownBy w' v.ownBlock → (v'.ownBlock = v.ownBlock ∨ v'.ownBlock = some w.heap.size) → K (a.put o.dst v') w') :
    if Region.wanted o (yielded ops a.tmps) = true then Oper.wp P o a w K Q else E := by
  have hw : Region.wanted o (yielded ops a.tmps) = true := by simp [Region.wanted, hgd]
  rw [if_pos hw]
  exact wp_app w s x t ho base e i z size bytes ht hi hz hsize hby hzs hsz v n xs hs hown B A m c news hx hr h1 h63 hbytes hbase h
theorem fresh_now (w : World) (t : TypeId) (v : Value) : Row (w.alloc (.cells #[v] t)) (w.alloc (.cells #[v] t)).heap.size 1 (some ⟨w.heap.size, 0, none⟩) 1 [v] := (Row.fresh w t 1 1 [v] rfl).more (by simp)
theorem fresh_at (w : World) (t : TypeId) (v : Value) (b : Nat) (hb : b = w.heap.size) : Row (w.alloc (.cells #[v] t)) (w.alloc (.cells #[v] t)).heap.size 1 (some ⟨b, 0, none⟩) 1 [v] := by subst hb; exact fresh_now w t v
theorem Row.allocd {w : World} {size n : Nat} {A : Option Addr} {xs : List Value} (h : Row w w.heap.size size A n xs) (o : Obj) : Row (w.alloc o) (w.alloc o).heap.size size A n xs := (h.alloc (Nat.le_refl _) o).more (by simp)
theorem Row.grew {w w' : World} {size n : Nat} {A : Option Addr} {xs : List Value} (h : Row w w.heap.size size A n xs) (g : w.grownBy w' none) : Row w' w'.heap.size size A n xs :=
  (h.keep fun k hk => g.block k hk (by simp)).more g.size
theorem Row.drewd {w : World} {size n : Nat} {A : Option Addr} {xs : List Value} (h : Row w w.heap.size size A n xs) : Row w.drew w.drew.heap.size size A n xs := h.drew
theorem below_allocd {a w : World} (h : Below a.heap.size a w) (o : Obj) : Below a.heap.size a (w.alloc o) := h.alloc h.size o
theorem below_grew {a w w' : World} (h : Below a.heap.size a w) (g : w.grownBy w' none) : Below a.heap.size a w' := h.grown g h.size (by simp)
end Go.Proofs.YthncochjhbmceaaGreat

namespace Go.Proofs.YthncochjhbmceaaGreat
set_option maxRecDepth 100000
open Go.RowKit

/-- one label as a text -/
def partL (x : Lbl) : List UInt8 := x.name.data.toList ++ 61 :: quoteL x.value.data.toList
def partB (x : Lbl) : ByteArray := ⟨(partL x).toArray⟩
/-- a list as a text -/
def showP (l : List Lbl) : List UInt8 := joinL (l.map partB)
def showL (l : List Lbl) : List UInt8 := if validP l then showP l else []
theorem valid_small {l : List Lbl} (h : validP l) : l.length ≤ 8 ∧ ∀ x ∈ l, x.name.size ≤ 32 ∧ x.value.size ≤ 64 := by
  obtain ⟨h1, h2, h3⟩ := makeErr_ok h.1
  refine ⟨h2, fun x hx => ?_⟩
  obtain ⟨a, b⟩ := make_fits h3 x hx
  unfold fitN at a
  unfold fitV at b
  simp only [Bool.and_eq_true, decide_eq_true_eq] at a b
  exact ⟨a.2.2, b.2⟩
theorem partB_size {x : Lbl} (h1 : x.name.size ≤ 32) (h2 : x.value.size ≤ 64) : (partB x).size ≤ 1000 := by
  have e : (partB x).size = (partL x).length := rfl
  have h3 := quoL_len x.value.data.toList
  have e1 : x.name.data.toList.length = x.name.size := rfl
  have e2 : x.value.data.toList.length = x.value.size := rfl
  rw [e]
  simp only [partL, quoteL, List.length_append, List.length_cons, List.length_nil]
  omega
theorem infoStr : (Tryz.prog.info? 9).map (fun i => (i.zero, i.size, i.bytes)) = some (some (.string ⟨#[]⟩), 1, 16) := by kernel_rfl

end Go.Proofs.YthncochjhbmceaaGreat

namespace Go.Proofs.YthncochjhbmceaaGreat
set_option maxRecDepth 100000
open Go.RowKit

def getL : List Lbl → ByteArray → ByteArray
  | [], _ => ⟨#[]⟩
  | x :: l, nm => if x.name = nm then x.value else getL l nm
theorem getL_none : ∀ {l : List Lbl} {nm : ByteArray}, (∀ x ∈ l, x.name ≠ nm) → getL l nm = ⟨#[]⟩
  | [], _, _ => rfl
  | x :: l, nm, h => by rw [getL, if_neg (h x (by simp)), getL_none fun y hy => h y (by simp [hy])]
theorem getL_here : ∀ {l : List Lbl} {nm : ByteArray} {k : Nat} {x : Lbl}, (∀ y ∈ l.take k, y.name ≠ nm) → l[k]? = some x → x.name = nm → getL l nm = x.value
  | y :: l, nm, 0, x, _, hx, e => by
    simp only [List.getElem?_cons_zero, Option.some.injEq] at hx
    subst hx
    rw [getL, if_pos e]
  | y :: l, nm, k + 1, x, h, hx, e => by
    rw [getL, if_neg (h y (by simp)), getL_here (fun z hz => h z (by rw [List.take_succ_cons]; exact List.mem_cons_of_mem _ hz)) (by simpa using hx) e]

set_option maxHeartbeats 1600000 in
theorem lget_any (A : Option Addr) (n c : Nat) (l : List Lbl) (nm : ByteArray) (w : World) (h : LbF w A n l) :
    Calls Tryz.prog 100 #[.slice A n c, .string nm] w fun e w' => e = .returned (.string (getL l nm)) ∧ Below w.heap.size w w' := by
  have H := hidden h
  have hfit := h.fit
  clear h
  go_enter Tryz.func100, Tryz.ntmps100
  go_wp2_with fail
  go_loopw [9] (fun vi wr => ∃ k : Nat, k ≤ n ∧ vi = .int .i64 k ∧ Hid (∀ y ∈ l.take k, y.name ≠ nm) ∧ Below w.heap.size w wr) (fun vi _ => n - (intOf vi).toNat)
  case atStart => exact ⟨0, Nat.zero_le _, rfl, hidden (by simp), Below.refl _ _⟩
  case round =>
    obtain ⟨k, hk, rfl, hno, hb⟩ := hrel
    have k0 : (0 : Int) ≤ (k : Int) := by omega
    by_cases hlt : k < n
    · have k1 : (k : Int) < (n : Int) := by omega
      obtain ⟨g, o, x, rfl, hg, hx, d0, d1, _⟩ := lb_cells (H.out.on hb) hlt
      have HX := hidden hx
      have HBa := hidden (hb.alloc hb.size (.cells #[.string x.name, .string x.value] 70))
      have hs := str_eq x.name nm
      clear hx hb
      by_cases he : x.name = nm
      · rw [decide_eq_true he] at hs
        have hG := hidden (getL_here hno.out HX.out he)
        clear he
        go_wp2_with fail
        go_ret
        rw [hG.out]
        exact ⟨rfl, HBa.out⟩
      · rw [decide_eq_false he] at hs
        have hno2 : Hid (∀ y ∈ l.take (k + 1), y.name ≠ nm) := fun y hy => by
          rw [take_snoc? HX.out, List.mem_append, List.mem_singleton] at hy
          rcases hy with hy | rfl
          · exact hno.out y hy
          · exact he
        clear he
        go_wp2_with fail
        go_roundw
        case rel => exact ⟨k + 1, by omega, by go_num, hno2, HBa.out⟩
        case measure => simp [intOf]; omega
    · obtain rfl : n = k := by omega
      have k1 : ¬ (n : Int) < (n : Int) := by omega
      have hG := hidden (getL_none (l := l) (nm := nm) (by
        have := hno.out
        rwa [List.take_of_length_le (by rw [H.out.len]; exact Nat.le_refl _)] at this))
      go_wp2_with fail
      go_ret
      rw [hG.out]
      exact ⟨rfl, hb⟩

end Go.Proofs.YthncochjhbmceaaGreat

namespace Go.Proofs.YthncochjhbmceaaGreat
set_option maxRecDepth 100000
open Go.RowKit

def wkL : List Lbl := [⟨⟨#[98]⟩, ⟨#[49]⟩⟩, ⟨⟨#[97]⟩, ⟨#[120]⟩⟩]
def wkS : List Lbl := [⟨⟨#[97]⟩, ⟨#[120]⟩⟩, ⟨⟨#[98]⟩, ⟨#[49]⟩⟩]
theorem wk_err : makeErr wkL = 0 := by decide +kernel
theorem wk_up : upN wkS := by unfold upN ltN wkS; decide +kernel
theorem wk_apart : wkL.Pairwise fun x y => x.name ≠ y.name := by unfold wkL; decide +kernel
theorem wk_make : makeL wkL = wkS := by
  rw [makeL, if_pos wk_err]
  exact (sortN_uniq wk_apart wk_up (List.Perm.swap _ _ _)).symm
theorem wk_show : (⟨(showL wkS).toArray⟩ : ByteArray) = ⟨#[97, 61, 34, 120, 34, 44, 98, 61, 34, 49, 34]⟩ := by
  have : showL wkS = showP wkS := if_pos (by
    have := sortN_valid wk_err
    rwa [sortN_uniq wk_apart wk_up (List.Perm.swap _ _ _)])
  rw [this]
  decide +kernel
theorem wk_get : getL wkS ⟨#[98]⟩ = ⟨#[49]⟩ := by decide +kernel

theorem wkL_sz : ∀ x ∈ wkL, x.name.size ≤ 140737488355328 ∧ x.value.size ≤ 140737488355328 := by decide +kernel
theorem wkS_sz : ∀ x ∈ wkS, x.name.size ≤ 140737488355328 ∧ x.value.size ≤ 140737488355328 := by decide +kernel
end Go.Proofs.YthncochjhbmceaaGreat

namespace Go.Proofs.YthncochjhbmceaaGreat
set_option maxRecDepth 100000
open Go.RowKit Go.WideShapes

section
variable {H : Type} {enc : TypeId × Value → H} {P : Program} {W : World} {b : Nat}

theorem arg_fits {ts : List TypeId} {ds : List (DataW H)} {j : Nat} {t : TypeId} {d : DataW H} {ps : List MemPlace} (ht : ts[j]? = some t) (hd : ds[j]? = some d) (hlt : ∀ x ∈ ps, x.block < W.heap.size)
    (hsz : (DataW.weightsEach P ts ds).all (· ≤ reachBytes) = true) (hb : Rows.uptoBulkAll ds ≤ b) : Fits P W b t (d, ps) :=
  ⟨hlt, fun k hk => of_decide_eq_true (List.all_eq_true.1 hsz k (weights_each ht hd hk)), by have := bulk_mem (List.mem_of_getElem? hd); simp only; omega⟩

theorem open_arg_slice {t e : TypeId} {α : Type} [Inhabited α] {f : α → List Value} {G : α → Prop} {k base : Nat} {v : Value} {d : DataW H} {ps : List MemPlace} (ht : P.underlying t = some (.slice e)) (hC : P.cellsOf e = k) (hk : 0 < k) (hlen : ∀ a, (f a).length = k) (he : Opens enc P W b e f G)
    (hv : Value.okWide P W .any base t v) (h : DataW.Trod enc P W 0 (fun _ => true) true t v d ps) (hF : Fits P W b t (d, ps)) :
    ∃ s : Sl α, v = s.val ∧ s.At W W.heap.size k f ∧ (∀ a ∈ s.l, G a) ∧ s.n * P.bytesOf e ≤ reachBytes ∧ s.n ≤ b := by
  obtain ⟨A, n, c, rfl⟩ := okWide_slice ht hv
  obtain ⟨fuel, hf⟩ := h
  obtain ⟨s, hs, hG⟩ := opens_slice ht hC hk hlen he _ _ _ hf hF
  simp only [Value.cells, List.cons.injEq, and_true] at hs
  exact ⟨s, hs, hG⟩

theorem open_arg_int {t : TypeId} {k : IntKind} {base : Nat} {v : Value} {d : DataW H} {ps : List MemPlace} (ht : P.underlying t = some (.int k)) (hv : Value.okWide P W .any base t v) (h : DataW.Trod enc P W 0 (fun _ => true) true t v d ps) : ∃ n : Int, v = .int k n ∧ (Lit.int k n).wf = true := by
  obtain ⟨n, rfl⟩ := okWide_int ht hv
  obtain ⟨fuel, hf⟩ := h
  obtain ⟨n', hc, _, hw⟩ := DataW.trod_int ht hf
  simp only [Value.cells, List.cons.injEq, Value.int.injEq, true_and, and_true] at hc
  exact ⟨n, rfl, by rw [hc]; exact hw⟩
theorem open_arg_ints3 {t : TypeId} {f0 f1 f2 : Field} {k0 k1 k2 : IntKind} {base : Nat} {v : Value} {d : DataW H} {ps : List MemPlace} (hs : P.underlying t = some (.struct #[f0, f1, f2])) (hone : Deep.oneCellFields P #[f0, f1, f2] = true) (hC : P.cellsOf t = 3)
    (h0 : P.underlying f0.type = some (.int k0)) (h1 : P.underlying f1.type = some (.int k1)) (h2 : P.underlying f2.type = some (.int k2))
    (hv : Value.okWide P W .any base t v) (h : DataW.Trod enc P W 0 (fun _ => true) true t v d ps) :
    ∃ x0 x1 x2 : Int, v = .agg #[.int k0 x0, .int k1 x1, .int k2 x2] ∧ (Lit.int k0 x0).wf = true ∧ (Lit.int k1 x1).wf = true ∧ (Lit.int k2 x2).wf = true := by
  obtain ⟨v0, v1, v2, y0, y1, y2, n, hv', _, _, g0, g1, g2⟩ := Joins.open_agg3 hs hone hC hv h
  obtain ⟨x0, e0, _, w0⟩ := DataW.trod_int h0 g0
  obtain ⟨x1, e1, _, w1⟩ := DataW.trod_int h1 g1
  obtain ⟨x2, e2, _, w2⟩ := DataW.trod_int h2 g2
  simp only [List.cons.injEq, and_true] at e0 e1 e2
  exact ⟨x0, x1, x2, by rw [hv', e0, e1, e2], w0, w1, w2⟩
end
end Go.Proofs.YthncochjhbmceaaGreat

namespace Go.Proofs.YthncochjhbmceaaGreat
set_option maxRecDepth 100000
open Go.RowKit Go.WideShapes Go.ChangeShapes

section
variable {H : Type} {enc : TypeId × Value → H} {W : World} {b : Nat}
theorem opens_lblS : Opens enc Tryz.prog W b 70 Lbl.cells (fun x => x.name.size ≤ 140737488355328 ∧ x.value.size ≤ 140737488355328) := by
  intro fuel cs x h hf
  obtain ⟨n, hl, hp⟩ := open_ones Tryz.underlying70 (by kernel_rfl) (by kernel_rfl) h hf
  obtain ⟨u0, y0, c0, t0, f0⟩ := hp 0 _ rfl
  obtain ⟨u1, y1, c1, t1, f1⟩ := hp 1 _ rfl
  obtain ⟨s0, e0, g0, _⟩ := opens_string Tryz.underlying9 _ _ _ t0 f0
  obtain ⟨s1, e1, g1, _⟩ := opens_string Tryz.underlying9 _ _ _ t1 f1
  simp only [List.cons.injEq, and_true] at e0 e1
  subst e0 e1
  match cs, hl with
  | [a, c], _ =>
    simp only [List.getElem?_cons_zero, List.getElem?_cons_succ, Option.some.injEq] at c0 c1
    unfold reachBytes at g0 g1
    exact ⟨⟨s0, s1⟩, by rw [c0, c1]; rfl, by show s0.size ≤ _; omega, by show s1.size ≤ _; omega⟩
theorem open_labels {base : Nat} {v : Value} {d : DataW H} {ps : List MemPlace} (hv : Value.okWide Tryz.prog W .any base 61 v) (h : DataW.Trod enc Tryz.prog W 0 (fun _ => true) true 61 v d ps) (hF : Fits Tryz.prog W b 61 (d, ps)) :
    ∃ (A : Option Addr) (n c : Nat) (l : List Lbl), v = .slice A n c ∧ LbF W A n l ∧ n ≤ c := by
  obtain ⟨s, rfl, ⟨h1, h2, h3⟩, h4, h5, _⟩ := open_arg_slice (k := 2) (f := Lbl.cells) Tryz.underlying61 (by kernel_rfl) (by decide) (fun _ => rfl) opens_lblS hv h hF
  rw [show Tryz.prog.bytesOf 70 = 32 from by kernel_rfl] at h5
  unfold reachBytes at h5
  exact ⟨s.A, s.n, s.c, s.l, rfl, ⟨h3, h2, by omega, h4⟩, h1⟩
end

theorem make_sz {l : List Lbl} (h : ∀ x ∈ l, x.name.size ≤ 140737488355328 ∧ x.value.size ≤ 140737488355328) : ∀ x ∈ makeL l, x.name.size ≤ 140737488355328 ∧ x.value.size ≤ 140737488355328 := fun x hx => by
  unfold makeL at hx
  split at hx
  · exact h x ((sortN_perm l).mem_iff.1 hx)
  · cases hx
theorem makeLaw (A : Option Addr) (n c : Nat) (l : List Lbl) (w : World) (h : LbF w A n l) (hnc : n ≤ c) :
    Calls Tryz.prog 60 #[.slice A n c] w fun e w' => ∃ B c', e = .returned (.tuple #[.slice B (makeL l).length c', .int .i64 (makeErr l)]) ∧ LbF w' B (makeL l).length (makeL l) ∧ (makeL l).length ≤ c' ∧ Below w.heap.size w w' := by
  refine (lmake_any A n c l w h hnc).mono ?_
  rintro e w' ⟨v, rfl, hown, hb⟩
  obtain ⟨B, c', rfl, hc, hr⟩ := own_shape hown
  exact ⟨B, c', rfl, ⟨hr, rfl, by have := makeL_len (l := l); omega, make_sz h.sz⟩, hc, hb⟩
theorem makeRef (A : Option Addr) (n c : Nat) (l : List Lbl) (w : World) (h : LbF w A n l) :
    Calls Tryz.prog 118 #[.slice A n c] w fun e w' => ∃ B c', e = .returned (.tuple #[.slice B (makeL l).length c', .int .i64 (makeErr l)]) ∧ LbF w' B (makeL l).length (makeL l) ∧ Below w.heap.size w w' := by
  refine (rmake_any A n c l w h).mono ?_
  rintro e w' ⟨v, rfl, hown, hb⟩
  obtain ⟨B, c', rfl, hc, hr⟩ := own_shape hown
  exact ⟨B, c', rfl, ⟨hr, rfl, by have := makeL_len (l := l); omega, make_sz h.sz⟩, hb⟩
end Go.Proofs.YthncochjhbmceaaGreat

namespace Go.Proofs.YthncochjhbmceaaGreat
set_option maxRecDepth 100000
open Go.RowKit

def labE (x : Lbl) : List UInt8 := textL x.name ++ textL x.value
def encB (l : List Lbl) : List UInt8 := l.flatMap labE
theorem encB_snoc (l : List Lbl) (x : Lbl) : encB (l ++ [x]) = encB l ++ textL x.name ++ textL x.value := by simp [encB, labE]
/-- the bytes of a set, or the error -/
def encLb (l : List Lbl) : ByteArray × Int := if makeErr l = 0 then (if validP l then (⟨(uintL l.length ++ encB l).toArray⟩, 0) else (⟨#[]⟩, 42)) else (⟨#[]⟩, (makeErr l : Nat))
theorem encLb_err {l : List Lbl} (h : makeErr l ≠ 0) : encLb l = (⟨#[]⟩, ((makeErr l : Nat) : Int)) := if_neg h
theorem encLb_bad {l : List Lbl} (h : makeErr l = 0) (hv : ¬ validP l) : encLb l = (⟨#[]⟩, 42) := by rw [encLb, if_pos h, if_neg hv]
theorem encLb_ok {l : List Lbl} (hv : validP l) : encLb l = (⟨(uintL l.length ++ encB l).toArray⟩, 0) := by rw [encLb, if_pos hv.1, if_pos hv]
theorem textL_len {v : ByteArray} {m : Nat} (h : v.size ≤ m) (hm : m ≤ 1000) : (textL v).length ≤ 10 + m := by
  have := uintL_ten (v := v.size) (by omega)
  have e : v.data.toList.length = v.size := rfl
  rw [textL, List.length_append]; omega
theorem encB_len {l : List Lbl} (h : ∀ x ∈ l, x.name.size ≤ 32 ∧ x.value.size ≤ 64) : (encB l).length ≤ 116 * l.length := by
  induction l with
  | nil => simp [encB]
  | cons x l ih =>
    have h1 := ih fun y hy => h y (List.mem_cons_of_mem _ hy)
    obtain ⟨h2, h3⟩ := h x (List.mem_cons_self ..)
    have := textL_len h2 (by omega)
    have := textL_len h3 (by omega)
    simp only [encB, List.flatMap_cons, List.length_append, List.length_cons, labE] at h1 ⊢
    omega

set_option maxHeartbeats 6400000 in
theorem lenc_any (A : Option Addr) (n c : Nat) (l : List Lbl) (w : World) (h : LbF w A n l) (hnc : n ≤ c) :
    Calls Tryz.prog 28 #[.slice A n c] w fun e w' => e = .returned (.tuple #[.string (encLb l).1, .int .i64 (encLb l).2]) ∧ Below w.heap.size w w' := by
  have H := hidden h
  have S1 := hidden (makeLaw A n c l w h hnc)
  have S2 := hidden (fun W hW => lvalid_any A n c l W (h.on hW) hnc)
  clear h
  by_cases he : makeErr l = 0
  · rw [he] at S1
    by_cases hv : validP l
    · have HU := hidden (encLb_ok hv)
      obtain ⟨hl8, hlx⟩ := valid_small hv
      have hn8 : n ≤ 8 := by have := H.out.len; omega
      have HLX := hidden hlx
      rw [decide_eq_true hv] at S2
      have hu : IntKind.u64.wrap (n : Int) = (n : Int) := Go.IntWalk.u64_in _ (by omega)
      clear hv he hlx hl8
      go_enter Tryz.func28, Tryz.ntmps28
      go_wp2_with fail
      refine S1.out.mono ?_
      rintro e w1 ⟨B1, c1, rfl, _, _, b1⟩
      have B1 := hidden b1
      have S3 := hidden (S2.out w1 b1)
      clear b1 S1 S2
      go_wp2_with fail
      refine S3.out.mono ?_
      rintro e w2 ⟨rfl, b2⟩
      have HB2 := hidden (B1.out.trans (b2.mono B1.out.size))
      clear b2 S3 B1
      go_wp2_with fail
      have hI := bld_new w2
      have hB : Below w2.heap.size w2 (w2.alloc (.cells #[.pointer none, .slice none 0 0] 178)) := (Below.refl _ _).alloc (Nat.le_refl _) _
      generalize w2.alloc (.cells #[.pointer none, .slice none 0 0] 178) = w3 at hI hB ⊢
      obtain ⟨g, hg⟩ : ∃ g, w2.heap.size = g := ⟨_, rfl⟩
      have HG := hidden hg
      rw [hg] at hI hB ⊢
      have hU := hidden (uint_any n w3 (by omega))
      have hgw : w.heap.size ≤ g := by have := HB2.out.size; omega
      go_wp2_with fail
      refine hU.out.mono ?_
      rintro e w4 ⟨rfl, hb4⟩
      have hI4 := bld_below hI hb4
      have hs4 : g ≤ w3.heap.size := by have := hB.size; omega
      have B4 : Below g w2 w4 := hB.trans (hb4.mono hs4)
      have hut := uintL_ten (v := n) (by omega)
      clear hI hU hB hg
      go_wp2_with fail
      refine (bldStr_any g g (Lib.byteCells []) ⟨(uintL n).toArray⟩ w4 hI4 (by simp [Lib.byteCells, ByteArray.size]; omega) (by have := B4.size; have := HG.out; omega)).mono ?_
      rintro e w5 ⟨rfl, hI5, hb5, _⟩
      have hI5' := hidden (show Lib.IsBuilder 178 5 g g (Lib.byteCells (uintL n)) w5 from .inr hI5)
      have B5 := hidden (B4.trans hb5)
      clear hI4 hb4 hs4 B4 hI5 hb5
      go_wp2_with fail
      go_loopw [29] (fun i wr => ∃ (k : Nat), k ≤ n ∧ i = .int .i64 k ∧ Hid (Lib.IsBuilder 178 5 g g (Lib.byteCells (uintL n ++ encB (l.take k))) wr) ∧ Hid (Below g w2 wr)) (fun i _ => n - (intOf i).toNat)
      case atStart => exact ⟨0, Nat.zero_le _, rfl, by simpa [encB, Hid] using hI5', B5⟩
      case round =>
        obtain ⟨k, hk, rfl, hbd, hb⟩ := hrel
        clear hI5' B5
        have k0 : (0 : Int) ≤ (k : Int) := by omega
        have HBW := hidden (HB2.out.trans (hb.out.mono hgw))
        by_cases hlt : k < n
        · have k1 : (k : Int) < (n : Int) := by omega
          obtain ⟨gs, o, x, rfl, _, hx, c0, c1, hxm⟩ := lb_cells (H.out.on HBW.out) hlt
          obtain ⟨hx1, hx2⟩ := HLX.out x hxm
          have hT : Hid (encB (l.take (k + 1)) = encB (l.take k) ++ textL x.name ++ textL x.value) := by rw [Hid, take_snoc? hx, encB_snoc]
          have hel : (encB (l.take k)).length ≤ 116 * 8 := by
            have h1 := encB_len (l := l.take k) fun y hy => HLX.out y (List.mem_of_mem_take hy)
            have h2 : (l.take k).length ≤ 8 := by rw [List.length_take]; omega
            omega
          have t1 := textL_len hx1 (by omega)
          have t2 := textL_len hx2 (by omega)
          have hgr : g ≤ wr.heap.size := by have := hb.out.size; have := HG.out; omega
          clear hx hxm
          go_wp2_with fail
          have X1 := Whole1.new wr 70 #[.string x.name, .string x.value]
          have hbA : Below wr.heap.size wr (wr.alloc (.cells #[.string x.name, .string x.value] 70)) := (Below.refl _ _).alloc (Nat.le_refl _) _
          generalize wr.alloc (.cells #[.string x.name, .string x.value] 70) = wa at X1 hbA ⊢
          have hbd2 := bld_below hbd.out hbA
          have hb2 := hb.out.trans (hbA.mono hgr)
          obtain ⟨X, hX⟩ : ∃ X, wr.heap.size = X := ⟨_, rfl⟩
          rw [hX] at X1 ⊢
          have XH : wa.heap[X]? = some (.cells #[.string x.name, .string x.value] 70 (0, 0)) := X1
          have hXl : X < wa.heap.size := X1.lt
          clear X1 hbd hbA c0 c1 hX
          refine (text_any x.name wa (by omega)).mono ?_
          rintro e wb ⟨rfl, hbB⟩
          have hga := hb2.size
          have hbd3 := bld_below hbd2 hbB
          have hb3 := hb2.trans (hbB.mono (by have := HG.out; omega))
          have XH2 := (hbB.block X hXl).trans XH
          clear hbd2 hbB hb2 hga hXl XH
          go_wp2_with fail
          refine (bldStr_any g g _ ⟨(textL x.name).toArray⟩ wb hbd3 (by rw [Lib.byteCells_length, List.length_append]; simp only [ByteArray.size, List.size_toArray]; omega) (by have := hb3.size; have := HG.out; omega)).mono ?_
          rintro e wc ⟨rfl, hI5, hb5, ho5⟩
          have hI6 : Lib.IsBuilder 178 5 g g (Lib.byteCells (uintL n ++ encB (l.take k) ++ textL x.name)) wc := .inr (by rw [Lib.byteCells_append (uintL n ++ encB (l.take k))]; exact hI5)
          have hb6 := hb3.trans hb5
          have XH3 := ho5 X _ _ _ XH2 (by decide) (by decide)
          have e2 : wc.cell? ⟨X, 1, none⟩ = some (.string x.value) := by rw [Lib.cell_of_heap XH3]; rfl
          clear hI5 hb5 ho5 XH2 XH3 hb3 hbd3
          go_wp2_with fail
          refine (text_any x.value wc (by omega)).mono ?_
          rintro e wd ⟨rfl, hb7⟩
          have hs7 := hb6.size
          have hI7 := bld_below hI6 hb7
          have hb8 := hb6.trans (hb7.mono (by have := HG.out; omega))
          clear hI6 hb7 hb6 hs7
          go_wp2_with fail
          refine (bldStr_any g g _ ⟨(textL x.value).toArray⟩ wd hI7 (by rw [Lib.byteCells_length, List.length_append, List.length_append]; simp only [ByteArray.size, List.size_toArray]; omega) (by have := hb8.size; have := HG.out; omega)).mono ?_
          rintro e we ⟨rfl, hI8, hb9, _⟩
          have hI9 : Lib.IsBuilder 178 5 g g (Lib.byteCells (uintL n ++ encB (l.take (k + 1)))) we := .inr (by
            have e9 : uintL n ++ encB (l.take (k + 1)) = (uintL n ++ encB (l.take k) ++ textL x.name) ++ textL x.value := by rw [hT.out]; simp
            rw [e9, Lib.byteCells_append (uintL n ++ encB (l.take k) ++ textL x.name)]; exact hI8)
          have hI10 := hidden hI9
          have hb10 := hidden (hb8.trans hb9)
          clear hI8 hb9 hI7 hb8 hI9
          go_wp2_with fail
          go_roundw
          case rel => exact ⟨k + 1, by omega, by go_num, hI10, hb10⟩
          case measure => simp [intOf]; omega
        · have k2 : ¬ (k : Int) < (n : Int) := by omega
          have hkn : k = n := by omega
          have hne : uintL n ++ encB (l.take k) ≠ [] := fun h => uintL_ne n (List.append_eq_nil_iff.1 h).1
          go_wp2_with fail
          refine (bldString_any g g _ wr hbd.out hne).mono ?_
          rintro e wz ⟨rfl, hbz⟩
          go_wp2_with fail
          go_ret2
          rw [HU.out]
          have ht : l.take n = l := List.take_of_length_le (by have := H.out.len; omega)
          subst hkn
          have hln := H.out.len
          exact ⟨by rw [ht, hln]; rfl, HB2.out.trans ((hb.out.trans hbz).mono hgw)⟩
    · have HU := hidden (encLb_bad he hv)
      rw [decide_eq_false hv] at S2
      clear hv he
      go_enter Tryz.func28, Tryz.ntmps28
      go_wp2_with fail
      refine S1.out.mono ?_
      rintro e w1 ⟨B1, c1, rfl, _, _, b1⟩
      have B1 := hidden b1
      have S3 := hidden (S2.out w1 b1)
      clear b1 S1 S2
      go_wp2_with fail
      refine S3.out.mono ?_
      rintro e w2 ⟨rfl, b2⟩
      have HB2 := hidden (B1.out.trans (b2.mono B1.out.size))
      clear b2 S3 B1
      go_wp2_with fail
      go_ret2
      rw [HU.out]
      exact ⟨rfl, HB2.out⟩
  · have HU := hidden (encLb_err he)
    have e0 : (((makeErr l : Nat) : Int) != 0) = true := by simpa using he
    clear he
    go_enter Tryz.func28, Tryz.ntmps28
    go_wp2_with fail
    refine S1.out.mono ?_
    rintro e w1 ⟨B1, c1, rfl, _, _, b1⟩
    go_wp2_with fail
    go_ret2
    rw [HU.out]
    exact ⟨rfl, b1⟩
end Go.Proofs.YthncochjhbmceaaGreat

namespace Go.Proofs.YthncochjhbmceaaGreat
set_option maxRecDepth 100000
open Go.RowKit

def digits16 : ByteArray := ⟨#[48, 49, 50, 51, 52, 53, 54, 55, 56, 57, 97, 98, 99, 100, 101, 102]⟩
theorem digits_all : ∀ n : Fin 256, Lib.indexByte digits16.data.toList (UInt8.ofNat n.val) = if hexV (UInt8.ofNat n.val) < 16 then (hexV (UInt8.ofNat n.val) : Int) else -1 := by decide +kernel
theorem digits_ix (b : UInt8) : Lib.indexByte digits16.data.toList b = if hexV b < 16 then (hexV b : Int) else -1 := by
  have h := digits_all ⟨b.toNat, b.toNat_lt⟩
  simpa using h
end Go.Proofs.YthncochjhbmceaaGreat
