/- labels.Valid and the reference's: is it a set of labels? Condition: the row is within the reach. (*strings.Builder).Grow at a fresh builder, walked. Condition: the number is within the reach. strings.Join at a few short texts, the comma between them. Condition: at most 8 texts of at most 1000 bytes each. -/
import Derived.Test.YthncochjhbmceaaGreatPk50eaee95
import Derived.Test.YthncochjhbmceaaGreatPkf4cb56ba
import Derived.Lib.MakeNoZero
import Derived.Test.YthncochjhbmceaaGreatPk67e2a8de
namespace Go.Proofs.YthncochjhbmceaaGreat
set_option maxRecDepth 100000
open Go.RowKit Go.Shelf Go.Sort

instance : DecidableRel ltN := fun x y => inferInstanceAs (Decidable (cmpB x.name y.name < 0))
instance (l : List Lbl) : Decidable (upN l) := inferInstanceAs (Decidable (l.Pairwise ltN))
instance (l : List Lbl) : Decidable (validP l) := inferInstanceAs (Decidable (_ ∧ _))
def sortedFrom (l : List Lbl) (k : Int) : Prop := ∀ (i : Nat) (x y : Lbl), k ≤ (i : Int) → l[i]? = some x → l[i + 1]? = some y → ¬ ltN y x
def sortedAdj (l : List Lbl) : Prop := ∀ (i : Nat) (x y : Lbl), l[i]? = some x → l[i + 1]? = some y → ¬ ltN y x
def upBelow (l : List Lbl) (k : Nat) : Prop := ∀ (i : Nat) (x y : Lbl), i + 1 < k → l[i]? = some x → l[i + 1]? = some y → ltN x y
def SortedAns (l : List Lbl) (w : World) (e : Ending) (w' : World) : Prop := ∃ b, e = .returned (.bool b) ∧ (b = true ↔ sortedAdj l) ∧ Below w.heap.size w w'
theorem adj_up : ∀ {l : List Lbl}, (∀ (i : Nat) (x y : Lbl), l[i]? = some x → l[i + 1]? = some y → ltN x y) → upN l
  | [], _ => List.Pairwise.nil
  | [x], _ => List.pairwise_singleton _ _
  | x :: y :: r, h => by
    have ih : upN (y :: r) := adj_up fun i a b ha hb => h (i + 1) a b (by simpa using ha) (by simpa using hb)
    have hxy : ltN x y := h 0 x y rfl rfl
    refine List.pairwise_cons.2 ⟨fun z hz => ?_, ih⟩
    rcases List.mem_cons.1 hz with rfl | hz
    · exact hxy
    · exact ltN_trans hxy ((List.pairwise_cons.1 ih).1 z hz)
theorem up_adj {l : List Lbl} (h : upN l) {i : Nat} {x y : Lbl} (hx : l[i]? = some x) (hy : l[i + 1]? = some y) : ltN x y := by
  obtain ⟨x1, x2⟩ := List.getElem?_eq_some_iff.1 hx
  obtain ⟨y1, y2⟩ := List.getElem?_eq_some_iff.1 hy
  have := List.pairwise_iff_getElem.1 h i (i + 1) x1 y1 (by omega)
  rw [x2, y2] at this; exact this
theorem sorted_up {l : List Lbl} (ha : l.Pairwise fun x y => x.name ≠ y.name) : sortedAdj l ↔ upN l := by
  constructor
  · intro h
    refine adj_up fun i x y hx hy => ?_
    have h1 := h i x y hx hy
    have t := tri_B.turn x.name y.name
    have z := tri_B.zero x.name y.name
    obtain ⟨x1, x2⟩ := List.getElem?_eq_some_iff.1 hx
    obtain ⟨y1, y2⟩ := List.getElem?_eq_some_iff.1 hy
    have hne := List.pairwise_iff_getElem.1 ha i (i + 1) x1 y1 (by omega)
    rw [x2, y2] at hne
    unfold ltN at h1 ⊢
    rcases tri_B.range x.name y.name with h | h | h
    · omega
    · exact absurd (z.1 h) hne
    · omega
  · intro h i x y hx hy
    have h1 := up_adj h hx hy
    have t := tri_B.turn x.name y.name
    unfold ltN at h1 ⊢; omega

set_option maxHeartbeats 3200000 in
theorem isSorted_any (A : Option Addr) (n c : Nat) (l : List Lbl) (w : World) (h : LbF w A n l) :
    Calls Tryz.prog 107 #[.slice A n c, .func (.func 90) #[] #[]] w (SortedAns l w) := by
  have H := hidden h
  have hfit := h.fit
  have E51 := hidden e51
  clear h
  go_enter Tryz.func107, Tryz.ntmps107
  go_wp2_with fail
  go_loopw [5] (fun vi wr => ∃ k : Int, vi = .int .i64 k ∧ -1 ≤ k ∧ k ≤ (n : Int) - 1 ∧ Hid (sortedFrom l k) ∧ Below w.heap.size w wr) (fun vi _ => (intOf vi).toNat)
  case atStart => exact ⟨(n : Int) - 1, by go_num, by omega, Int.le_refl _, fun i x y hi hx hy => absurd (List.getElem?_eq_some_iff.1 hy).1 (by have := H.out.len; omega), Below.refl _ _⟩
  case round =>
    obtain ⟨k, rfl, hk1, hk2, hs, hb⟩ := hrel
    by_cases hk0 : 0 < k
    · obtain ⟨j, rfl⟩ : ∃ j : Nat, k = (j : Int) + 1 := ⟨(k - 1).toNat, by omega⟩
      obtain ⟨g, o, y, rfl, hg, hy, d0, d1, _⟩ := lb_cells (H.out.on hb) (show j + 1 < n by omega)
      obtain ⟨g', o', x, he, _, hx, f0, f1, _⟩ := lb_cells (H.out.on hb) (show j < n by omega)
      simp only [Option.some.injEq, Addr.mk.injEq, and_true] at he
      obtain ⟨rfl, rfl⟩ := he
      have HX := hidden hx
      have HY := hidden hy
      have HB := hidden hb
      have S1 : Hid (∀ D os, Calls Tryz.prog 90 #[.agg #[.string y.name, .string y.value], .agg #[.string x.name, .string x.value]] (grow (redrawn wr D) os) fun e w'' => e = .returned (.int .i64 (cmpB y.name x.name)) ∧ ∃ p : Regrown, w'' = grow (redrawn wr p.d) p.os) :=
        hidden fun D os => Calls.regrown_of ((byName_any y x _).mono fun _ _ k => ⟨k.1, k.2.below⟩)
      have r0 := cell_regrown d0
      have r1 := cell_regrown d1
      have r2 := cell_regrown f0
      have r3 := cell_regrown f1
      clear hx hy hb d0 d1 f0 f1
      have q0 : (0 : Int) < (j : Int) + 1 := by omega
      have q1 : (j : Int) + 1 - 1 = (j : Int) := by omega
      have q2 : IntKind.i64.wrap (j : Int) = (j : Int) := Go.IntWalk.i64_in _ (by omega)
      have q3 : (j : Int) + 1 < (n : Int) := by omega
      have q4 : (j : Int) < (n : Int) := by omega
      have q5 : (0 : Int) ≤ (j : Int) := by omega
      have q6 : (0 : Int) ≤ (j : Int) + 1 := by omega
      have q7 : j + 1 < n := by omega
      have q8 : j < n := by omega
      have q9 : ((j : Int) + 1).toNat = j + 1 := by omega
      go_wp2_with fail
      refine wp_region_quiet_below (by kernel_rfl) (by kernel_rfl) ?_
      repeat (first | go_big_quiet_step (first | exact S1.out _ _ | (go_at_fn 90; exact S1.out _ _)) | quiet_step (first | exact S1.out _ _ | (go_at_fn 90; exact S1.out _ _)))
      refine wpQuiet_nil ?_
      intro _ hw'
      obtain ⟨⟨dq, osq⟩, hw''⟩ := hw'
      subst hw''
      clear r0 r1 r2 r3 S1
      have HB2 := hidden (HB.out.trans ((below_regrown wr (Regrown.mk dq osq).d (Regrown.mk dq osq).os).mono HB.out.size))
      generalize grow (redrawn wr (Regrown.mk dq osq).d) (Regrown.mk dq osq).os = w2 at HB2 ⊢
      by_cases hc : cmpB y.name x.name < 0
      · have HN : Hid (¬ sortedAdj l) := fun h => h j x y HX.out HY.out hc
        go_wp2_with fail
        go_ret
        exact ⟨false, rfl, ⟨fun h => absurd h (by decide), fun h => absurd h HN.out⟩, HB2.out⟩
      · have hcd : decide (cmpB y.name x.name < 0) = false := decide_eq_false hc
        have HS2 : Hid (sortedFrom l (j : Int)) := fun i a b hi ha hb => by
          by_cases e : i = j
          · subst e
            have e1 := ha.symm.trans HX.out
            have e2 := hb.symm.trans HY.out
            cases e1; cases e2
            exact hc
          · exact hs.out i a b (by omega) ha hb
        go_wp2_with fail
        go_roundw
        case rel => exact ⟨j, by go_num, by omega, by omega, HS2, HB2.out⟩
        case measure => simp [intOf]
    · have HS2 : Hid (sortedAdj l) := fun i a b ha hb => hs.out i a b (by omega) ha hb
      have hk0' : ¬ (0 : Int) < k := hk0
      go_wp2_with fail
      go_ret
      exact ⟨true, rfl, ⟨fun _ => HS2.out, fun _ => rfl⟩, hb⟩

set_option maxHeartbeats 1600000 in
theorem lvalid_any (A : Option Addr) (n c : Nat) (l : List Lbl) (w : World) (h : LbF w A n l) (hnc : n ≤ c) :
    Calls Tryz.prog 61 #[.slice A n c] w fun e w' => e = .returned (.bool (decide (validP l))) ∧ Below w.heap.size w w' := by
  have H := hidden h
  have S1 := hidden (lmake_any A n c l w h hnc)
  clear h
  go_enter Tryz.func61, Tryz.ntmps61
  go_wp2_with fail
  refine S1.out.mono ?_
  rintro e w2 ⟨v, rfl, _, b2⟩
  have HB := hidden b2
  by_cases he : makeErr l = 0
  · have hee : (((makeErr l : Nat) : Int) == 0) = true := by rw [he]; rfl
    have S2 := hidden (isSorted_any A n c l w2 (H.out.on b2))
    have HA := hidden (make_apart (makeErr_ok he).2.2)
    have HE := hidden he
    clear b2 S1 he
    go_wp2_with fail
    refine S2.out.mono ?_
    rintro e w3 ⟨b, rfl, hb, b3⟩
    have hv : Hid (decide (validP l) = b) := by
      have h1 := sorted_up HA.out
      cases b with
      | true => exact decide_eq_true ⟨HE.out, h1.1 (hb.1 rfl)⟩
      | false => exact decide_eq_false fun k => absurd (hb.2 (h1.2 k.2)) (by decide)
    have HB3 := hidden (HB.out.trans (b3.mono HB.out.size))
    clear hb b3 S2
    go_wp2_with fail
    go_ret
    rw [hv.out]
    exact ⟨rfl, HB3.out⟩
  · have hee : (((makeErr l : Nat) : Int) == 0) = false := by simpa using he
    have hv : Hid (decide (validP l) = false) := decide_eq_false fun k => he k.1
    clear b2 S1 he
    go_wp2_with fail
    go_ret
    rw [hv.out]
    exact ⟨rfl, HB.out⟩

end Go.Proofs.YthncochjhbmceaaGreat

namespace Go.Proofs.YthncochjhbmceaaGreat
set_option maxRecDepth 100000
open Go.RowKit Go.Shelf

end Go.Proofs.YthncochjhbmceaaGreat

namespace Go.Proofs.YthncochjhbmceaaGreat
set_option maxRecDepth 100000
open Go.RowKit

/-- texts with commas between them -/
def joinL : List ByteArray → List UInt8
  | [] => []
  | x :: r => x.data.toList ++ r.flatMap fun y => 44 :: y.data.toList
def sizes (xs : List ByteArray) : Nat := (xs.map ByteArray.size).sum
end Go.Proofs.YthncochjhbmceaaGreat
