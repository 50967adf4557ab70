/- labels.Valid and the reference's: is it a set of labels? Condition: the row is within the reach. (*strings.Builder).Grow at a fresh builder, walked. Condition: the number is within the reach. strings.Join at a few short texts, the comma between them. Condition: at most 8 texts of at most 1000 bytes each. -/
import Derived.Test.YtbijjjhfekkfaaaGreatPkeab15ca0
import Derived.Test.YtbijjjhfekkfaaaGreatPk3f9e0b30
import Derived.Test.YtbijjjhfekkfaaaGreatPk33371d00
import Derived.Lib.MakeNoZero
import Derived.Test.YtbijjjhfekkfaaaGreatPkc6c90f11
namespace Go.Proofs.YtbijjjhfekkfaaaGreat
set_option maxRecDepth 100000
open Go.RowKit Go.Shelf Go.Sort

instance : DecidableRel ltN := fun x y => inferInstanceAs (Decidable (cmpB x.name y.name < 0))
instance (l : List Lbl) : Decidable (upN l) := inferInstanceAs (Decidable (l.Pairwise ltN))
instance (l : List Lbl) : Decidable (validP l) := inferInstanceAs (Decidable (_ ∧ _))
def sortedFrom (l : List Lbl) (k : Int) : Prop := ∀ (i : Nat) (x y : Lbl), k ≤ (i : Int) → l[i]? = some x → l[i + 1]? = some y → ¬ ltN y x
def sortedAdj (l : List Lbl) : Prop := ∀ (i : Nat) (x y : Lbl), l[i]? = some x → l[i + 1]? = some y → ¬ ltN y x
def upBelow (l : List Lbl) (k : Nat) : Prop := ∀ (i : Nat) (x y : Lbl), i + 1 < k → l[i]? = some x → l[i + 1]? = some y → ltN x y
def SortedAns (l : List Lbl) (w : World) (e : Ending) (w' : World) : Prop := ∃ b, e = .returned (.bool b) ∧ (b = true ↔ sortedAdj l) ∧ Below w.heap.size w w'
theorem adj_up : ∀ {l : List Lbl}, (∀ (i : Nat) (x y : Lbl), l[i]? = some x → l[i + 1]? = some y → ltN x y) → upN l
  | [], _ => List.Pairwise.nil
  | [x], _ => List.pairwise_singleton _ _
  | x :: y :: r, h => by
    have ih : upN (y :: r) := adj_up fun i a b ha hb => h (i + 1) a b (by simpa using ha) (by simpa using hb)
    have hxy : ltN x y := h 0 x y rfl rfl
    refine List.pairwise_cons.2 ⟨fun z hz => ?_, ih⟩
    rcases List.mem_cons.1 hz with rfl | hz
    · exact hxy
    · exact ltN_trans hxy ((List.pairwise_cons.1 ih).1 z hz)
theorem up_adj {l : List Lbl} (h : upN l) {i : Nat} {x y : Lbl} (hx : l[i]? = some x) (hy : l[i + 1]? = some y) : ltN x y := by
  obtain ⟨x1, x2⟩ := List.getElem?_eq_some_iff.1 hx
  obtain ⟨y1, y2⟩ := List.getElem?_eq_some_iff.1 hy
  have := List.pairwise_iff_getElem.1 h i (i + 1) x1 y1 (by omega)
  rw [x2, y2] at this; exact this
theorem sorted_up {l : List Lbl} (ha : l.Pairwise fun x y => x.name ≠ y.name) : sortedAdj l ↔ upN l := by
  constructor
  · intro h
    refine adj_up fun i x y hx hy => ?_
    have h1 := h i x y hx hy
    have t := tri_B.turn x.name y.name
    have z := tri_B.zero x.name y.name
    obtain ⟨x1, x2⟩ := List.getElem?_eq_some_iff.1 hx
    obtain ⟨y1, y2⟩ := List.getElem?_eq_some_iff.1 hy
    have hne := List.pairwise_iff_getElem.1 ha i (i + 1) x1 y1 (by omega)
    rw [x2, y2] at hne
    unfold ltN at h1 ⊢
    rcases tri_B.range x.name y.name with h | h | h
    · omega
    · exact absurd (z.1 h) hne
    · omega
  · intro h i x y hx hy
    have h1 := up_adj h hx hy
    have t := tri_B.turn x.name y.name
    unfold ltN at h1 ⊢; omega

set_option maxHeartbeats 3200000 in
theorem isSorted_any (A : Option Addr) (n c : Nat) (l : List Lbl) (w : World) (h : LbF w A n l) :
    Calls Tryz.prog 222 #[.slice A n c, .func (.func 140) #[] #[]] w (SortedAns l w) := by
  have H := hidden h
  have hfit := h.fit
  have E51 := hidden e51
  clear h
  go_enter Tryz.func222, Tryz.ntmps222
  go_wp2_with fail
  go_loopw [5] (fun vi wr => ∃ k : Int, vi = .int .i64 k ∧ -1 ≤ k ∧ k ≤ (n : Int) - 1 ∧ Hid (sortedFrom l k) ∧ Below w.heap.size w wr) (fun vi _ => (intOf vi).toNat)
  case atStart => exact ⟨(n : Int) - 1, by go_num, by omega, Int.le_refl _, fun i x y hi hx hy => absurd (List.getElem?_eq_some_iff.1 hy).1 (by have := H.out.len; omega), Below.refl _ _⟩
  case round =>
    obtain ⟨k, rfl, hk1, hk2, hs, hb⟩ := hrel
    by_cases hk0 : 0 < k
    · obtain ⟨j, rfl⟩ : ∃ j : Nat, k = (j : Int) + 1 := ⟨(k - 1).toNat, by omega⟩
      obtain ⟨g, o, y, rfl, hg, hy, d0, d1, _⟩ := lb_cells (H.out.on hb) (show j + 1 < n by omega)
      obtain ⟨g', o', x, he, _, hx, f0, f1, _⟩ := lb_cells (H.out.on hb) (show j < n by omega)
      simp only [Option.some.injEq, Addr.mk.injEq, and_true] at he
      obtain ⟨rfl, rfl⟩ := he
      have HX := hidden hx
      have HY := hidden hy
      have HB := hidden hb
      have S1 : Hid (∀ D os, Calls Tryz.prog 140 #[.agg #[.string y.name, .string y.value], .agg #[.string x.name, .string x.value]] (grow (redrawn wr D) os) fun e w'' => e = .returned (.int .i64 (cmpB y.name x.name)) ∧ ∃ p : Regrown, w'' = grow (redrawn wr p.d) p.os) :=
        hidden fun D os => Calls.regrown_of ((byName_any y x _).mono fun _ _ k => ⟨k.1, k.2.below⟩)
      have r0 := cell_regrown d0
      have r1 := cell_regrown d1
      have r2 := cell_regrown f0
      have r3 := cell_regrown f1
      clear hx hy hb d0 d1 f0 f1
      have q0 : (0 : Int) < (j : Int) + 1 := by omega
      have q1 : (j : Int) + 1 - 1 = (j : Int) := by omega
      have q2 : IntKind.i64.wrap (j : Int) = (j : Int) := Go.IntWalk.i64_in _ (by omega)
      have q3 : (j : Int) + 1 < (n : Int) := by omega
      have q4 : (j : Int) < (n : Int) := by omega
      have q5 : (0 : Int) ≤ (j : Int) := by omega
      have q6 : (0 : Int) ≤ (j : Int) + 1 := by omega
      have q7 : j + 1 < n := by omega
      have q8 : j < n := by omega
      have q9 : ((j : Int) + 1).toNat = j + 1 := by omega
      go_wp2_with fail
      refine wp_region_quiet_below (by kernel_rfl) (by kernel_rfl) ?_
      repeat (first | go_big_quiet_step (first | exact S1.out _ _ | (go_at_fn 140; exact S1.out _ _)) | quiet_step (first | exact S1.out _ _ | (go_at_fn 140; exact S1.out _ _)))
      refine wpQuiet_nil ?_
      intro _ hw'
      obtain ⟨⟨dq, osq⟩, hw''⟩ := hw'
      subst hw''
      clear r0 r1 r2 r3 S1
      have HB2 := hidden (HB.out.trans ((below_regrown wr (Regrown.mk dq osq).d (Regrown.mk dq osq).os).mono HB.out.size))
      generalize grow (redrawn wr (Regrown.mk dq osq).d) (Regrown.mk dq osq).os = w2 at HB2 ⊢
      by_cases hc : cmpB y.name x.name < 0
      · have HN : Hid (¬ sortedAdj l) := fun h => h j x y HX.out HY.out hc
        go_wp2_with fail
        go_ret
        exact ⟨false, rfl, ⟨fun h => absurd h (by decide), fun h => absurd h HN.out⟩, HB2.out⟩
      · have hcd : decide (cmpB y.name x.name < 0) = false := decide_eq_false hc
        have HS2 : Hid (sortedFrom l (j : Int)) := fun i a b hi ha hb => by
          by_cases e : i = j
          · subst e
            have e1 := ha.symm.trans HX.out
            have e2 := hb.symm.trans HY.out
            cases e1; cases e2
            exact hc
          · exact hs.out i a b (by omega) ha hb
        go_wp2_with fail
        go_roundw
        case rel => exact ⟨j, by go_num, by omega, by omega, HS2, HB2.out⟩
        case measure => simp [intOf]
    · have HS2 : Hid (sortedAdj l) := fun i a b ha hb => hs.out i a b (by omega) ha hb
      have hk0' : ¬ (0 : Int) < k := hk0
      go_wp2_with fail
      go_ret
      exact ⟨true, rfl, ⟨fun _ => HS2.out, fun _ => rfl⟩, hb⟩

set_option maxHeartbeats 1600000 in
theorem lvalid_any (A : Option Addr) (n c : Nat) (l : List Lbl) (w : World) (h : LbF w A n l) (hnc : n ≤ c) :
    Calls Tryz.prog 163 #[.slice A n c] w fun e w' => e = .returned (.bool (decide (validP l))) ∧ Below w.heap.size w w' := by
  have H := hidden h
  have S1 := hidden (lmake_any A n c l w h hnc)
  clear h
  go_enter Tryz.func163, Tryz.ntmps163
  go_wp2_with fail
  refine S1.out.mono ?_
  rintro e w2 ⟨v, rfl, _, b2⟩
  have HB := hidden b2
  by_cases he : makeErr l = 0
  · have hee : (((makeErr l : Nat) : Int) == 0) = true := by rw [he]; rfl
    have S2 := hidden (isSorted_any A n c l w2 (H.out.on b2))
    have HA := hidden (make_apart (makeErr_ok he).2.2)
    have HE := hidden he
    clear b2 S1 he
    go_wp2_with fail
    refine S2.out.mono ?_
    rintro e w3 ⟨b, rfl, hb, b3⟩
    have hv : Hid (decide (validP l) = b) := by
      have h1 := sorted_up HA.out
      cases b with
      | true => exact decide_eq_true ⟨HE.out, h1.1 (hb.1 rfl)⟩
      | false => exact decide_eq_false fun k => absurd (hb.2 (h1.2 k.2)) (by decide)
    have HB3 := hidden (HB.out.trans (b3.mono HB.out.size))
    clear hb b3 S2
    go_wp2_with fail
    go_ret
    rw [hv.out]
    exact ⟨rfl, HB3.out⟩
  · have hee : (((makeErr l : Nat) : Int) == 0) = false := by simpa using he
    have hv : Hid (decide (validP l) = false) := decide_eq_false fun k => he k.1
    clear b2 S1 he
    go_wp2_with fail
    go_ret
    rw [hv.out]
    exact ⟨rfl, HB.out⟩

set_option maxHeartbeats 3200000 in
theorem rvalid_any (A : Option Addr) (n c : Nat) (l : List Lbl) (w : World) (h : LbF w A n l) :
    Calls Tryz.prog 215 #[.slice A n c] w fun e w' => e = .returned (.bool (decide (validP l))) ∧ Below w.heap.size w w' := by
  have H := hidden h
  have hfit := h.fit
  have S1 := hidden (rmake_any A n c l w h)
  clear h
  go_enter Tryz.func215, Tryz.ntmps215
  go_wp2_with fail
  refine S1.out.mono ?_
  rintro e w2 ⟨v, rfl, _, b2⟩
  have HB := hidden b2
  clear b2 S1
  go_wp2_with fail
  go_loopw [5] (fun vi wr => ∃ k : Nat, vi = .int .i64 k ∧ 1 ≤ k ∧ Hid (makeErr l = 0 → upBelow l k) ∧ Below w.heap.size w wr) (fun vi _ => n + 1 - (intOf vi).toNat)
  case atStart => exact ⟨1, rfl, Nat.le_refl _, fun _ i x y hi => absurd hi (by omega), HB.out⟩
  case round =>
    obtain ⟨k, rfl, hk1, hs, hb⟩ := hrel
    by_cases he : makeErr l = 0
    · have hee : (((makeErr l : Nat) : Int) == 0) = true := by rw [he]; rfl
      have HE := hidden he
      clear he
      by_cases hkn : k < n
      · obtain ⟨j, rfl⟩ : ∃ j, k = j + 1 := ⟨k - 1, by omega⟩
        obtain ⟨g, o, y, rfl, hg, hy, d0, d1, _⟩ := lb_cells (H.out.on hb) (show j + 1 < n by omega)
        obtain ⟨g', o', x, he', _, hx, f0, f1, _⟩ := lb_cells (H.out.on hb) (show j < n by omega)
        simp only [Option.some.injEq, Addr.mk.injEq, and_true] at he'
        obtain ⟨rfl, rfl⟩ := he'
        have HX := hidden hx
        have HY := hidden hy
        have HBr := hidden hb
        clear hx hy hb d1 f1
        have q1 : ((j + 1 : Nat) : Int) - 1 = (j : Int) := by omega
        have q2 : IntKind.i64.wrap (j : Int) = (j : Int) := Go.IntWalk.i64_in _ (by omega)
        have q3 : ((j + 1 : Nat) : Int) < (n : Int) := by omega
        have q4 : (j : Int) < (n : Int) := by omega
        have q5 : (0 : Int) ≤ (j : Int) := by omega
        have q6 : (0 : Int) ≤ ((j + 1 : Nat) : Int) := by omega
        have hcmp : (Hid (ltN x y) ∧ Op.bytesLess y.name.toList x.name.toList = false ∧ (y.name.toList == x.name.toList) = false) ∨ (Hid (¬ ltN x y) ∧ (Op.bytesLess y.name.toList x.name.toList || (y.name.toList == x.name.toList)) = true) := by
          rcases str_cases x.name y.name with ⟨_, h2, h3⟩ | ⟨h1, _, _, h4⟩ | ⟨h2, _, _, h4⟩
          · refine .inl ⟨by rw [Hid, ltN, h3]; decide, h2, ?_⟩
            rw [str_eq]
            exact decide_eq_false fun e => by rw [e, (tri_B.zero _ _).2 rfl] at h3; omega
          · exact .inr ⟨by rw [Hid, ltN, h4]; decide, by rw [str_eq, decide_eq_true h1.symm, Bool.or_true]⟩
          · exact .inr ⟨by rw [Hid, ltN, h4]; decide, by rw [h2, Bool.true_or]⟩
        rcases hcmp with ⟨hl, hb1, hb2⟩ | ⟨hl, hb1⟩
        · have hs2 : Hid (makeErr l = 0 → upBelow l (j + 1 + 1)) := fun h0 i a b hi ha hb => by
            by_cases e : i = j
            · subst e
              have e1 := ha.symm.trans HX.out
              have e2 := hb.symm.trans HY.out
              cases e1; cases e2
              exact hl.out
            · exact hs.out h0 i a b (by omega) ha hb
          go_wp2_with fail
          go_quiet (fail)
          rename_i nq
          have HBq := hidden (below_drewN HBr.out nq)
          go_wp2_with fail
          go_roundw
          case rel => exact ⟨j + 1 + 1, by go_num, by omega, hs2, HBq.out⟩
          case measure => simp [intOf]; omega
        · have hv : Hid (decide (validP l) = false) := decide_eq_false fun k => hl.out (up_adj k.2 HX.out HY.out)
          go_wp2_with fail
          go_quiet (fail)
          rename_i nq
          have HBq := hidden (below_drewN HBr.out nq)
          go_wp2_with fail
          all_goals go_ret
          all_goals rw [hv.out]
          all_goals exact ⟨rfl, HBq.out⟩
      · have hkn' : ¬ (k : Int) < (n : Int) := by omega
        have hv : Hid (decide (validP l) = true) := decide_eq_true ⟨HE.out, adj_up fun i x y hx hy => hs.out HE.out i x y (by have := (List.getElem?_eq_some_iff.1 hy).1; have := H.out.len; omega) hx hy⟩
        have HBr := hidden hb
        clear hb
        go_wp2_with fail
        go_ret
        rw [hv.out]
        exact ⟨rfl, HBr.out⟩
    · have hee : (((makeErr l : Nat) : Int) == 0) = false := by simpa using he
      have hv : Hid (decide (validP l) = false) := decide_eq_false fun k => he k.1
      have HBr := hidden hb
      clear hb he
      by_cases hkn : k < n
      · have hkn' : (k : Int) < (n : Int) := by omega
        go_wp2_with fail
        go_ret
        rw [hv.out]
        exact ⟨rfl, HBr.out⟩
      · have hkn' : ¬ (k : Int) < (n : Int) := by omega
        go_wp2_with fail
        go_ret
        rw [hv.out]
        exact ⟨rfl, HBr.out⟩
end Go.Proofs.YtbijjjhfekkfaaaGreat

namespace Go.Proofs.YtbijjjhfekkfaaaGreat
set_option maxRecDepth 100000
open Go.RowKit Go.Shelf

theorem alloc_put (w : World) (b i : Nat) (v : Value) (o : Obj) (hb : b < w.heap.size) : (w.alloc o).setCell ⟨b, i, none⟩ v = (w.setCell ⟨b, i, none⟩ v).alloc o := by
  unfold World.alloc World.setCell
  congr 1
  simp only
  apply Array.ext_getElem?
  intro k
  simp only [Array.getElem?_modify, Array.getElem?_push, Array.size_modify]
  by_cases hk : k = w.heap.size
  · subst hk
    rw [if_neg (by omega)]; simp
  · simp [hk]
theorem sizeByte : (Tryz.prog.info? 5).map (·.size) = some 1 := by kernel_rfl
set_option maxHeartbeats 2000000 in
theorem bldGrow0_any (B b n : Nat) (w : World) (hB : B ≤ b) (hbk : w.heap[b]? = some (.cells #[.pointer (some ⟨b, 0, none⟩), .slice none 0 0] 270 (0, 0))) (hBw : B ≤ w.heap.size) (hn : n ≤ 281474976710656) :
    Calls Tryz.prog 198 #[.pointer (some ⟨b, 0, none⟩), .int .i64 n] w fun e w' => e = .returned (.tuple #[]) ∧ (Lib.BuilderAt 270 5 B b (.pointer (some ⟨b, 0, none⟩)) [] w' ∧ Below B w w') := by
  obtain ⟨cs, hrun, hle, hmax⟩ := Lib.run_makeNoZero (P := Tryz.prog) w.drew #[3] 254 5 Tryz.underlying254 n hn
  have hw : IntKind.i64.wrap (IntKind.i64.wrap 0 + (n : Int)) = n := by
    rw [IntKind.wrap_i64, IntKind.wrap_i64]
    omega
  have hcall : (callFunc 252 #[.int .i64 (IntKind.i64.wrap (IntKind.i64.wrap 0 + (n : Int)))]).run Tryz.prog w.drew = .ok (.value (.slice (some ⟨w.drew.heap.size, 0, none⟩) n cs.size)) (w.drew.drew.drew.alloc (.cells cs 5)) := by
    rw [hw, run_callFunc_extern Tryz.func252 (by kernel_rfl) (by kernel_rfl) (by kernel_rfl) (e := Extern.BytealgMakeNoZero.makeNoZero #[3] #[254]) (by kernel_rfl), hrun]
    rfl
  have hlt : b < w.heap.size := by
    rcases Nat.lt_or_ge b w.heap.size with h' | h'
    · exact h'
    · simp [Array.getElem?_eq_none h'] at hbk
  have c1 : w.drew.cell? ⟨b, 1, none⟩ = some (.slice none 0 0) := by
    have : w.drew.heap[b]? = _ := hbk
    rw [Lib.cell_of_heap this]; rfl
  have c2 : (w.alloc (.cells cs 5)).cell? ⟨b, 1, none⟩ = some (.slice none 0 0) := by
    have : (w.alloc (.cells cs 5)).heap[b]? = _ := (Lib.alloc_old w _ b hlt).trans hbk
    rw [Lib.cell_of_heap this]; rfl
  have f2 : (w.alloc (.cells cs 5)).frozen? ⟨b, 1, none⟩ = false := Lib.frozen_of_heap ((Lib.alloc_old w _ b hlt).trans hbk) 1
  have hcopy : ∀ W : World, (Builtin.copy_ #[254, 254] 3 #[.slice (some ⟨w.heap.size, 0, none⟩) 0 cs.size, .slice none 0 0]).run Tryz.prog W = .ok (goInt 0) W :=
    fun W => run_copy_none W 254 254 3 5 _ _ 0 cs.size 0 0 Tryz.underlying254 sizeByte rfl
  have hfin := Lib.grown_fresh (T := 270) (e := 5) (cs := cs) hB hbk hBw (hmax (by unfold maxLen; omega)) (by decide)
  have hfin2 := hfin
  rw [alloc_put w b 1 _ _ hlt] at hfin2
  have HFIN := hidden hfin2
  clear hw hfin hfin2 hbk
  go_enter Tryz.func198, Tryz.ntmps198
  go_wp2_with fail
  go_region
  all_goals (go_wp2_with fail; go_end0; exact ⟨rfl, HFIN.out⟩)

set_option maxHeartbeats 2000000 in
theorem bldGrow_any (B b n : Nat) (w : World) (hB : B ≤ b) (hbk : w.heap[b]? = some (.cells #[.pointer none, .slice none 0 0] 270 (0, 0))) (hBw : B ≤ w.heap.size) (hn : n ≤ 281474976710656) :
    Calls Tryz.prog 131 #[.pointer (some ⟨b, 0, none⟩), .int .i64 n] w fun e w' => e = .returned (.tuple #[]) ∧ (Lib.BuilderAt 270 5 B b (.pointer (some ⟨b, 0, none⟩)) [] w' ∧ Below B w w') := by
  have hbk1 : (w.setCell ⟨b, 0, none⟩ (.pointer (some ⟨b, 0, none⟩))).heap[b]? = some (.cells #[.pointer (some ⟨b, 0, none⟩), .slice none 0 0] 270 (0, 0)) := by
    simp [World.setCell, Array.getElem?_modify, hbk]
  have c1 : (w.setCell ⟨b, 0, none⟩ (.pointer (some ⟨b, 0, none⟩))).cell? ⟨b, 1, none⟩ = some (.slice none 0 0) := by rw [Lib.cell_of_heap hbk1]; rfl
  have hb1 : Below B w (w.setCell ⟨b, 0, none⟩ (.pointer (some ⟨b, 0, none⟩))) := (Below.refl B w).setCell (p := ⟨b, 0, none⟩) hB _
  have S1 := hidden (bldCheck_fresh b w (by rw [Lib.cell_of_heap hbk]; rfl) (by simp [World.shape?, hbk]) (Lib.frozen_of_heap hbk 0))
  have hU : Lib.BuilderAt 270 5 B b (.pointer (some ⟨b, 0, none⟩)) [] (w.setCell ⟨b, 0, none⟩ (.pointer (some ⟨b, 0, none⟩))) := ⟨hB, .slice none 0 0, hbk1, World.ownsRow_nil _ _ _ _, by simp [Value.ownBlock]⟩
  have HU := hidden hU
  have HB1 := hidden hb1
  have hsz : (w.setCell ⟨b, 0, none⟩ (.pointer (some ⟨b, 0, none⟩))).heap.size = w.heap.size := by simp
  have HSZ := hidden hsz
  generalize w.setCell ⟨b, 0, none⟩ (.pointer (some ⟨b, 0, none⟩)) = w1 at *
  have S2 := hidden (bldGrow0_any B b n w1.drew hB hbk1 (by have := HSZ.out; show B ≤ w1.heap.size; omega) hn)
  have hn0 : ¬ (n : Int) < 0 := by omega
  clear hU hb1 hsz hbk hbk1
  go_enter Tryz.func131, Tryz.ntmps131
  go_wp2_with fail
  refine S1.out.mono ?_
  rintro e w' ⟨rfl, rfl⟩
  go_wp2_with fail
  go_region
  all_goals go_wp2_with (go_at_call 198; refine S2.out.mono ?_; rintro e w' ⟨rfl, h1, h2⟩)
  all_goals first
    | (go_end0; exact ⟨rfl, h1, HB1.out.drew.trans h2⟩)
    | (go_end0; exact ⟨rfl, HU.out.drew, HB1.out.drew⟩)
end Go.Proofs.YtbijjjhfekkfaaaGreat

namespace Go.Proofs.YtbijjjhfekkfaaaGreat
set_option maxRecDepth 100000
open Go.RowKit

/-- texts with commas between them -/
def joinL : List ByteArray → List UInt8
  | [] => []
  | x :: r => x.data.toList ++ r.flatMap fun y => 44 :: y.data.toList
def sizes (xs : List ByteArray) : Nat := (xs.map ByteArray.size).sum
theorem sizes_take {xs : List ByteArray} {k : Nat} {x : ByteArray} (h : xs[k]? = some x) : sizes (xs.take (k + 1)) = sizes (xs.take k) + x.size := by
  rw [take_snoc? h]; simp [sizes]
theorem sizes_le {xs : List ByteArray} (h : ∀ x ∈ xs, x.size ≤ 1000) : sizes xs ≤ 1000 * xs.length := by
  induction xs with
  | nil => simp [sizes]
  | cons x xs ih =>
    have := ih fun y hy => h y (by simp [hy])
    have := h x (by simp)
    simp only [sizes, List.map_cons, List.sum_cons, List.length_cons] at *
    omega

theorem joinL_len : ∀ xs : List ByteArray, (joinL xs).length ≤ sizes xs + xs.length
  | [] => by simp [joinL]
  | x :: r => by
    have h : (r.flatMap fun y => 44 :: y.data.toList).length = sizes r + r.length := by
      induction r with
      | nil => simp [sizes]
      | cons y r ih =>
        have e : y.data.toList.length = y.size := rfl
        simp only [List.flatMap_cons, List.length_append, List.length_cons, ih, sizes, List.map_cons, List.sum_cons, e]
        omega
    have e : x.data.toList.length = x.size := rfl
    simp only [joinL, List.length_append, h, sizes, List.map_cons, List.sum_cons, List.length_cons, e]
    omega
theorem joinL_snoc {xs : List ByteArray} {i : Nat} {y : ByteArray} (h : xs[i + 1]? = some y) : joinL (xs.take (i + 1 + 1)) = joinL (xs.take (i + 1)) ++ 44 :: y.data.toList := by
  rw [take_snoc? h]
  cases xs with
  | nil => simp at h
  | cons x r => simp [joinL]
theorem joinL_ne : ∀ {xs : List ByteArray}, 2 ≤ xs.length → joinL xs ≠ []
  | [], h => absurd h (by simp)
  | [_], h => absurd h (by simp)
  | x :: y :: r, _ => by simp [joinL]
set_option maxHeartbeats 6400000 in
theorem join_any (A : Option Addr) (n c : Nat) (xs : List ByteArray) (w : World) (hr : Row w w.heap.size 1 A n (xs.map Value.string)) (hl : xs.length = n) (hn : n ≤ 8) (hx : ∀ x ∈ xs, x.size ≤ 1000) (hnc : n ≤ c) :
    Calls Tryz.prog 60 #[.slice A n c, .string ⟨#[44]⟩] w fun e w' => e = .returned (.string ⟨(joinL xs).toArray⟩) ∧ Below w.heap.size w w' := by
  have HR := hidden hr
  have HL := hidden hl
  have HX := hidden hx
  clear hr hl hx
  have hcell : Hid (∀ (k : Nat) (x : ByteArray), xs[k]? = some x → ∃ g o, A = some ⟨g, o, none⟩ ∧ g < w.heap.size ∧ w.cell? ⟨g, o + k, none⟩ = some (.string x)) := fun k x hk => by
    have hkl := (List.getElem?_eq_some_iff.1 hk).1
    obtain ⟨g, o, hA, hg, hc⟩ := HR.out.at_ (by have := HL.out; omega)
    refine ⟨g, o, hA, hg, ?_⟩
    rw [hc k (by have := HL.out; omega), List.getElem?_map, hk]; rfl
  by_cases h0 : n = 0
  · subst h0
    obtain rfl : xs = [] := List.eq_nil_of_length_eq_zero HL.out
    go_enter Tryz.func60, Tryz.ntmps60
    go_wp2_with fail
    go_ret
    exact ⟨rfl, Below.refl _ _⟩
  · by_cases h1 : n = 1
    · subst h1
      obtain ⟨x, rfl⟩ : ∃ x, xs = [x] := List.length_eq_one_iff.1 HL.out
      obtain ⟨g, o, rfl, _, hc⟩ := hcell.out 0 x rfl
      rw [Nat.add_zero] at hc
      have hj : Hid (x = ⟨(joinL [x]).toArray⟩) := bytes_eq (by simp [joinL])
      go_enter Tryz.func60, Tryz.ntmps60
      go_wp2_with fail
      go_ret
      rw [← hj.out]
      exact ⟨rfl, Below.refl _ _⟩
    · have n0 : ((n : Int) == 0) = false := by simp; omega
      have n1 : ((n : Int) == 1) = false := by simp; omega
      have hdv : decide ((9223372036854775807 : Int) / ((n : Int) - 1) ≤ 1) = false := by
        have hc : n = 2 ∨ n = 3 ∨ n = 4 ∨ n = 5 ∨ n = 6 ∨ n = 7 ∨ n = 8 := by omega
        rcases hc with rfl | rfl | rfl | rfl | rfl | rfl | rfl <;> decide
      obtain ⟨x0, hx0⟩ : ∃ x, xs[0]? = some x := ⟨_, List.getElem?_eq_getElem (by have := HL.out; omega)⟩
      obtain ⟨g, o, rfl, hg, hc0⟩ := hcell.out 0 x0 hx0
      rw [Nat.add_zero] at hc0
      have HX0 := hidden hx0
      have hz0 := HX.out x0 (List.mem_of_getElem? hx0)
      clear hx0
      have hsl := sizes_le HX.out
      rw [HL.out] at hsl
      go_enter Tryz.func60, Tryz.ntmps60
      go_wp2_with fail
      go_loopw [5, 41] (fun vt vi wr => ∃ (k : Nat) (t : Int), vi = .int .i64 k ∧ k ≤ n ∧ vt = .int .i64 t ∧ Hid (t = (n : Int) - 1 + (sizes (xs.take k) : Nat)) ∧ 0 ≤ t ∧ t ≤ 9000 ∧ w = wr) (fun _ vi _ => n - (intOf vi).toNat)
      case atStart => exact ⟨0, (n : Int) - 1, rfl, Nat.zero_le _, rfl, hidden (by simp [sizes]), by omega, by omega, rfl⟩
      case round =>
        obtain ⟨k, t, rfl, hk, rfl, ht, ht0, ht1, rfl⟩ := hrel
        have k0 : (0 : Int) ≤ (k : Int) := by omega
        by_cases hlt : k < n
        · have k1 : (k : Int) < (n : Int) := by omega
          obtain ⟨x, hxk⟩ : ∃ x, xs[k]? = some x := ⟨_, List.getElem?_eq_getElem (by have := HL.out; omega)⟩
          obtain ⟨g', o', he, _, hc⟩ := hcell.out k x hxk
          simp only [Option.some.injEq, Addr.mk.injEq, and_true] at he
          obtain ⟨rfl, rfl⟩ := he
          have hzx := HX.out x (List.mem_of_getElem? hxk)
          have hst := sizes_take hxk
          have hsk : sizes (xs.take (k + 1)) ≤ sizes xs := by
            have h := List.take_append_drop (k + 1) xs
            have : sizes xs = sizes (xs.take (k + 1)) + sizes (xs.drop (k + 1)) := by
              unfold sizes
              rw [← List.sum_append, ← List.map_append, h]
            omega
          have hgt : decide ((9223372036854775807 : Int) - t < (x.size : Int)) = false := by simp; omega
          have ht2 : Hid (t + (x.size : Int) = (n : Int) - 1 + (sizes (xs.take (k + 1)) : Nat)) := by rw [Hid, ht.out, hst]; omega
          have ht3 : t + (x.size : Int) ≤ 9000 := by rw [ht2.out]; omega
          clear hxk hst hsk
          go_wp2_with fail
          go_roundw
          case rel => exact ⟨k + 1, t + (x.size : Int), by go_num, by omega, by go_num, ht2, by omega, ht3, trivial⟩
          case measure => simp [intOf]; omega
        · have k1 : ¬ (k : Int) < (n : Int) := by omega
          obtain ⟨T, rfl⟩ : ∃ T : Nat, t = (T : Int) := ⟨t.toNat, by omega⟩
          clear ht
          have hbk : (w.alloc (.cells #[.pointer none, .slice none 0 0] 270)).heap[w.heap.size]? = some (.cells #[.pointer none, .slice none 0 0] 270 (0, 0)) := heap_alloc_new w _
          have hB : Below w.heap.size w (w.alloc (.cells #[.pointer none, .slice none 0 0] 270)) := (Below.refl _ _).alloc (Nat.le_refl _) _
          have S1 := hidden (bldGrow_any w.heap.size w.heap.size T (w.alloc (.cells #[.pointer none, .slice none 0 0] 270)) (Nat.le_refl _) hbk (by simp) (by omega))
          have HB := hidden hB
          clear hbk hB
          go_wp2_with fail
          refine S1.out.mono ?_
          rintro e w2 ⟨rfl, hb2, hbl2⟩
          have HB2 := hidden hb2
          have HBL2 := hidden (HB.out.trans hbl2)
          have hc2 := (HBL2.out.cell (p := ⟨g, o, none⟩) hg).trans hc0
          clear hb2 hbl2 S1
          go_wp2_with fail
          refine (bldStr_any w.heap.size w.heap.size [] x0 w2 (.inr HB2.out) (by simp; omega) (by have := HBL2.out.size; omega)).mono ?_
          rintro e w3 ⟨rfl, hb3, hbl3, _⟩
          have hj0 : [] ++ Lib.strCells x0 = Lib.byteCells (joinL (xs.take 1)) := by
            rw [take_snoc? HX0.out]; simp [joinL, Lib.strCells, Lib.byteCells]
          rw [hj0] at hb3
          have HB3 := hidden hb3
          have HBL3 := hidden (HBL2.out.trans hbl3)
          have hc1 : ¬ c = 1 := by omega
          clear hb3 hbl3 hj0 hc2
          go_wp2_with fail
          go_loopw [65] (fun vi wr => ∃ i : Nat, vi = .int .i64 i ∧ i ≤ n - 1 ∧ Hid (Lib.IsBuilder 270 5 w.heap.size w.heap.size (Lib.byteCells (joinL (xs.take (i + 1)))) wr) ∧ Below w.heap.size w wr) (fun vi _ => n - (intOf vi).toNat)
          case atStart => exact ⟨0, rfl, Nat.zero_le _, hidden (.inr HB3.out), HBL3.out⟩
          case round =>
            clear HB3 HBL3 HB2 HBL2 HB
            obtain ⟨i, rfl, hi, hb, hbl⟩ := hrel
            have i0 : (0 : Int) ≤ (i : Int) := by omega
            have HBL := hidden hbl
            have hlen : (Lib.byteCells (joinL (xs.take (i + 1)))).length ≤ 9000 := by
              rw [Lib.byteCells_length]
              have h1 := joinL_len (xs.take (i + 1))
              have h2 := sizes_le (xs := xs.take (i + 1)) fun x hx => HX.out x (List.mem_of_mem_take hx)
              have h3 : (xs.take (i + 1)).length ≤ 8 := by rw [List.length_take]; have := HL.out; omega
              omega
            clear hbl
            by_cases hlt : i < n - 1
            · have i1 : (i : Int) < ((n - 1 : Nat) : Int) := by omega
              obtain ⟨x, hxk⟩ : ∃ x, xs[i + 1]? = some x := ⟨_, List.getElem?_eq_getElem (by have := HL.out; omega)⟩
              obtain ⟨g', o', he, _, hc⟩ := hcell.out (i + 1) x hxk
              simp only [Option.some.injEq, Addr.mk.injEq, and_true] at he
              obtain ⟨rfl, rfl⟩ := he
              have hzx := HX.out x (List.mem_of_getElem? hxk)
              have hcw : wr.cell? ⟨g, o + 1 + i, none⟩ = some (.string x) := by
                rw [show o + 1 + i = o + (i + 1) by omega]
                exact (HBL.out.cell (p := ⟨g, o + (i + 1), none⟩) hg).trans hc
              have hjn := hidden (joinL_snoc (xs := xs) hxk)
              clear hxk hc
              go_wp2_with fail
              refine (bldStr_any w.heap.size w.heap.size _ ⟨#[44]⟩ wr hb.out (by show _ + 1 ≤ _; omega) (by have := HBL.out.size; omega)).mono ?_
              rintro e w5 ⟨rfl, hb5, hbl5, _⟩
              have HB5 := hidden hb5
              have HBL5 := hidden (HBL.out.trans hbl5)
              clear hb5 hbl5 hcw
              go_wp2_with fail
              refine (bldStr_any w.heap.size w.heap.size _ x w5 (.inr HB5.out) (by rw [List.length_append, show (Lib.strCells ⟨#[44]⟩).length = 1 from rfl]; omega) (by have := HBL5.out.size; omega)).mono ?_
              rintro e w6 ⟨rfl, hb6, hbl6, _⟩
              have hby : Lib.byteCells (joinL (xs.take (i + 1))) ++ Lib.strCells ⟨#[44]⟩ ++ Lib.strCells x = Lib.byteCells (joinL (xs.take (i + 1 + 1))) := by
                rw [hjn.out, Lib.byteCells_append, List.append_assoc]
                rfl
              rw [hby] at hb6
              have HB6 : Hid (Lib.IsBuilder 270 5 w.heap.size w.heap.size (Lib.byteCells (joinL (xs.take (i + 1 + 1)))) w6) := .inr hb6
              have HBL6 := hidden (HBL5.out.trans hbl6)
              clear hb6 hbl6 hby
              go_wp2_with fail
              go_roundw
              case rel => exact ⟨i + 1, by go_num, by omega, HB6, HBL6.out⟩
              case measure => simp [intOf]; omega
            · have i1 : ¬ (i : Int) < ((n - 1 : Nat) : Int) := by omega
              have hall : xs.take (i + 1) = xs := List.take_of_length_le (by have := HL.out; omega)
              rw [hall] at hb
              have hne := joinL_ne (xs := xs) (by have := HL.out; omega)
              go_wp2_with fail
              refine (bldString_any w.heap.size w.heap.size (joinL xs) wr hb.out hne).mono ?_
              rintro e w7 ⟨rfl, hbl7⟩
              have HBL7 := hidden (HBL.out.trans hbl7)
              clear hbl7
              go_wp2_with fail
              go_ret
              exact ⟨rfl, HBL7.out⟩
end Go.Proofs.YtbijjjhfekkfaaaGreat
