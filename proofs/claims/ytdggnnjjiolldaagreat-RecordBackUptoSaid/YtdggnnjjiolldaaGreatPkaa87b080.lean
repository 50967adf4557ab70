/- record.fitRef; slices.Equal at spans. Condition: the rows are within the reach. record.Record.fit: may the record be written? Condition: the record is within the bulk. -/
import Derived.Test.YtdggnnjjiolldaaGreatPkaa4f73d5
import Derived.BigQuiet
import Derived.Deep.RegionHeld3
import Derived.IntWalk
namespace Go.Proofs.YtdggnnjjiolldaaGreat
set_option maxRecDepth 100000
open Go.RowKit

open Classical in
theorem fitRef_any (n : Int) (w : World) :
    Calls Tryz.prog 41 #[.int .i64 n] w fun e w' => e = .returned (.bool (decide (fitRef n))) ∧ w = w' := by
  by_cases h0 : 0 ≤ n
  · by_cases h1 : n ≤ 1099511627776
    · have HF := hidden (decide_eq_true (show fitRef n from ⟨h0, h1⟩))
      go_enter Tryz.func41, Tryz.ntmps41
      go_wp2_with fail
      go_ret
      rw [HF.out]
      exact ⟨rfl, rfl⟩
    · have h1' : decide (n ≤ 1099511627776) = false := decide_eq_false h1
      have HF := hidden (decide_eq_false (fun h : fitRef n => h1 h.2))
      clear h1
      go_enter Tryz.func41, Tryz.ntmps41
      go_wp2_with fail
      go_ret
      rw [HF.out]
      exact ⟨rfl, rfl⟩
  · have h0' : decide (0 ≤ n) = false := decide_eq_false h0
    have HF := hidden (decide_eq_false (fun h : fitRef n => h0 h.1))
    clear h0
    go_enter Tryz.func41, Tryz.ntmps41
    go_wp2_with fail
    go_ret
    rw [HF.out]
    exact ⟨rfl, rfl⟩
theorem spn_eq {x y : Spn} (h1 : x.frm = y.frm) (h2 : x.til = y.til) : x = y := by cases x; cases y; simp_all
open Classical in
set_option maxHeartbeats 1600000 in
theorem equalS_any (A B : Option Addr) (n m c1 c2 : Nat) (l l2 : List Spn) (w : World) (hr : Row w w.heap.size 2 A n (l.flatMap Spn.cells)) (hr2 : Row w w.heap.size 2 B m (l2.flatMap Spn.cells)) (hl : l.length = n) (hl2 : l2.length = m) (hn : n ≤ 4611686018427387904) (hm : m ≤ 4611686018427387904) :
    Calls Tryz.prog 43 #[.slice A n c1, .slice B m c2] w fun e w' => e = .returned (.bool (decide (l = l2))) ∧ ∃ k, w' = w.drewN k := by
  have hK : ∀ x : Spn, x.cells.length = 2 := fun _ => rfl
  by_cases hnm : n = m
  · subst hnm
    have hL := hidden hl
    have hL2 := hidden hl2
    have HR := hidden hr
    have HR2 := hidden hr2
    have hnn : ((n : Int) != (n : Int)) = false := by simp
    clear hl hl2 hr hr2
    go_enter Tryz.func43, Tryz.ntmps43
    go_wp2_with fail
    go_loopw [13] (fun i wr => ∃ q : Nat, q ≤ n ∧ i = .int .i64 q ∧ Hid (l.take q = l2.take q) ∧ (∃ m, wr = w.drewN m)) (fun i _ => n - (intOf i).toNat)
    case atStart => exact ⟨0, Nat.zero_le _, rfl, hidden rfl, 0, rfl⟩
    case round =>
      obtain ⟨q, hq1, rfl, hT, m, rfl⟩ := hrel
      by_cases hlt : q < n
      · obtain ⟨gs, o, x, rfl, _, hx, hcl⟩ := row_at hK HR.out hL.out q hlt
        obtain ⟨gt, p, y, rfl, _, hy, hdl⟩ := row_at hK HR2.out hL2.out q hlt
        have c0 : w.cell? ⟨gs, o + q * 2, none⟩ = some (.int .i64 x.frm) := hcl 0 (by omega)
        have c1 : w.cell? ⟨gs, o + q * 2 + 1, none⟩ = some (.int .i64 x.til) := hcl 1 (by omega)
        have d0 : w.cell? ⟨gt, p + q * 2, none⟩ = some (.int .i64 y.frm) := hdl 0 (by omega)
        have d1 : w.cell? ⟨gt, p + q * 2 + 1, none⟩ = some (.int .i64 y.til) := hdl 1 (by omega)
        have hlt' : (q : Int) < (n : Int) := by omega
        have hq0 : (0 : Int) ≤ (q : Int) := by omega
        by_cases hxy : x = y
        · subst hxy
          have hT2 := hidden (show l.take (q + 1) = l2.take (q + 1) by rw [take_snoc? hx, take_snoc? hy, hT.out])
          clear hx hy hcl hdl
          go_wp2_with fail
          go_quiet (fail)
          go_wp2_with fail
          go_roundw
          case rel => exact ⟨q + 1, by omega, by go_num, hT2, m + nq, rfl⟩
          case measure => simp [intOf]; omega
        · have HF := hidden (decide_eq_false (fun h : l = l2 => by
            rw [h] at hx
            exact hxy (Option.some.inj (hx.symm.trans hy))))
          have hdiff : (x.frm == y.frm) = false ∨ ((x.frm == y.frm) = true ∧ (x.til == y.til) = false) := by
            by_cases h1 : x.frm = y.frm
            · exact .inr ⟨by simpa using h1, by simpa using fun h2 => hxy (spn_eq h1 h2)⟩
            · exact .inl (by simpa using h1)
          clear hx hy hcl hdl hxy
          rcases hdiff with e1 | ⟨e1, e2⟩
          all_goals
            go_wp2_with fail
            go_quiet (fail)
            go_wp2_with fail
            go_ret
            rw [HF.out]
            exact ⟨rfl, m + nq, World.drewN_drewN _ _ _⟩
      · have hlt' : ¬ (q : Int) < (n : Int) := by omega
        have hqn : q = n := by omega
        have HF := hidden (decide_eq_true (show l = l2 by
          have h := hT.out
          rw [hqn, List.take_of_length_le (by rw [hL.out]; exact Nat.le_refl _), List.take_of_length_le (by rw [hL2.out]; exact Nat.le_refl _)] at h
          exact h))
        go_wp2_with fail
        go_ret
        rw [HF.out]
        exact ⟨rfl, m, rfl⟩
  · have hne : ((n : Int) != (m : Int)) = true := by simp; omega
    have HF := hidden (decide_eq_false (fun h : l = l2 => hnm (by rw [← hl, ← hl2, h])))
    clear hnm hr hr2
    go_enter Tryz.func43, Tryz.ntmps43
    go_wp2_with fail
    go_ret
    rw [HF.out]
    exact ⟨rfl, 0, rfl⟩
end Go.Proofs.YtdggnnjjiolldaaGreat

namespace Go.Proofs.YtdggnnjjiolldaaGreat
set_option maxRecDepth 100000
open Go.RowKit

theorem fit_more {α : Type} {p : α → Prop} {l : List α} {k : Nat} {x : α} (h : ∀ y ∈ l.take k, p y) (hx : l[k]? = some x) (hp : p x) : ∀ y ∈ l.take (k + 1), p y := by
  intro y hy
  rw [take_snoc? hx] at hy
  rcases List.mem_append.1 hy with hy | hy
  · exact h y hy
  · rw [List.mem_singleton.1 hy]; exact hp
theorem fit_all {α : Type} {p : α → Prop} {l : List α} {k : Nat} (h : ∀ y ∈ l.take k, p y) (hk : l.length ≤ k) : ∀ y ∈ l, p y := by
  rwa [List.take_of_length_le hk] at h
open Classical in
set_option maxHeartbeats 6400000 in
theorem fit_any (r : RecR) (w : World) (h : r.At w) :
    Calls Tryz.prog 12 #[r.val] w fun e w' => e = .returned (.bool (decide (fitRec r))) ∧ Below w.heap.size w w' := by
  obtain ⟨⟨nA, nn, nc, nl⟩, ⟨pA, pn, pc, pl⟩, ⟨gA, gn, gc, gl⟩⟩ := r
  have hX0 := Whole1.new w 26 #[.slice nA nn nc, .slice pA pn pc, .slice gA gn gc]
  have hB0 : Below w.heap.size w (w.alloc (.cells #[.slice nA nn nc, .slice pA pn pc, .slice gA gn gc] 26)) := (Below.refl _ _).alloc (Nat.le_refl _) _
  obtain ⟨V, hV⟩ : ∃ V, decide (fitRec ⟨⟨nA, nn, nc, nl⟩, ⟨pA, pn, pc, pl⟩, ⟨gA, gn, gc, gl⟩⟩) = V := ⟨_, rfl⟩
  have HV := hidden hV
  rw [hV]
  have few := h.few
  have hnl : nl.length = nn := h.news.2.1
  have hpl : pl.length = pn := h.pts.2.1
  have hgl : gl.length = gn := h.gones.2.1
  have HL := hidden (And.intro hnl (And.intro hpl hgl))
  obtain ⟨f1, f2, f3, f4⟩ := few
  have F4 := hidden (show (gl.map fun x => x.sp.n).sum ≤ 4294967296 from f4)
  simp only at f1 f2 f3
  clear hV hnl hpl hgl f4
  show Calls Tryz.prog 12 #[.agg #[.slice nA nn nc, .slice pA pn pc, .slice gA gn gc]] w _
  go_enter Tryz.func12, Tryz.ntmps12
  go_upto_region 1 with (fail)
  generalize w.alloc (.cells #[.slice nA nn nc, .slice pA pn pc, .slice gA gn gc] 26) = w1 at hX0 hB0 ⊢
  have H := hidden (h.on hB0)
  obtain ⟨g, hg⟩ : ∃ g, w.heap.size = g := ⟨_, rfl⟩
  have HB := hidden hB0
  rw [hg] at hX0 ⊢
  have HX := hidden hX0
  have b0 := hX0.cell 0
  clear hX0 hB0 h hg
  go_wp2_with fail
  clear b0
  go_loopw [12] (fun vi wr => ∃ k : Nat, k ≤ nn ∧ vi = .int .i64 k ∧ Hid (∀ x ∈ nl.take k, fitNew x) ∧ Hid (Below w1.heap.size w1 wr)) (fun vi _ => nn - (intOf vi).toNat)
  case atStart => exact ⟨0, Nat.zero_le _, rfl, hidden (by simp), hidden (Below.refl _ _)⟩
  case round =>
    obtain ⟨k, hk, rfl, hfk, hb⟩ := hrel
    have k0 : (0 : Int) ≤ (k : Int) := by omega
    have H2 := hidden (H.out.on hb.out)
    by_cases hlt : k < nn
    · have k1 : (k : Int) < (nn : Int) := by omega
      obtain ⟨gs, o, x, rfl, _, hx, hcl⟩ := row_at newK H2.out.news.2.2 HL.out.1 k hlt
      have c0 : wr.cell? ⟨gs, o + k * 2, none⟩ = some (.int .i64 x.ref) := hcl 0 (by omega)
      have c1 : wr.cell? ⟨gs, o + k * 2 + 1, none⟩ = some (.slice x.lab.A x.lab.n x.lab.c) := hcl 1 (by omega)
      have HXM := hidden (List.mem_of_getElem? hx)
      have HXK := hidden hx
      clear hx hcl
      go_wp2_with fail
      have X1 := Whole1.new wr 59 #[.int .i64 x.ref, .slice x.lab.A x.lab.n x.lab.c]
      have hbA : Below wr.heap.size wr (wr.alloc (.cells #[.int .i64 x.ref, .slice x.lab.A x.lab.n x.lab.c] 59)) := (Below.refl _ _).alloc (Nat.le_refl _) _
      generalize wr.alloc (.cells #[.int .i64 x.ref, .slice x.lab.A x.lab.n x.lab.c] 59) = wa at X1 hbA ⊢
      have HBA := hidden (hb.out.trans (hbA.mono hb.out.size))
      have d1 := X1.cell 1
      have S2 := hidden (lvalid_any x.lab.A x.lab.n x.lab.c x.lab.l wa ((H.out.on HBA.out).labs x HXM.out).1 ((H.out.on HBA.out).labs x HXM.out).2)
      clear c0 c1 X1 hbA
      refine (fitRef_any x.ref wa).mono ?_
      rintro e wb ⟨rfl, rfl⟩
      by_cases hr : fitRef x.ref
      · rw [decide_eq_true hr]
        have HR := hidden hr
        clear hr
        go_wp2_with fail
        refine S2.out.mono ?_
        rintro e wc ⟨rfl, b2⟩
        have HBC := hidden (HBA.out.trans (b2.mono HBA.out.size))
        clear b2 d1
        by_cases hv : validP x.lab.l
        · rw [decide_eq_true hv]
          have HF2 := hidden (fit_more hfk.out HXK.out ⟨HR.out, hv⟩)
          clear hv
          go_wp2_with fail
          go_roundw
          case rel => exact ⟨k + 1, by omega, by go_num, HF2, HBC⟩
          case measure => simp [intOf]; omega
        · rw [decide_eq_false hv]
          have HVF : Hid (V = false) := by rw [Hid, ← HV.out]; exact decide_eq_false fun hf => hv (hf.1 x HXM.out).2
          clear hv
          go_wp2_with fail
          go_ret
          rw [HVF.out]
          exact ⟨rfl, HB.out.trans (HBC.out.mono HB.out.size)⟩
      · rw [decide_eq_false hr]
        have HVF : Hid (V = false) := by rw [Hid, ← HV.out]; exact decide_eq_false fun hf => hr (hf.1 x HXM.out).1
        clear hr d1
        go_wp2_with fail
        go_ret
        rw [HVF.out]
        exact ⟨rfl, HB.out.trans (HBA.out.mono HB.out.size)⟩
    · have k2 : ¬ (k : Int) < (nn : Int) := by omega
      have HF1 := hidden (fit_all hfk.out (by have := HL.out.1; omega))
      have b1 := (HX.out.below hb.out HX.out.lt).cell 1
      obtain ⟨w2, hw2⟩ : ∃ w2, w2 = wr := ⟨_, rfl⟩
      rw [← hw2] at b1 H2 hb ⊢
      have hb2 := hb
      clear hw2 hfk hb k0 hk hlt
      go_wp2_with fail
      clear b1
      go_loopw [30] (fun vi wr => ∃ k : Nat, k ≤ pn ∧ vi = .int .i64 k ∧ Hid (∀ x ∈ pl.take k, fitPnt x) ∧ Hid (Below w1.heap.size w1 wr)) (fun vi _ => pn - (intOf vi).toNat)
      case atStart => exact ⟨0, Nat.zero_le _, rfl, hidden (by simp), hb2⟩
      case round =>
        obtain ⟨k, hk, rfl, hfk, hb⟩ := hrel
        have k0 : (0 : Int) ≤ (k : Int) := by omega
        have H3 := hidden (H.out.on hb.out)
        by_cases hlt : k < pn
        · have k1 : (k : Int) < (pn : Int) := by omega
          obtain ⟨gs, o, x, rfl, _, hx, hcl⟩ := row_at pntK H3.out.pts.2.2 HL.out.2.1 k hlt
          have c0 : wr.cell? ⟨gs, o + k * 3, none⟩ = some (.int .i64 x.ref) := hcl 0 (by omega)
          have c1 : wr.cell? ⟨gs, o + k * 3 + 1, none⟩ = some (.int .i64 x.t) := hcl 1 (by omega)
          have c2 : wr.cell? ⟨gs, o + k * 3 + 2, none⟩ = some (.int .u64 (x.v : Int)) := hcl 2 (by omega)
          have HXM := hidden (List.mem_of_getElem? hx)
          have HXK := hidden hx
          clear hx hcl
          go_wp2_with fail
          have X1 := Whole1.new wr 62 #[.int .i64 x.ref, .int .i64 x.t, .int .u64 (x.v : Int)]
          have hbA : Below wr.heap.size wr (wr.alloc (.cells #[.int .i64 x.ref, .int .i64 x.t, .int .u64 (x.v : Int)] 62)) := (Below.refl _ _).alloc (Nat.le_refl _) _
          generalize wr.alloc (.cells #[.int .i64 x.ref, .int .i64 x.t, .int .u64 (x.v : Int)] 62) = wa at X1 hbA ⊢
          have HBA := hidden (hb.out.trans (hbA.mono hb.out.size))
          have d1 := X1.cell 1
          clear c0 c1 c2 X1 hbA
          refine (fitRef_any x.ref wa).mono ?_
          rintro e wb ⟨rfl, rfl⟩
          by_cases hr : fitRef x.ref
          · rw [decide_eq_true hr]
            have HR := hidden hr
            clear hr
            by_cases h0 : x.t < 0
            · have HVF : Hid (V = false) := by rw [Hid, ← HV.out]; exact decide_eq_false fun hf => absurd (hf.2.1 x HXM.out).2.1 (by omega)
              clear hk
              go_wp2_with fail
              go_ret
              rw [HVF.out]
              exact ⟨rfl, HB.out.trans (HBA.out.mono HB.out.size)⟩
            · have h0' : decide (x.t < 0) = false := decide_eq_false h0
              by_cases h1 : 1125899906842624 < x.t
              · have HVF : Hid (V = false) := by rw [Hid, ← HV.out]; exact decide_eq_false fun hf => absurd (hf.2.1 x HXM.out).2.2 (by omega)
                clear h0
                go_wp2_with fail
                go_ret
                rw [HVF.out]
                exact ⟨rfl, HB.out.trans (HBA.out.mono HB.out.size)⟩
              · have h1' : decide (1125899906842624 < x.t) = false := decide_eq_false h1
                have HF2 := hidden (fit_more hfk.out HXK.out ⟨HR.out, by omega, by omega⟩)
                clear h0 h1
                go_wp2_with fail
                go_roundw
                case rel => exact ⟨k + 1, by omega, by go_num, HF2, HBA⟩
                case measure => simp [intOf]; omega
          · rw [decide_eq_false hr]
            have HVF : Hid (V = false) := by rw [Hid, ← HV.out]; exact decide_eq_false fun hf => hr (hf.2.1 x HXM.out).1
            clear d1
            go_wp2_with fail
            go_ret
            rw [HVF.out]
            exact ⟨rfl, HB.out.trans (HBA.out.mono HB.out.size)⟩
        · have k2 : ¬ (k : Int) < (pn : Int) := by omega
          have HF2 := hidden (fit_all hfk.out (by have := HL.out.2.1; omega))
          have b2 := (HX.out.below hb.out HX.out.lt).cell 2
          obtain ⟨w3, hw3⟩ : ∃ w3, w3 = wr := ⟨_, rfl⟩
          rw [← hw3] at b2 H3 hb ⊢
          have hb3 := hb
          clear hw3 hfk hb k0 hk hlt
          go_wp2_with fail
          clear b2
          go_loopw [52] (fun vi wr => ∃ k : Nat, k ≤ gn ∧ vi = .int .i64 k ∧ Hid (∀ x ∈ gl.take k, fitGon x) ∧ Hid (Below w1.heap.size w1 wr)) (fun vi _ => gn - (intOf vi).toNat)
          case atStart => exact ⟨0, Nat.zero_le _, rfl, hidden (by simp), hb3⟩
          case round =>
            obtain ⟨k, hk, rfl, hfk, hb⟩ := hrel
            have k0 : (0 : Int) ≤ (k : Int) := by omega
            have H4 := hidden (H.out.on hb.out)
            by_cases hlt : k < gn
            · have k1 : (k : Int) < (gn : Int) := by omega
              obtain ⟨gs, o, x, rfl, _, hx, hcl⟩ := row_at gonRK H4.out.gones.2.2 HL.out.2.2 k hlt
              have c0 : wr.cell? ⟨gs, o + k * 3, none⟩ = some (.int .i64 x.ref) := hcl 0 (by omega)
              have c1 : wr.cell? ⟨gs, o + k * 3 + 1, none⟩ = some (.int .i64 x.res) := hcl 1 (by omega)
              have c2 : wr.cell? ⟨gs, o + k * 3 + 2, none⟩ = some (.slice x.sp.A x.sp.n x.sp.c) := hcl 2 (by omega)
              have HXM := hidden (List.mem_of_getElem? hx)
              have HXK := hidden hx
              clear hx hcl
              go_upto_region 16 with (fail)
              have X1 := Whole1.new wr 66 #[.int .i64 x.ref, .int .i64 x.res, .slice x.sp.A x.sp.n x.sp.c]
              have hbA : Below wr.heap.size wr (wr.alloc (.cells #[.int .i64 x.ref, .int .i64 x.res, .slice x.sp.A x.sp.n x.sp.c] 66)) := (Below.refl _ _).alloc (Nat.le_refl _) _
              generalize wr.alloc (.cells #[.int .i64 x.ref, .int .i64 x.res, .slice x.sp.A x.sp.n x.sp.c] 66) = wa at X1 hbA ⊢
              have HBA := hidden (hb.out.trans (hbA.mono hb.out.size))
              obtain ⟨X, hX⟩ : ∃ X, wr.heap.size = X := ⟨_, rfl⟩
              rw [hX] at X1 ⊢
              have HS := hidden (fun W (hW : Below wa.heap.size wa W) => let Y := X1.below hW X1.lt; (⟨Y.cell 0, Y.cell 1, Y.cell 2⟩ : W.cell? ⟨X, 0, none⟩ = some (.int .i64 x.ref) ∧ W.cell? ⟨X, 1, none⟩ = some (.int .i64 x.res) ∧ W.cell? ⟨X, 2, none⟩ = some (.slice x.sp.A x.sp.n x.sp.c)))
              have HG4 := hidden (fun W (hW : Below wa.heap.size wa W) => (H.out.on (HBA.out.trans (hW.mono HBA.out.size))).spans x HXM.out)
              have hsn := few_sp F4.out HXM.out
              clear c0 c1 c2 X1 hbA hX
              have S1 := hidden (fun W => fitRef_any x.ref W)
              by_cases hr : fitRef x.ref
              · rw [decide_eq_true hr] at S1
                have HR := hidden hr
                clear hr
                by_cases h0 : x.res < 0
                · have HVF : Hid (V = false) := by rw [Hid, ← HV.out]; exact decide_eq_false fun hf => absurd (hf.2.2.1 x HXM.out).2.1 (by omega)
                  clear hk
                  have d0 := (HS.out _ (Below.refl _ _)).1
                  have d1 := (HS.out _ (Below.refl _ _)).2.1
                  have d2 := (HS.out _ (Below.refl _ _)).2.2
                  go_quiet (refine Calls.quiet_of_same ((S1.out _).mono fun _ _ h => ⟨h.1, h.2.symm⟩))
                  go_wp2_with fail
                  go_ret
                  rw [HVF.out]
                  exact ⟨rfl, HB.out.trans ((below_drewN HBA.out nq).mono HB.out.size)⟩
                · have h0' : decide (x.res < 0) = false := decide_eq_false h0
                  by_cases h1 : 3 ≤ x.res
                  · have HVF : Hid (V = false) := by rw [Hid, ← HV.out]; exact decide_eq_false fun hf => absurd (hf.2.2.1 x HXM.out).2.2.1 (by omega)
                    clear h0
                    have d0 := (HS.out _ (Below.refl _ _)).1
                    have d1 := (HS.out _ (Below.refl _ _)).2.1
                    have d2 := (HS.out _ (Below.refl _ _)).2.2
                    go_quiet (refine Calls.quiet_of_same ((S1.out _).mono fun _ _ h => ⟨h.1, h.2.symm⟩))
                    go_wp2_with fail
                    go_ret
                    rw [HVF.out]
                    exact ⟨rfl, HB.out.trans ((below_drewN HBA.out nq).mono HB.out.size)⟩
                  · have h1' : decide (3 ≤ x.res) = false := decide_eq_false h1
                    have hxl := (HG4.out wa (Below.refl _ _)).1.2.1
                    by_cases h2 : x.sp.n = 0
                    · have h2' : ((x.sp.n : Int) == 0) = true := by simp [h2]
                      have HVF : Hid (V = false) := by rw [Hid, ← HV.out]; exact decide_eq_false fun hf => absurd (List.eq_nil_of_length_eq_zero (by omega)) (hf.2.2.1 x HXM.out).2.2.2.1
                      clear h0 h1
                      have d0 := (HS.out _ (Below.refl _ _)).1
                      have d1 := (HS.out _ (Below.refl _ _)).2.1
                      have d2 := (HS.out _ (Below.refl _ _)).2.2
                      go_quiet (refine Calls.quiet_of_same ((S1.out _).mono fun _ _ h => ⟨h.1, h.2.symm⟩))
                      go_wp2_with fail
                      go_ret
                      rw [HVF.out]
                      exact ⟨rfl, HB.out.trans ((below_drewN HBA.out nq).mono HB.out.size)⟩
                    · have h2' : ((x.sp.n : Int) == 0) = false := by simp; omega
                      have SO := hidden (fun W (hW : Below wa.heap.size wa W) => spnOf_any x.sp.A x.sp.n x.sp.c x.sp.l W (HG4.out W hW).1.2.2 (HG4.out W hW).1.2.1 (by omega) (HG4.out W hW).2)
                      go_region_held3 (fun W => W.cell? ⟨X, 0, none⟩ = some (.int .i64 x.ref) ∧ W.cell? ⟨X, 1, none⟩ = some (.int .i64 x.res) ∧ W.cell? ⟨X, 2, none⟩ = some (.slice x.sp.A x.sp.n x.sp.c))
                        (first | exact HS.out _ (Below.refl _ _) | exact HS.out _ (Below.refl _ _).drew | exact HS.out _ (by assumption))
                        (first
                          | (go_at_call 41; refine (S1.out _).mono ?_; rintro e wb ⟨rfl, rfl⟩)
                          | (go_at_call 43; refine (equalS_any _ _ _ _ _ _ R x.sp.l _ HRR.out (HG4.out _ kc).1.2.2 rfl (HG4.out _ kc).1.2.1 (by omega) (by omega)).mono ?_; rintro e wd ⟨rfl, kk, rfl⟩; obtain ⟨D, hD⟩ : ∃ D, decide (R = x.sp.l) = D := ⟨_, rfl⟩; rw [hD]; have HD := hidden hD; clear hD; have kd : Below wa.heap.size wa (wc.drewN kk) := below_drewN kc kk)
                          | (go_at_call 44; refine (SO.out _ (Below.refl _ _).drew).mono ?_; rintro e wc ⟨v9, R, rfl, ho9, hof9, hRn, bc⟩; obtain ⟨A9, c9, rfl, _, hr9⟩ := own_shape ho9; have kc : Below wa.heap.size wa wc := (Below.refl _ _).drew.trans bc; have HRR := hidden hr9; have HOF := hidden hof9; clear ho9 hof9 hr9 bc))
                      cases D with
                      | true =>
                        have hRl := of_decide_eq_true HD.out
                        have HF2 := hidden (fit_more hfk.out HXK.out (p := fitGon) ⟨HR.out, by omega, by omega, fun he => by rw [he] at hxl; simp at hxl; omega, by rw [← hRl]; exact HOF.out.one⟩)
                        have HBD := hidden (HBA.out.trans (kd.mono HBA.out.size))
                        clear hRl
                        go_wp2_with fail
                        go_roundw
                        case rel => exact ⟨k + 1, by omega, by go_num, HF2, HBD⟩
                        case measure => simp [intOf]; omega
                      | false =>
                        have hRl := of_decide_eq_false HD.out
                        have HVF : Hid (V = false) := by rw [Hid, ← HV.out]; exact decide_eq_false fun hf => hRl (HOF.out.uniq (OfRes.self (hf.2.2.1 x HXM.out).2.2.2.2) fun _ => rfl)
                        have HBD := hidden (HBA.out.trans (kd.mono HBA.out.size))
                        clear hRl
                        go_wp2_with fail
                        go_ret
                        rw [HVF.out]
                        exact ⟨rfl, HB.out.trans (HBD.out.mono HB.out.size)⟩
              · rw [decide_eq_false hr] at S1
                have HVF : Hid (V = false) := by rw [Hid, ← HV.out]; exact decide_eq_false fun hf => hr (hf.2.2.1 x HXM.out).1
                clear hr
                have d0 := (HS.out _ (Below.refl _ _)).1
                have d1 := (HS.out _ (Below.refl _ _)).2.1
                have d2 := (HS.out _ (Below.refl _ _)).2.2
                go_quiet (refine Calls.quiet_of_same ((S1.out _).mono fun _ _ h => ⟨h.1, h.2.symm⟩))
                go_wp2_with fail
                go_ret
                rw [HVF.out]
                exact ⟨rfl, HB.out.trans ((below_drewN HBA.out nq).mono HB.out.size)⟩
            · have k2 : ¬ (k : Int) < (gn : Int) := by omega
              have HF3 := hidden (fit_all hfk.out (by have := HL.out.2.2; omega))
              have b0 := (HX.out.below hb.out HX.out.lt).cell 0
              have b1 := (HX.out.below hb.out HX.out.lt).cell 1
              have b2 := (HX.out.below hb.out HX.out.lt).cell 2
              have s1 : IntKind.i64.wrap ((nn : Int) + (pn : Int)) = (nn : Int) + (pn : Int) := Go.IntWalk.i64_in _ (by omega)
              have s2 : IntKind.i64.wrap ((nn : Int) + (pn : Int) + (gn : Int)) = (nn : Int) + (pn : Int) + (gn : Int) := Go.IntWalk.i64_in _ (by omega)
              by_cases hz : 0 < nn + pn + gn
              · have z1 : (0 : Int) < (nn : Int) + (pn : Int) + (gn : Int) := by omega
                have HVT : Hid (V = true) := by rw [Hid, ← HV.out]; exact decide_eq_true ⟨HF1.out, HF2.out, HF3.out, hz⟩
                clear hz
                go_wp2_with fail
                go_ret
                rw [HVT.out]
                exact ⟨rfl, HB.out.trans (hb.out.mono HB.out.size)⟩
              · have z1 : decide ((0 : Int) < (nn : Int) + (pn : Int) + (gn : Int)) = false := decide_eq_false (by omega)
                have HVF : Hid (V = false) := by rw [Hid, ← HV.out]; exact decide_eq_false fun hf => hz hf.2.2.2
                clear hz
                go_wp2_with fail
                go_ret
                rw [HVF.out]
                exact ⟨rfl, HB.out.trans (hb.out.mono HB.out.size)⟩
end Go.Proofs.YtdggnnjjiolldaaGreat
