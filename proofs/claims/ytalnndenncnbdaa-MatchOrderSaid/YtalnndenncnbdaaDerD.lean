/- deriv's derive, walked: what is left behind a byte. No condition. -/
import Derived.Test.YtalnndenncnbdaaDerR
import Derived.Deep.RegionHeld3
namespace Go.Proofs.Ytalnndenncnbdaa
set_option maxRecDepth 100000
open Go.RowKit

/-- the blocks of a match's maps -/
def Bs (b1 b2 b3 : Nat) (k : Nat) : Prop := k = b1 ∨ k = b2 ∨ k = b3
/-- the calls of derive at this tree -/
def DerOk (t : Tr) : Prop := ∀ (r b1 b2 b3 n : Nat) (q : Option Addr) (l : List Tr) (m : Nat) (Q : List Tr → Prop) (w : World), m < 256 → RunAt w r b1 b2 → IsTr w n t → IsRest w q l → OutAt w b3 Q → b3 ≠ b1 → b3 ≠ b2 →
    Calls Try.prog 44 #[.pointer (some ⟨r, 0, none⟩), .pointer (some ⟨n, 0, none⟩), .pointer q, .int .u8 (m : Int), .map (some b3)] w fun e w' => e = .returned (.tuple #[]) ∧ RunAt w' r b1 b2 ∧ OutAt w' b3 (fun x => Q x ∨ x ∈ derT t l m) ∧ Stays (Bs b1 b2 b3) w w'
theorem kids1_on {w : World} {p p1 : Nat} {k : Int} (h : Node1 w p k p1) : ∃ q c, ∀ w', (∀ g t cs, Whole1 w g t cs → Whole1 w' g t cs) → w'.cell? ⟨p, 0, none⟩ = some (.int .i64 k) ∧ w'.cell? ⟨p, 5, none⟩ = some (.slice (some ⟨q, 0, none⟩) 1 c) ∧ w'.cell? ⟨q, 0, none⟩ = some (.pointer (some ⟨p1, 0, none⟩)) := by
  obtain ⟨q, c, h1, h2⟩ := h
  exact ⟨q, c, fun w' hs => ⟨Whole1.cell (hs _ _ _ h1) 0, Whole1.cell (hs _ _ _ h1) 5, (hs _ _ _ h2).cell 0⟩⟩
theorem kids2_on {w : World} {p p1 p2 : Nat} {k : Int} (h : Node2 w p k p1 p2) : ∃ q c, ∀ w', (∀ g t cs, Whole1 w g t cs → Whole1 w' g t cs) → w'.cell? ⟨p, 0, none⟩ = some (.int .i64 k) ∧ w'.cell? ⟨p, 5, none⟩ = some (.slice (some ⟨q, 0, none⟩) 2 c) ∧ w'.cell? ⟨q, 0, none⟩ = some (.pointer (some ⟨p1, 0, none⟩)) ∧ w'.cell? ⟨q, 1, none⟩ = some (.pointer (some ⟨p2, 0, none⟩)) := by
  obtain ⟨q, c, h1, h2⟩ := h
  exact ⟨q, c, fun w' hs => ⟨Whole1.cell (hs _ _ _ h1) 0, Whole1.cell (hs _ _ _ h1) 5, (hs _ _ _ h2).cell 0, (hs _ _ _ h2).cell 1⟩⟩
theorem out_quiet {w w' : World} {b : Nat} {Q R : List Tr → Prop} {F : Nat → Prop} (h : OutAt w b Q) (k : Stays F w w') (hF : ¬ F b) (e : ∀ l, Q l ↔ R l) : OutAt w' b R := (h.on k hF).iff e

theorem der_emp : DerOk .emp := by
  intro r b1 b2 b3 n q l m Q w hm hr ht hq ho h1 h2
  have c0 := kind_cell ht
  simp only [kindT] at c0
  clear ht
  go_enter Try.func44, Try.ntmps44
  go_wp2_with fail
  go_end0
  exact ⟨rfl, hr, ho.iff fun l => by simp [derT], Stays.refl _ _⟩

set_option maxHeartbeats 1600000 in
theorem der_cls (a b c d : Nat) : DerOk (.cls a b c d) := by
  intro r b1 b2 b3 n q l m Q w hm hr ht hq ho h1 h2
  obtain ⟨v, hn, hf⟩ := ht
  have c0 : w.cell? ⟨n, 0, none⟩ = some (.int .i64 1) := Whole1.cell hn 0
  have c1 : w.cell? ⟨n, 1, none⟩ = some (.int .u64 (a : Int)) := Whole1.cell hn 1
  have c2 : w.cell? ⟨n, 2, none⟩ = some (.int .u64 (b : Int)) := Whole1.cell hn 2
  have c3 : w.cell? ⟨n, 3, none⟩ = some (.int .u64 (c : Int)) := Whole1.cell hn 3
  have c4 : w.cell? ⟨n, 4, none⟩ = some (.int .u64 (d : Int)) := Whole1.cell hn 4
  have S1 := hidden (has_any a b c d m w hm hf)
  have eD : derT (.cls a b c d) l m = if hasB a b c d m then [l] else [] := rfl
  obtain ⟨D, hD⟩ : ∃ D, (if hasB a b c d m then [l] else []) = D := ⟨_, rfl⟩
  rw [eD, hD]
  have HD := hidden hD
  clear eD hn hD
  obtain ⟨mo, ho⟩ := ho
  have HO := hidden ho
  clear ho
  go_enter Try.func44, Try.ntmps44
  go_wp2_with fail
  refine S1.out.mono ?_
  rintro e w1 ⟨rfl, hb1⟩
  clear c0 c1 c2 c3 c4
  have hs1 := Stays.of_below hb1 (fun _ => False)
  have ho1 := HO.out.on hs1 id
  have hr1 := hr.on hs1 id id
  have hq1 := isRest_on hs1.cells _ _ hq
  cases hbv : hasB a b c d m with
  | false =>
    have hD : D = [] := by rw [← HD.out, hbv]; rfl
    go_wp2_with fail
    go_end0
    exact ⟨rfl, hr1, ⟨mo, ho1.iff fun z => by simp [hD]⟩, hs1.wider fun _ h => h.elim⟩
  | true =>
    have hD : D = [l] := by rw [← HD.out, hbv]; rfl
    have hL := ho1.map.look keyPtrRest ho1.keys Try.underlying65 (zeroI w1) ⟨q, rfl, laid_rest hq1⟩ false
    simp only [Bool.false_eq_true, if_false] at hL
    obtain ⟨k, hk⟩ : ∃ k, (atV mo (.pointer q)).getD (.int .i64 0) = .int .i64 k := by
      cases hat : atV mo (.pointer q) with
      | none => exact ⟨0, rfl⟩
      | some u =>
        obtain ⟨a', l', k, e, _⟩ := ho1.each _ (atV_mem _ _ _ hat)
        simp only [Prod.mk.injEq] at e
        exact ⟨k, e.2⟩
    rw [hk] at hL
    obtain ⟨w5, hrun, hm5, hg5, hz5⟩ := ho1.map.store (P := Try.prog) keyPtrRest ho1.keys Try.underlying65 (key := .pointer q) ⟨q, rfl, laid_rest hq1⟩ ⟨q, rfl⟩ (.int .i64 (wrap64 (k + 1)))
    have hst : Stays (Bs b1 b2 b3) w1 w5 := Stays.of_map ho1.map hg5 (.inr (.inr rfl))
    have hst3 : Stays (fun x => x = b3) w1 w5 := Stays.of_map ho1.map hg5 rfl
    have hr5 := hr1.on hst3 (fun e => h1 e.symm) (fun e => h2 e.symm)
    have ho5 := (ho1.count hq1 hm5 hst3 rfl).iff (R := fun x => Q x ∨ x ∈ D) fun x => by simp [hD]
    have HF := hidden (And.intro hr5 (And.intro (show OutAt w5 b3 _ from ⟨_, ho5⟩) ((hs1.wider (G := Bs b1 b2 b3) fun _ h => h.elim).trans hst)))
    clear hk ho5 hr5 hst hst3 hg5 hm5
    go_wp2_with fail
    go_end0
    exact ⟨rfl, HF.out⟩

set_option maxHeartbeats 1600000 in
theorem der_alt {x y : Tr} (hx : DerOk x) (hy : DerOk y) : DerOk (.alt x y) := by
  intro r b1 b2 b3 n q l m Q w hm hr ht hq ho h1 h2
  obtain ⟨p1, p2, hn, hx1, hy1⟩ := ht
  obtain ⟨qk, ck, hc⟩ := kids2_on hn
  obtain ⟨c0, c1, c2, c3⟩ := hc w fun _ _ _ => id
  have S1 := hidden (hx r b1 b2 b3 p1 q l m Q w hm hr hx1 hq ho h1 h2)
  go_enter Try.func44, Try.ntmps44
  go_wp2_with fail
  refine S1.out.mono ?_
  rintro e w1 ⟨rfl, hr1, ho1, hs1⟩
  obtain ⟨d0, d1, d2, d3⟩ := hc w1 hs1.cells
  have S2 := hidden (hy r b1 b2 b3 p2 q l m _ w1 hm hr1 (isTr_on hs1.cells _ _ hy1) (isRest_on hs1.cells _ _ hq) ho1 h1 h2)
  clear S1 c0 c1 c2 c3
  go_wp2_with fail
  refine S2.out.mono ?_
  rintro e w2 ⟨rfl, hr2, ho2, hs2⟩
  go_wp2_with fail
  go_end0
  exact ⟨rfl, hr2, ho2.iff fun z => by simp [derT, or_assoc], hs1.trans hs2⟩

set_option maxHeartbeats 1600000 in
theorem der_quest {x : Tr} (hx : DerOk x) : DerOk (.quest x) := by
  intro r b1 b2 b3 n q l m Q w hm hr ht hq ho h1 h2
  obtain ⟨p1, hn, hx1⟩ := ht
  obtain ⟨qk, ck, hc⟩ := kids1_on hn
  obtain ⟨c0, c1, c2⟩ := hc w fun _ _ _ => id
  have S1 := hidden (hx r b1 b2 b3 p1 q l m Q w hm hr hx1 hq ho h1 h2)
  go_enter Try.func44, Try.ntmps44
  go_wp2_with fail
  refine S1.out.mono ?_
  rintro e w1 ⟨rfl, hr1, ho1, hs1⟩
  go_wp2_with fail
  go_end0
  exact ⟨rfl, hr1, ho1.iff fun z => by simp [derT], hs1⟩

set_option maxHeartbeats 1600000 in
theorem der_star {x : Tr} (hx : DerOk x) : DerOk (.star x) := by
  intro r b1 b2 b3 n q l m Q w hm hr ht hq ho h1 h2
  have S0 := hidden (rest_any r b1 b2 n q _ l w hr ht hq)
  obtain ⟨p1, hn, hx1⟩ := ht
  obtain ⟨qk, ck, hc⟩ := kids1_on hn
  obtain ⟨c0, _, _⟩ := hc w fun _ _ _ => id
  go_enter Try.func44, Try.ntmps44
  go_wp2_with fail
  refine S0.out.mono ?_
  rintro e w0 ⟨g, rfl, hq0, hr0, hs0⟩
  obtain ⟨d0, d1, d2⟩ := hc w0 hs0.cells
  have S1 := hidden (hx r b1 b2 b3 p1 (some ⟨g, 0, none⟩) (.star x :: l) m Q w0 hm hr0 (isTr_on hs0.cells _ _ hx1) hq0 (ho.on hs0 h1) h1 h2)
  clear S0 c0
  go_wp2_with fail
  refine S1.out.mono ?_
  rintro e w1 ⟨rfl, hr1, ho1, hs1⟩
  go_wp2_with fail
  go_end0
  exact ⟨rfl, hr1, ho1.iff fun z => by simp [derT], (hs0.wider fun _ h => .inl h).trans hs1⟩

set_option maxHeartbeats 1600000 in
theorem der_plus {x : Tr} (hx : DerOk x) : DerOk (.plus x) := by
  intro r b1 b2 b3 n q l m Q w hm hr ht hq ho h1 h2
  have S9 := hidden (star_any r b1 b2 n x w hr ht)
  have c0 := kind_cell ht
  simp only [kindT] at c0
  go_enter Try.func44, Try.ntmps44
  go_wp2_with fail
  refine S9.out.mono ?_
  rintro e w9 ⟨ns, rfl, hts, hr9, hs9⟩
  have S0 := hidden (rest_any r b1 b2 ns q _ l w9 hr9 hts (isRest_on hs9.cells _ _ hq))
  clear S9 c0
  obtain ⟨p1, hn, hx1⟩ := hts
  obtain ⟨qk, ck, hc⟩ := kids1_on hn
  go_wp2_with fail
  refine S0.out.mono ?_
  rintro e w0 ⟨g, rfl, hq0, hr0, hs0⟩
  obtain ⟨d0, d1, d2⟩ := hc w0 hs0.cells
  have S1 := hidden (hx r b1 b2 b3 p1 (some ⟨g, 0, none⟩) (.star x :: l) m Q w0 hm hr0 (isTr_on hs0.cells _ _ hx1) hq0 ((ho.on hs9 h2).on hs0 h1) h1 h2)
  clear S0
  go_wp2_with fail
  refine S1.out.mono ?_
  rintro e w1 ⟨rfl, hr1, ho1, hs1⟩
  go_wp2_with fail
  go_end0
  exact ⟨rfl, hr1, ho1.iff fun z => by simp [derT], (hs9.wider fun _ h => .inr (.inl h)).trans ((hs0.wider fun _ h => .inl h).trans hs1)⟩

set_option maxHeartbeats 3200000 in
theorem der_cat {x y : Tr} (hx : DerOk x) (hy : DerOk y) : DerOk (.cat x y) := by
  intro r b1 b2 b3 n q l m Q w hm hr ht hq ho h1 h2
  obtain ⟨p1, p2, hn, hx1, hy1⟩ := ht
  obtain ⟨qk, ck, hc⟩ := kids2_on hn
  obtain ⟨c0, _, _, _⟩ := hc w fun _ _ _ => id
  have HC := hidden hc
  have HR := hidden hr
  have S0 := hidden (fun W (hW : Stays (fun _ => False) w W) => rest_any r b1 b2 p2 q y l W (hr.on hW id id) (isTr_on hW.cells _ _ hy1) (isRest_on hW.cells _ _ hq))
  go_enter Try.func44, Try.ntmps44
  go_upto_region 9 with (fail)
  clear c0 hc
  go_region_held3 (fun W => W.cell? ⟨n, 5, none⟩ = some (.slice (some ⟨qk, 0, none⟩) 2 ck) ∧ W.cell? ⟨qk, 0, none⟩ = some (.pointer (some ⟨p1, 0, none⟩)) ∧ W.cell? ⟨qk, 1, none⟩ = some (.pointer (some ⟨p2, 0, none⟩)))
    (first | exact (HC.out _ ((Stays.refl (fun _ => False) w).drewN 1).cells).2 | exact (HC.out _ hsB.cells).2 | exact (HC.out _ hsA.cells).2)
    (first
      | (go_at_call 43; refine (S0.out _ ((Stays.refl (fun _ => False) w).drewN 1)).mono ?_; rintro e wA ⟨g, rfl, hqA, hrA, hsA0⟩; have hsA : Stays (fun k => k = b1) w wA := (((Stays.refl (fun k => k = b1) w).drewN 1).trans hsA0))
      | (go_at_call 44; refine (hx r b1 b2 b3 p1 (some ⟨g, 0, none⟩) (y :: l) m Q _ hm hrA (isTr_on hsA.cells _ _ hx1) hqA (ho.on hsA h1) h1 h2).mono ?_; rintro e wB ⟨rfl, hrB, hoB, hsB0⟩; have hsB : Stays (Bs b1 b2 b3) w wB := (hsA.wider fun _ h => .inl h).trans hsB0))
  all_goals (
    have S1 := hidden (null_any x p1 wB (isTr_on hsB.cells _ _ hx1))
    obtain ⟨d0, d1, d2, d3⟩ := HC.out wB hsB.cells
    go_wp2_with fail
    refine S1.out.mono ?_
    rintro e wC ⟨rfl, rfl⟩
    cases hnx : nulT x with
    | false =>
      go_wp2_with fail
      go_end0
      exact ⟨rfl, hrB, hoB.iff fun z => by simp [derT, hnx], hsB⟩
    | true =>
      have S2 := hidden (hy r b1 b2 b3 p2 q l m _ wC hm hrB (isTr_on hsB.cells _ _ hy1) (isRest_on hsB.cells _ _ hq) hoB h1 h2)
      go_wp2_with fail
      refine S2.out.mono ?_
      rintro e wD ⟨rfl, hrD, hoD, hsD⟩
      go_wp2_with fail
      go_end0
      exact ⟨rfl, hrD, hoD.iff fun z => by simp [derT, hnx, or_assoc], hsB.trans hsD⟩)
theorem der_any : ∀ t : Tr, DerOk t := by
  intro t
  induction t with
  | emp => exact der_emp
  | cls a b c d => exact der_cls a b c d
  | cat x y ihx ihy => exact der_cat ihx ihy
  | alt x y ihx ihy => exact der_alt ihx ihy
  | star x ihx => exact der_star ihx
  | plus x ihx => exact der_plus ihx
  | quest x ihx => exact der_quest ihx
end Go.Proofs.Ytalnndenncnbdaa
