/- deriv's derive, walked: what is left behind a byte. No condition. A loop over a map's entries, in whatever order. Condition: the map is not written while the loop is under way. deriv's behind, walked: what is left of a tree behind a text. Condition: the text is no longer than memory. -/
import Derived.Test.YthncochjhbmceaaGreatPke9aa02e7
import Derived.Deep.RegionHeld3
import Derived.Test.YthncochjhbmceaaGreatMapV
import Derived.Deep.LoopGhost
namespace Go.Proofs.YthncochjhbmceaaGreat
set_option maxRecDepth 100000
open Go.RowKit

/-- the blocks of a match's maps -/
def Bs (b1 b2 b3 : Nat) (k : Nat) : Prop := k = b1 ∨ k = b2 ∨ k = b3
/-- the calls of derive at this tree -/
def DerOk (t : Tr) : Prop := ∀ (r b1 b2 b3 n : Nat) (q : Option Addr) (l : List Tr) (m : Nat) (Q : List Tr → Prop) (w : World), m < 256 → RunAt w r b1 b2 → IsTr w n t → IsRest w q l → OutAt w b3 Q → b3 ≠ b1 → b3 ≠ b2 →
    Calls Tryz.prog 177 #[.pointer (some ⟨r, 0, none⟩), .pointer (some ⟨n, 0, none⟩), .pointer q, .int .u8 (m : Int), .map (some b3)] w fun e w' => e = .returned (.tuple #[]) ∧ RunAt w' r b1 b2 ∧ OutAt w' b3 (fun x => Q x ∨ x ∈ derT t l m) ∧ Stays (Bs b1 b2 b3) w w'
theorem kids1_on {w : World} {p p1 : Nat} {k : Int} (h : Node1 w p k p1) : ∃ q c, ∀ w', (∀ g t cs, Whole1 w g t cs → Whole1 w' g t cs) → w'.cell? ⟨p, 0, none⟩ = some (.int .i64 k) ∧ w'.cell? ⟨p, 5, none⟩ = some (.slice (some ⟨q, 0, none⟩) 1 c) ∧ w'.cell? ⟨q, 0, none⟩ = some (.pointer (some ⟨p1, 0, none⟩)) := by
  obtain ⟨q, c, h1, h2⟩ := h
  exact ⟨q, c, fun w' hs => ⟨Whole1.cell (hs _ _ _ h1) 0, Whole1.cell (hs _ _ _ h1) 5, (hs _ _ _ h2).cell 0⟩⟩
theorem kids2_on {w : World} {p p1 p2 : Nat} {k : Int} (h : Node2 w p k p1 p2) : ∃ q c, ∀ w', (∀ g t cs, Whole1 w g t cs → Whole1 w' g t cs) → w'.cell? ⟨p, 0, none⟩ = some (.int .i64 k) ∧ w'.cell? ⟨p, 5, none⟩ = some (.slice (some ⟨q, 0, none⟩) 2 c) ∧ w'.cell? ⟨q, 0, none⟩ = some (.pointer (some ⟨p1, 0, none⟩)) ∧ w'.cell? ⟨q, 1, none⟩ = some (.pointer (some ⟨p2, 0, none⟩)) := by
  obtain ⟨q, c, h1, h2⟩ := h
  exact ⟨q, c, fun w' hs => ⟨Whole1.cell (hs _ _ _ h1) 0, Whole1.cell (hs _ _ _ h1) 5, (hs _ _ _ h2).cell 0, (hs _ _ _ h2).cell 1⟩⟩
theorem der_emp : DerOk .emp := by
  intro r b1 b2 b3 n q l m Q w hm hr ht hq ho h1 h2
  have c0 := kind_cell ht
  simp only [kindT] at c0
  clear ht
  go_enter Tryz.func177, Tryz.ntmps177
  go_wp2_with fail
  go_end0
  exact ⟨rfl, hr, ho.iff fun l => by simp [derT], Stays.refl _ _⟩

set_option maxHeartbeats 1600000 in
theorem der_cls (a b c d : Nat) : DerOk (.cls a b c d) := by
  intro r b1 b2 b3 n q l m Q w hm hr ht hq ho h1 h2
  obtain ⟨v, hn, hf⟩ := ht
  have c0 : w.cell? ⟨n, 0, none⟩ = some (.int .i64 1) := Whole1.cell hn 0
  have c1 : w.cell? ⟨n, 1, none⟩ = some (.int .u64 (a : Int)) := Whole1.cell hn 1
  have c2 : w.cell? ⟨n, 2, none⟩ = some (.int .u64 (b : Int)) := Whole1.cell hn 2
  have c3 : w.cell? ⟨n, 3, none⟩ = some (.int .u64 (c : Int)) := Whole1.cell hn 3
  have c4 : w.cell? ⟨n, 4, none⟩ = some (.int .u64 (d : Int)) := Whole1.cell hn 4
  have S1 := hidden (has_any a b c d m w hm hf)
  have eD : derT (.cls a b c d) l m = if hasB a b c d m then [l] else [] := rfl
  obtain ⟨D, hD⟩ : ∃ D, (if hasB a b c d m then [l] else []) = D := ⟨_, rfl⟩
  rw [eD, hD]
  have HD := hidden hD
  clear eD hn hD
  obtain ⟨mo, ho⟩ := ho
  have HO := hidden ho
  clear ho
  go_enter Tryz.func177, Tryz.ntmps177
  go_wp2_with fail
  refine S1.out.mono ?_
  rintro e w1 ⟨rfl, hb1⟩
  clear c0 c1 c2 c3 c4
  have hs1 := Stays.of_below hb1 (fun _ => False)
  have ho1 := HO.out.on hs1 id
  have hr1 := hr.on hs1 id id
  have hq1 := isRest_on hs1.cells _ _ hq
  cases hbv : hasB a b c d m with
  | false =>
    have hD : D = [] := by rw [← HD.out, hbv]; rfl
    go_wp2_with fail
    go_end0
    exact ⟨rfl, hr1, ⟨mo, ho1.iff fun z => by simp [hD]⟩, hs1.wider fun _ h => h.elim⟩
  | true =>
    have hD : D = [l] := by rw [← HD.out, hbv]; rfl
    have hL := ho1.map.look keyPtrRest ho1.keys Tryz.underlying274 (zeroI w1) ⟨q, rfl, laid_rest hq1⟩ false
    simp only [Bool.false_eq_true, if_false] at hL
    obtain ⟨k, hk⟩ : ∃ k, (atV mo (.pointer q)).getD (.int .i64 0) = .int .i64 k := by
      cases hat : atV mo (.pointer q) with
      | none => exact ⟨0, rfl⟩
      | some u =>
        obtain ⟨a', l', k, e, _⟩ := ho1.each _ (atV_mem _ _ _ hat)
        simp only [Prod.mk.injEq] at e
        exact ⟨k, e.2⟩
    rw [hk] at hL
    obtain ⟨w5, hrun, hm5, hg5, hz5⟩ := ho1.map.store (P := Tryz.prog) keyPtrRest ho1.keys Tryz.underlying274 (key := .pointer q) ⟨q, rfl, laid_rest hq1⟩ ⟨q, rfl⟩ (.int .i64 (wrap64 (k + 1)))
    have hst : Stays (Bs b1 b2 b3) w1 w5 := Stays.of_map ho1.map hg5 (.inr (.inr rfl))
    have hst3 : Stays (fun x => x = b3) w1 w5 := Stays.of_map ho1.map hg5 rfl
    have hr5 := hr1.on hst3 (fun e => h1 e.symm) (fun e => h2 e.symm)
    have ho5 := (ho1.count hq1 hm5 hst3 rfl).iff (R := fun x => Q x ∨ x ∈ D) fun x => by simp [hD]
    have HF := hidden (And.intro hr5 (And.intro (show OutAt w5 b3 _ from ⟨_, ho5⟩) ((hs1.wider (G := Bs b1 b2 b3) fun _ h => h.elim).trans hst)))
    clear hk ho5 hr5 hst hst3 hg5 hm5
    go_wp2_with fail
    go_end0
    exact ⟨rfl, HF.out⟩

set_option maxHeartbeats 1600000 in
theorem der_alt {x y : Tr} (hx : DerOk x) (hy : DerOk y) : DerOk (.alt x y) := by
  intro r b1 b2 b3 n q l m Q w hm hr ht hq ho h1 h2
  obtain ⟨p1, p2, hn, hx1, hy1⟩ := ht
  obtain ⟨qk, ck, hc⟩ := kids2_on hn
  obtain ⟨c0, c1, c2, c3⟩ := hc w fun _ _ _ => id
  have S1 := hidden (hx r b1 b2 b3 p1 q l m Q w hm hr hx1 hq ho h1 h2)
  go_enter Tryz.func177, Tryz.ntmps177
  go_wp2_with fail
  refine S1.out.mono ?_
  rintro e w1 ⟨rfl, hr1, ho1, hs1⟩
  obtain ⟨d0, d1, d2, d3⟩ := hc w1 hs1.cells
  have S2 := hidden (hy r b1 b2 b3 p2 q l m _ w1 hm hr1 (isTr_on hs1.cells _ _ hy1) (isRest_on hs1.cells _ _ hq) ho1 h1 h2)
  clear S1 c0 c1 c2 c3
  go_wp2_with fail
  refine S2.out.mono ?_
  rintro e w2 ⟨rfl, hr2, ho2, hs2⟩
  go_wp2_with fail
  go_end0
  exact ⟨rfl, hr2, ho2.iff fun z => by simp [derT, or_assoc], hs1.trans hs2⟩

set_option maxHeartbeats 1600000 in
theorem der_quest {x : Tr} (hx : DerOk x) : DerOk (.quest x) := by
  intro r b1 b2 b3 n q l m Q w hm hr ht hq ho h1 h2
  obtain ⟨p1, hn, hx1⟩ := ht
  obtain ⟨qk, ck, hc⟩ := kids1_on hn
  obtain ⟨c0, c1, c2⟩ := hc w fun _ _ _ => id
  have S1 := hidden (hx r b1 b2 b3 p1 q l m Q w hm hr hx1 hq ho h1 h2)
  go_enter Tryz.func177, Tryz.ntmps177
  go_wp2_with fail
  refine S1.out.mono ?_
  rintro e w1 ⟨rfl, hr1, ho1, hs1⟩
  go_wp2_with fail
  go_end0
  exact ⟨rfl, hr1, ho1.iff fun z => by simp [derT], hs1⟩

set_option maxHeartbeats 1600000 in
theorem der_star {x : Tr} (hx : DerOk x) : DerOk (.star x) := by
  intro r b1 b2 b3 n q l m Q w hm hr ht hq ho h1 h2
  have S0 := hidden (rest_any r b1 b2 n q _ l w hr ht hq)
  obtain ⟨p1, hn, hx1⟩ := ht
  obtain ⟨qk, ck, hc⟩ := kids1_on hn
  obtain ⟨c0, _, _⟩ := hc w fun _ _ _ => id
  go_enter Tryz.func177, Tryz.ntmps177
  go_wp2_with fail
  refine S0.out.mono ?_
  rintro e w0 ⟨g, rfl, hq0, hr0, hs0⟩
  obtain ⟨d0, d1, d2⟩ := hc w0 hs0.cells
  have S1 := hidden (hx r b1 b2 b3 p1 (some ⟨g, 0, none⟩) (.star x :: l) m Q w0 hm hr0 (isTr_on hs0.cells _ _ hx1) hq0 (ho.on hs0 h1) h1 h2)
  clear S0 c0
  go_wp2_with fail
  refine S1.out.mono ?_
  rintro e w1 ⟨rfl, hr1, ho1, hs1⟩
  go_wp2_with fail
  go_end0
  exact ⟨rfl, hr1, ho1.iff fun z => by simp [derT], (hs0.wider fun _ h => .inl h).trans hs1⟩

set_option maxHeartbeats 1600000 in
theorem der_plus {x : Tr} (hx : DerOk x) : DerOk (.plus x) := by
  intro r b1 b2 b3 n q l m Q w hm hr ht hq ho h1 h2
  have S9 := hidden (star_any r b1 b2 n x w hr ht)
  have c0 := kind_cell ht
  simp only [kindT] at c0
  go_enter Tryz.func177, Tryz.ntmps177
  go_wp2_with fail
  refine S9.out.mono ?_
  rintro e w9 ⟨ns, rfl, hts, hr9, hs9⟩
  have S0 := hidden (rest_any r b1 b2 ns q _ l w9 hr9 hts (isRest_on hs9.cells _ _ hq))
  clear S9 c0
  obtain ⟨p1, hn, hx1⟩ := hts
  obtain ⟨qk, ck, hc⟩ := kids1_on hn
  go_wp2_with fail
  refine S0.out.mono ?_
  rintro e w0 ⟨g, rfl, hq0, hr0, hs0⟩
  obtain ⟨d0, d1, d2⟩ := hc w0 hs0.cells
  have S1 := hidden (hx r b1 b2 b3 p1 (some ⟨g, 0, none⟩) (.star x :: l) m Q w0 hm hr0 (isTr_on hs0.cells _ _ hx1) hq0 ((ho.on hs9 h2).on hs0 h1) h1 h2)
  clear S0
  go_wp2_with fail
  refine S1.out.mono ?_
  rintro e w1 ⟨rfl, hr1, ho1, hs1⟩
  go_wp2_with fail
  go_end0
  exact ⟨rfl, hr1, ho1.iff fun z => by simp [derT], (hs9.wider fun _ h => .inr (.inl h)).trans ((hs0.wider fun _ h => .inl h).trans hs1)⟩

set_option maxHeartbeats 3200000 in
theorem der_cat {x y : Tr} (hx : DerOk x) (hy : DerOk y) : DerOk (.cat x y) := by
  intro r b1 b2 b3 n q l m Q w hm hr ht hq ho h1 h2
  obtain ⟨p1, p2, hn, hx1, hy1⟩ := ht
  obtain ⟨qk, ck, hc⟩ := kids2_on hn
  obtain ⟨c0, _, _, _⟩ := hc w fun _ _ _ => id
  have HC := hidden hc
  have HR := hidden hr
  have S0 := hidden (fun W (hW : Stays (fun _ => False) w W) => rest_any r b1 b2 p2 q y l W (hr.on hW id id) (isTr_on hW.cells _ _ hy1) (isRest_on hW.cells _ _ hq))
  go_enter Tryz.func177, Tryz.ntmps177
  go_upto_region 9 with (fail)
  clear c0 hc
  go_region_held3 (fun W => W.cell? ⟨n, 5, none⟩ = some (.slice (some ⟨qk, 0, none⟩) 2 ck) ∧ W.cell? ⟨qk, 0, none⟩ = some (.pointer (some ⟨p1, 0, none⟩)) ∧ W.cell? ⟨qk, 1, none⟩ = some (.pointer (some ⟨p2, 0, none⟩)))
    (first | exact (HC.out _ ((Stays.refl (fun _ => False) w).drewN 1).cells).2 | exact (HC.out _ hsB.cells).2 | exact (HC.out _ hsA.cells).2)
    (first
      | (go_at_call 176; refine (S0.out _ ((Stays.refl (fun _ => False) w).drewN 1)).mono ?_; rintro e wA ⟨g, rfl, hqA, hrA, hsA0⟩; have hsA : Stays (fun k => k = b1) w wA := (((Stays.refl (fun k => k = b1) w).drewN 1).trans hsA0))
      | (go_at_call 177; refine (hx r b1 b2 b3 p1 (some ⟨g, 0, none⟩) (y :: l) m Q _ hm hrA (isTr_on hsA.cells _ _ hx1) hqA (ho.on hsA h1) h1 h2).mono ?_; rintro e wB ⟨rfl, hrB, hoB, hsB0⟩; have hsB : Stays (Bs b1 b2 b3) w wB := (hsA.wider fun _ h => .inl h).trans hsB0))
  all_goals (
    have S1 := hidden (null_any x p1 wB (isTr_on hsB.cells _ _ hx1))
    obtain ⟨d0, d1, d2, d3⟩ := HC.out wB hsB.cells
    go_wp2_with fail
    refine S1.out.mono ?_
    rintro e wC ⟨rfl, rfl⟩
    cases hnx : nulT x with
    | false =>
      go_wp2_with fail
      go_end0
      exact ⟨rfl, hrB, hoB.iff fun z => by simp [derT, hnx], hsB⟩
    | true =>
      have S2 := hidden (hy r b1 b2 b3 p2 q l m _ wC hm hrB (isTr_on hsB.cells _ _ hy1) (isRest_on hsB.cells _ _ hq) hoB h1 h2)
      go_wp2_with fail
      refine S2.out.mono ?_
      rintro e wD ⟨rfl, hrD, hoD, hsD⟩
      go_wp2_with fail
      go_end0
      exact ⟨rfl, hrD, hoD.iff fun z => by simp [derT, hnx, or_assoc], hsB.trans hsD⟩)
theorem der_any : ∀ t : Tr, DerOk t := by
  intro t
  induction t with
  | emp => exact der_emp
  | cls a b c d => exact der_cls a b c d
  | cat x y ihx ihy => exact der_cat ihx ihy
  | alt x y ihx ihy => exact der_alt ihx ihy
  | star x ihx => exact der_star ihx
  | plus x ihx => exact der_plus ihx
  | quest x ihx => exact der_quest ihx
end Go.Proofs.YthncochjhbmceaaGreat

namespace Go.Proofs.YthncochjhbmceaaGreat
open Go.MapKept Go.ChangeMaps

open Classical in
theorem len_sub {α : Type} : ∀ (l m : List α), l.Nodup → (∀ x ∈ l, x ∈ m) → l.length ≤ m.length
  | [], _, _, _ => by simp
  | x :: l, m, hn, h => by
    obtain ⟨h1, h2⟩ := List.nodup_cons.1 hn
    have hx := h x (by simp)
    have := len_sub l (m.erase x) h2 fun y hy => (List.mem_erase_of_ne (fun e => h1 (by rw [← e]; exact hy))).2 (h y (by simp [hy]))
    rw [List.length_erase_of_mem hx] at this
    have := List.length_pos_of_mem hx
    simp only [List.length_cons]
    omega
/-- a loop over the map in block b is under way, by the iterator in block r; these entries have come -/
def RangeV (S : Value → Prop) (w : World) (b r : Nat) (m come : List (Value × Value)) : Prop :=
  ∃ es clock since seen c0, w.heap[b]? = some (.map es clock) ∧ Stamped es clock ∧ es.toList.map (fun e => (e.key, e.val)) = m ∧ (∀ p ∈ m, S p.1) ∧
    w.heap[r]? = some (.mapIter (some b) since seen c0) ∧ (∀ x ∈ es.toList, x.born < since) ∧ since ≤ c0 ∧ since ≤ clock ∧
    (∀ x ∈ es.toList, (x.key, x.val) ∈ come ↔ seen.contains x.born = true) ∧ come.Nodup ∧ ∀ p ∈ come, p ∈ m

section
variable {P : Program} {S : Value → Prop} {w : World} {b r : Nat} {m come : List (Value × Value)}
theorem RangeV.map (h : RangeV S w b r m come) : MapV S w b m := by
  obtain ⟨es, clock, since, seen, c0, h1, h2, h3, h4, _⟩ := h
  exact ⟨⟨es, clock, h1, h2, h3⟩, h4⟩
theorem RangeV.ne (h : RangeV S w b r m come) : r ≠ b := by
  obtain ⟨es, clock, since, seen, c0, h1, h2, h3, h4, h5, _⟩ := h
  intro e
  rw [e, h1] at h5
  cases h5
theorem RangeV.lt (h : RangeV S w b r m come) : r < w.heap.size := by
  obtain ⟨es, clock, since, seen, c0, h1, h2, h3, h4, h5, _⟩ := h
  exact (Array.getElem?_eq_some_iff.1 h5).1
theorem RangeV.kept {w' : World} (h : RangeV S w b r m come) (hb : w'.heap[b]? = w.heap[b]?) (hr : w'.heap[r]? = w.heap[r]?) : RangeV S w' b r m come := by
  obtain ⟨es, clock, since, seen, c0, h1, h2, h3, h4, h5, rest⟩ := h
  exact ⟨es, clock, since, seen, c0, hb.trans h1, h2, h3, h4, hr.trans h5, rest⟩
/-- how many are still to come goes down -/
theorem RangeV.fewer (h : RangeV S w b r m come) {p : Value × Value} (hp : p ∈ m) (hn : p ∉ come) : come.length < m.length := by
  obtain ⟨es, clock, since, seen, c0, _, _, _, _, _, _, _, _, _, hd, hs⟩ := h
  have : (p :: come).Nodup := List.nodup_cons.2 ⟨hn, hd⟩
  have := len_sub _ m this fun q hq => by
    rcases List.mem_cons.1 hq with e | hq
    · rw [e]; exact hp
    · exact hs q hq
  simp only [List.length_cons] at this
  omega
theorem MapV.range {k e t : TypeId} (h : MapV S w b m) (ht : P.underlying t = some (.map k e)) :
    ∃ w', (Instr.range t (.map (some b))).run P w = .ok (.pointer (some ⟨w.heap.size, 0, none⟩)) w' ∧ RangeV S w' b w.heap.size m [] ∧ w.grownBy w' none ∧ w'.heap.size = w.heap.size + 1 := by
  have hlt := h.lt
  obtain ⟨⟨es, clock, hb, hs, hm⟩, hS⟩ := h
  exact ⟨_, run_range_map w t k e b es clock ht hb, ⟨es, clock, clock, #[], clock, ((MapKept.heap_alloc w _).2 b hlt).trans hb, hs, hm, hS, (MapKept.heap_alloc w _).1, hs.1, Nat.le_refl _, Nat.le_refl _, by simp, by simp, by simp⟩, World.grownBy_alloc w _ none, by simp⟩
theorem RangeV.next (h : RangeV S w b r m come) (ty : TypeId) :
    ((∀ p ∈ m, p ∈ come) ∧ (Instr.next (.pointer (some ⟨r, 0, none⟩)) false ty).run P w = .ok (.tuple #[.bool false]) w) ∨
    ∃ p w', p ∈ m ∧ p ∉ come ∧ (Instr.next (.pointer (some ⟨r, 0, none⟩)) false ty).run P w = .ok (.tuple #[.bool true, p.1, p.2]) w' ∧ RangeV S w' b r m (come ++ [p]) ∧ w.grownBy w' (some r) ∧ w'.heap.size = w.heap.size ∧
      (Instr.entry (.pointer (some ⟨r, 0, none⟩))).run P w' = .ok (.tuple #[p.1, p.2]) w' := by
  have hne := h.ne
  obtain ⟨es, clock, since, seen, c0, hb, hs, rfl, hS, hr, hold, hsc, hsk, hcome, hd, hsub⟩ := h
  rcases run_next_at (P := P) w ty r b since c0 seen es clock hr hb hold hsc with ⟨h0, hrun⟩ | ⟨e, he, w1, hal, hrun⟩
  · refine .inl ⟨fun p hp => ?_, hrun⟩
    obtain ⟨x, hx, rfl⟩ := List.mem_map.1 hp
    exact (hcome x hx).2 (all_seen es seen h0 x hx)
  · obtain ⟨hem, hes⟩ := mem_left he
    have hr1 : w1.heap[r]? = some (.mapIter (some b) since seen c0) := by rcases hal with rfl | rfl <;> exact hr
    have hb1 : w1.heap[b]? = some (.map es clock) := by rcases hal with rfl | rfl <;> exact hb
    have hset := heap_set (o' := .mapIter (some b) since (seen.push e.born) clock) hr1
    have hb' : (setBlock w1 r (.mapIter (some b) since (seen.push e.born) clock)).heap[b]? = some (.map es clock) := (hset.2 b (fun e1 => hne e1.symm)).trans hb1
    have hnot : (e.key, e.val) ∉ come := fun hc => by
      rw [(hcome e hem).1 hc] at hes
      cases hes
    have hst := (stamped_iff es clock).1 hs
    refine .inr ⟨(e.key, e.val), _, List.mem_map.2 ⟨e, hem, rfl⟩, hnot, hrun,
      ⟨es, clock, since, seen.push e.born, clock, hb', hs, rfl, hS, hset.1, hold, hsk, hsk, fun x hx => ?_, ?_, fun p hp => ?_⟩, ?_, ?_,
      run_entry_at _ r b since seen es clock e hset.1 hb' hem hst.2.1⟩
    · rw [contains_push, List.mem_append, Bool.or_eq_true, ← hcome x hx]
      refine or_congr Iff.rfl ?_
      simp only [List.mem_singleton, Prod.mk.injEq, beq_iff_eq]
      constructor
      · rintro ⟨h1, _⟩
        exact congrArg MapEntry.born (entry_eq_of_key hst.2.2 hx hem h1)
      · intro h1
        obtain rfl := born_inj hst.2.1 hx hem h1
        exact ⟨rfl, rfl⟩
    · rw [List.nodup_append]
      refine ⟨hd, by simp, fun a ha c hc e1 => ?_⟩
      simp at hc
      rw [hc] at e1
      exact hnot (e1 ▸ ha)
    · rcases List.mem_append.1 hp with hp | hp
      · exact hsub p hp
      · simp at hp
        rw [hp]
        exact List.mem_map.2 ⟨e, hem, rfl⟩
    · rcases hal with rfl | rfl <;> exact ⟨rfl, rfl, rfl, by simp [setBlock], fun i _ hi => hset.2 i (fun e1 => hi (by rw [e1]))⟩
    · rcases hal with rfl | rfl <;> simp [setBlock]
end

/-! ### at the operation -/
section
variable {P : Program} (w : World) {ops : Array Oper} {rest : List Oper} {o : Oper} {a : Act} {Q : Exit → Act → World → Prop} {S : Value → Prop} {k e : TypeId}
theorem wpList_next (hg : o.guard = none) (it : Operand) (hop : o.op = Op.next it false) (b r : Nat) (m come : List (Value × Value)) (hit : a.eval it = .pointer (some ⟨r, 0, none⟩)) (h : RangeV S w b r m come)
    (hDone : (∀ p ∈ m, p ∈ come) → wpList P ops Q rest (a.put o.dst (.tuple #[.bool false])) w)
    (hMore : ∀ p w', p ∈ m → p ∉ come → RangeV S w' b r m (come ++ [p]) → w.grownBy w' (some r) → w'.heap.size = w.heap.size → (Instr.entry (.pointer (some ⟨r, 0, none⟩))).run P w' = .ok (.tuple #[p.1, p.2]) w' → wpList P ops Q rest (a.put o.dst (.tuple #[.bool true, p.1, p.2])) w') :
    wpList P ops Q (o :: rest) a w := by
  refine wpList_plain hg fun K' hK' => ?_
  unfold Oper.wp
  rcases h.next (P := P) o.type with ⟨hl, hrun⟩ | ⟨p, w', h1, h2, hrun, h3, h4, h5, h6⟩
  · simp [execOp, hop, hit, hrun, Result.andThen]
    exact hK' _ _ (hDone hl)
  · simp [execOp, hop, hit, hrun, Result.andThen]
    exact hK' _ _ (hMore p w' h1 h2 h3 h4 h5 h6)
end
end Go.Proofs.YthncochjhbmceaaGreat

namespace Go.Proofs.YthncochjhbmceaaGreat
set_option maxRecDepth 100000
open Go.RowKit

theorem mk65 (w : World) : (Instr.makeMap 274 none).run Tryz.prog w = .ok (.map (some w.heap.size)) (w.alloc (.map #[] 0)) := by simp [Instr.makeMap, Result.andThen]
theorem mk90 (w : World) : (Instr.makeMap 322 none).run Tryz.prog w = .ok (.map (some w.heap.size)) (w.alloc (.map #[] 0)) := by simp [Instr.makeMap, Result.andThen]
theorem mk91 (w : World) : (Instr.makeMap 323 none).run Tryz.prog w = .ok (.map (some w.heap.size)) (w.alloc (.map #[] 0)) := by simp [Instr.makeMap, Result.andThen]
theorem run_new {w w4 : World} {a b c d : Nat} (ha : a = w.heap.size) (hb : b = a + 1) (hc : c = b + 1) (hd : d = c + 1) (hw : (((w.alloc (.map #[] 0)).alloc (.map #[] 0)).alloc (.map #[] 0)).alloc (.cells #[.map (some b), .map (some c)] 325) = w4) :
    RunAt w4 d b c ∧ OutM w4 a [] (fun _ => False) ∧ Stays (fun _ => False) w w4 := by
  subst ha hb hc hd hw
  have k0 := mapV_made IsPtr w
  have k1 := mapV_made IsPair (w.alloc (.map #[] 0))
  have k2 := mapV_made IsPtr ((w.alloc (.map #[] 0)).alloc (.map #[] 0))
  have s1 : Stays (fun _ => False) w (w.alloc (.map #[] 0)) := (Stays.refl _ _).alloc _
  have s2 := fun (w : World) => (Stays.refl (fun _ => False) w).alloc (.map #[] 0)
  have s3 := fun (w : World) (o : Obj) => (Stays.refl (fun _ => False) w).alloc o
  have hn := Whole1.new (((w.alloc (.map #[] 0)).alloc (.map #[] 0)).alloc (.map #[] 0)) 325 #[.map (some (w.heap.size + 1)), .map (some (w.heap.size + 1 + 1))]
  simp only [World.size_alloc] at k1 k2 hn
  have m0 := (s3 _ (.cells #[.map (some (w.heap.size + 1)), .map (some (w.heap.size + 1 + 1))] 325)).mapV ((s2 _).mapV ((s2 _).mapV k0 id) id) id
  have m1 := (s3 _ (.cells #[.map (some (w.heap.size + 1)), .map (some (w.heap.size + 1 + 1))] 325)).mapV ((s2 _).mapV k1 id) id
  have m2 := (s3 _ (.cells #[.map (some (w.heap.size + 1)), .map (some (w.heap.size + 1 + 1))] 325)).mapV k2 id
  refine ⟨⟨[], [], hn, by omega, m1, m2, by simp, by simp⟩, ⟨m0, by simp, by simp⟩, ((s1.trans (s2 _)).trans (s2 _)).trans (s3 _ _)⟩

/-- the blocks of a round are others -/
structure ApartB (b1 b2 b3 bn rI : Nat) : Prop where
  o1 : b3 ≠ b1
  o2 : b3 ≠ b2
  n1 : bn ≠ b1
  n2 : bn ≠ b2
  n3 : bn ≠ b3
  i1 : rI ≠ b1
  i2 : rI ≠ b2
  i3 : rI ≠ b3
/-- a round over the rests is under way -/
structure BW (w2 wz : World) (r b1 b2 b3 bn rI : Nat) (mo come : List (Value × Value)) (Q : List Tr → Prop) : Prop where
  run : RunAt wz r b1 b2
  out : OutAt wz b3 Q
  rng : RangeV IsPtr wz bn rI mo come
  st : Stays (fun k => Bs b1 b2 b3 k ∨ k = rI) w2 wz
theorem Stays.of_iter {S : Value → Prop} {w w' : World} {b r : Nat} {m come : List (Value × Value)} {F : Nat → Prop} (h : RangeV S w b r m come) (hg : w.grownBy w' (some r)) (hF : F r) : Stays F w w' :=
  ⟨⟨hg.os, hg.tape, hg.output, hg.size, fun k hk hn => hg.block k hk fun e => by cases e; exact hn hF⟩, fun k t cs hw => (hg.block k hw.lt fun e => by
    obtain ⟨_, _, _, _, _, _, _, _, _, h1, _⟩ := h
    rw [← Option.some.inj e, show w.heap[k]? = some (.cells cs t (0, 0)) from hw] at h1
    cases h1).trans hw⟩
section
variable {w2 wz wy : World} {r b1 b2 b3 bn rI : Nat} {mo come : List (Value × Value)} {Q R : List Tr → Prop}
theorem BW.der (h : BW w2 wz r b1 b2 b3 bn rI mo come Q) (hA : ApartB b1 b2 b3 bn rI) (hr : RunAt wy r b1 b2) (ho : OutAt wy b3 R) (hs : Stays (Bs b1 b2 b3) wz wy) : BW w2 wy r b1 b2 b3 bn rI mo come R :=
  ⟨hr, ho, h.rng.kept (hs.kp.block bn h.rng.map.lt (fun h => h.elim hA.n1 fun h => h.elim hA.n2 hA.n3)) (hs.kp.block rI h.rng.lt (fun h => h.elim hA.i1 fun h => h.elim hA.i2 hA.i3)), h.st.trans (hs.wider fun _ => .inl)⟩
theorem BW.next {p : Value × Value} (h : BW w2 wz r b1 b2 b3 bn rI mo come Q) (hA : ApartB b1 b2 b3 bn rI) (hr : RangeV IsPtr wy bn rI mo (come ++ [p])) (hg : wz.grownBy wy (some rI)) : BW w2 wy r b1 b2 b3 bn rI mo (come ++ [p]) Q := by
  have hs : Stays (fun k => k = rI) wz wy := Stays.of_iter h.rng hg rfl
  exact ⟨h.run.on hs (fun e => hA.i1 e.symm) (fun e => hA.i2 e.symm), h.out.on hs (fun e => hA.i3 e.symm), hr, h.st.trans (hs.wider fun _ => .inr)⟩
theorem BW.iff (h : BW w2 wz r b1 b2 b3 bn rI mo come Q) (k : ∀ l, Q l ↔ R l) : BW w2 wz r b1 b2 b3 bn rI mo come R := ⟨h.run, h.out.iff k, h.rng, h.st⟩
end
theorem Stays.of_none {w w' : World} {F : Nat → Prop} (h : w.grownBy w' none) : Stays F w w' :=
  ⟨⟨h.os, h.tape, h.output, h.size, fun k hk _ => h.block k hk (by simp)⟩, fun k _ _ hw => (h.block k hw.lt (by simp)).trans hw⟩
/-- what has come leaves this -/
def leftC (w2 : World) (m : Nat) (come : List (Value × Value)) (l : List Tr) : Prop := ∃ p ∈ come, ∃ a l0, p.1 = .pointer a ∧ IsRest w2 a l0 ∧ l ∈ stepT l0 m

theorem leftC_all {w2 : World} {mo come : List (Value × Value)} {t : Tr} {s : List Nat} {m : Nat} (hin : ∀ e ∈ mo, ∃ a l k, e = (.pointer a, .int .i64 k) ∧ IsRest w2 a l ∧ l ∈ leftT t s) (hall : ∀ l, l ∈ leftT t s → ∃ a k, (Value.pointer a, Value.int .i64 k) ∈ mo ∧ IsRest w2 a l)
    (hc : ∀ p ∈ mo, p ∈ come) (hd : ∀ p ∈ come, p ∈ mo) (l : List Tr) : leftC w2 m come l ↔ l ∈ leftT t (s ++ [m]) := by
  rw [leftT_snoc, List.mem_flatMap]
  constructor
  · rintro ⟨p, hp, a, l0, e, hr, hl⟩
    obtain ⟨a', l1, k, rfl, hr1, h1⟩ := hin p (hd p hp)
    cases e
    rw [isRest_one _ _ _ hr hr1] at hl
    exact ⟨l1, h1, hl⟩
  · rintro ⟨l0, h0, hl⟩
    obtain ⟨a, k, hm, hr⟩ := hall l0 h0
    exact ⟨_, hc _ hm, a, l0, rfl, hr, hl⟩
theorem take_byte {s : List UInt8} {i : Nat} (h : i < s.length) : (s.map UInt8.toNat).take (i + 1) = (s.map UInt8.toNat).take i ++ [(s[i]?.getD 0).toNat] := by
  rw [List.take_add_one, List.getElem?_map]
  congr 1
  rw [List.getElem?_eq_getElem h]
  rfl
theorem leftC_more {w2 : World} {come : List (Value × Value)} {m : Nat} {a0 : Option Addr} {v : Value} {l0 : List Tr} (h : IsRest w2 a0 l0) (l : List Tr) : leftC w2 m (come ++ [(.pointer a0, v)]) l ↔ leftC w2 m come l ∨ l ∈ stepT l0 m := by
  constructor
  · rintro ⟨p, hp, a, l1, e, hr, hl⟩
    rcases List.mem_append.1 hp with hp | hp
    · exact .inl ⟨p, hp, a, l1, e, hr, hl⟩
    · simp only [List.mem_singleton] at hp
      subst hp
      cases e
      rw [isRest_one _ _ _ hr h] at hl
      exact .inr hl
  · rintro (⟨p, hp, r⟩ | hl)
    · exact ⟨p, List.mem_append_left _ hp, r⟩
    · exact ⟨_, List.mem_append_right _ (List.mem_singleton.2 rfl), a0, l0, rfl, h, hl⟩

set_option maxHeartbeats 6400000 in
theorem behind_any (n : Nat) (t : Tr) (S : ByteArray) (w : World) (ht : IsTr w n t) (hS : S.size ≤ 140737488355328) :
    Calls Tryz.prog 144 #[.pointer (some ⟨n, 0, none⟩), .string S] w fun e w' => ∃ b, e = .returned (.map (some b)) ∧ OutAt w' b (fun l => l ∈ leftT t (S.data.toList.map UInt8.toNat)) ∧ Below w.heap.size w w' := by
  obtain ⟨a, ha⟩ : ∃ a, a = w.heap.size := ⟨_, rfl⟩
  obtain ⟨b1, hb1⟩ : ∃ b, b = a + 1 := ⟨_, rfl⟩
  obtain ⟨b2, hb2⟩ : ∃ b, b = b1 + 1 := ⟨_, rfl⟩
  obtain ⟨r, hr⟩ : ∃ b, b = b2 + 1 := ⟨_, rfl⟩
  obtain ⟨w4, hw4⟩ : ∃ w4, (((w.alloc (.map #[] 0)).alloc (.map #[] 0)).alloc (.map #[] 0)).alloc (.cells #[.map (some b1), .map (some b2)] 325) = w4 := ⟨_, rfl⟩
  obtain ⟨hR4, hO4, hs4⟩ := run_new ha hb1 hb2 hr hw4
  have S1 := hidden (rest_any r b1 b2 n none t [] w4 hR4 (isTr_on hs4.cells _ _ ht) rfl)
  have HW := hidden (And.intro ha (And.intro hb1 (And.intro hb2 (And.intro hr hw4))))
  clear ha hb1 hb2 hr hw4
  have M1 := mk65
  have M2 := mk90
  have M3 := mk91
  go_enter Tryz.func144, Tryz.ntmps144
  go_wp2_with fail
  obtain ⟨ha, hb1, hb2, hr, hw4⟩ := HW.out
  have HA := hidden ha
  have hab1 : a ≠ b1 := by omega
  have hab2 : a ≠ b2 := by omega
  have hra : a < b1 ∧ a < b2 := by omega
  rw [← ha, ← hb1, ← hb2, ← hr, hw4]
  clear ha hb1 hb2 hr hw4 HW
  refine S1.out.mono ?_
  rintro e w5 ⟨g, rfl, hq5, hR5, hs5⟩
  have hO5 := hO4.on hs5 hab1
  have hL := hO5.map.look keyPtrRest hO5.keys Tryz.underlying274 (zeroI w5) (key := .pointer (some ⟨g, 0, none⟩)) ⟨_, rfl, laid_rest hq5⟩ false
  simp only [Bool.false_eq_true, if_false, atV, Option.getD_none] at hL
  obtain ⟨w6, hrun, hm6, hg6, hz6⟩ := hO5.map.store (P := Tryz.prog) keyPtrRest hO5.keys Tryz.underlying274 (key := .pointer (some ⟨g, 0, none⟩)) ⟨_, rfl, laid_rest hq5⟩ ⟨_, rfl⟩ (.int .i64 1)
  have hs6 : Stays (fun x => x = a) w5 w6 := Stays.of_map hO5.map hg6 rfl
  have hO6 := (hO5.count hq5 hm6 hs6 rfl).iff (R := fun l => l ∈ leftT t ((S.data.toList.map UInt8.toNat).take 0)) fun l => by simp [leftT]
  have hR6 := hR5.on hs6 (fun e => hab1 e.symm) (fun e => hab2 e.symm)
  have hb6 : Below w.heap.size w w6 := by
    have h1 := hs4.below (B := w.heap.size) (fun _ h => h.elim) (Nat.le_refl _)
    have h2 := hs5.below (B := w.heap.size) (fun k h => by have := HA.out; omega) h1.size
    have h3 := hs6.below (B := w.heap.size) (fun k h => by have := HA.out; omega) (Nat.le_trans h1.size h2.size)
    exact h1.trans (h2.trans h3)
  have HO6 := hidden hO6
  have HR6 := hidden hR6
  have HB6 := hidden hb6
  clear hO6 hR6 hb6 hR4 hO4 hs4 S1 M2 M3 hq5 hR5 hs5 hO5 hm6 hg6 hz6 hs6
  go_wp2_with fail
  clear hL hrun
  go_loopg [5, 7] S.size (fun k vm vi wr => ∃ (i bn : Nat), vi = .int .i64 i ∧ vm = .map (some bn) ∧ i + k = S.size ∧ bn ≠ b1 ∧ bn ≠ b2 ∧ w.heap.size ≤ bn ∧ Hid (OutAt wr bn fun l => l ∈ leftT t ((S.data.toList.map UInt8.toNat).take i)) ∧ Hid (RunAt wr r b1 b2) ∧ Hid (Below w.heap.size w wr))
  case atStart => exact ⟨0, a, rfl, rfl, by omega, hab1, hab2, by have := HA.out; omega, hidden ⟨_, HO6.out⟩, HR6, HB6⟩
  case round =>
    obtain ⟨i, bn, rfl, rfl, hik, hn1, hn2, hna, ho, hr, hb⟩ := hrel
    obtain ⟨mo, ho⟩ := ho.out
    have HO := hidden ho
    have i0 : (0 : Int) ≤ (i : Int) := by omega
    by_cases hlt : i < S.size
    · have i1 : (i : Int) < (S.size : Int) := by omega
      have hlen := ho.map.len (P := Tryz.prog) Tryz.underlying274 3
      by_cases hemp : mo = []
      · subst hemp
        have hnone : leftT t ((S.data.toList.map UInt8.toNat).take i) = [] := by
          refine List.eq_nil_iff_forall_not_mem.2 fun l hl => ?_
          obtain ⟨_, _, h, _⟩ := HO.out.all l hl
          simp at h
        have hfull : leftT t (S.data.toList.map UInt8.toNat) = [] := by
          have := leftT_none hnone ((S.data.toList.map UInt8.toNat).drop i)
          rwa [List.take_append_drop] at this
        have HF := hidden (show OutAt wr bn (fun l => l ∈ leftT t (S.data.toList.map UInt8.toNat)) from ⟨[], HO.out.iff fun l => by rw [hnone, hfull]⟩)
        clear ho hnone hfull
        simp only [List.length_nil] at hlen
        go_wp2_with fail
        go_ret
        exact ⟨bn, rfl, HF.out, hb.out⟩
      · have hposN : 0 < mo.length := List.length_pos_iff.2 hemp
        have hpos : (0 : Int) < (mo.length : Int) := by omega
        obtain ⟨b3, hb3⟩ : ∃ b3, b3 = wr.heap.size := ⟨_, rfl⟩
        have hA3 : Stays (fun _ => False) wr (wr.alloc (.map #[] 0)) := (Stays.refl _ _).alloc _
        have hm3 := mapV_made IsPtr wr
        obtain ⟨w2, hrg, hR2, hg2, hz2⟩ := (HO.out.on hA3 id).map.range (P := Tryz.prog) Tryz.underlying274
        rw [World.size_alloc, ← hb3] at hrg hR2 hz2
        rw [← hb3] at hm3
        have hs2 : Stays (fun _ => False) (wr.alloc (.map #[] 0)) w2 := Stays.of_none hg2
        have hbl := HO.out.map.lt
        have HAP := hidden (show ApartB b1 b2 b3 bn (b3 + 1) from by
          obtain ⟨m1, m2, hrr⟩ := hr.out
          have l1 := hrr.map1.lt
          have l2 := hrr.map2.lt
          constructor <;> omega)
        have HBW := hidden (show BW w2 w2 r b1 b2 b3 bn (b3 + 1) mo [] (leftC w2 (S.data.toList[i]?.getD 0).toNat []) from
          ⟨(hr.out.on hA3 id id).on hs2 id id, ⟨[], hs2.mapV hm3 id, by simp, fun l ⟨p, hp, _⟩ => by simp at hp⟩, hR2, Stays.refl _ _⟩)
        have HBL := hidden (show Below w.heap.size w w2 from by
          have h1 := (hA3.trans hs2).below (B := w.heap.size) (fun _ h => h.elim) hb.out.size
          exact hb.out.trans h1)
        have HIN := hidden (fun e he => (HO.out.on (hA3.trans hs2) id).each e he)
        have HALL := hidden (fun l hl => (HO.out.on (hA3.trans hs2) id).all l hl)
        have HB3 := hidden (And.intro hb3 (And.intro hn1 (And.intro hn2 hna)))
        clear ho hA3 hm3 hR2 hg2 hz2 hs2 hbl hn1 hn2
        go_wp2_with fail
        rw [← hb3]
        clear hrg hb3 hlen
        obtain ⟨mb, hmb⟩ : ∃ mb, (S.data.toList[i]?.getD 0).toNat = mb := ⟨_, rfl⟩
        rw [hmb] at HBW
        have HMB := hidden hmb
        have hmb256 : mb < 256 := by rw [← hmb]; exact UInt8.toNat_lt _
        have HSI := hidden (show (S[i]'hlt).toNat = mb from by rw [← hmb, List.getElem?_eq_getElem (show i < S.data.toList.length from hlt)]; rfl)
        clear hmb
        generalize wr = wv at *
        go_loopg [9] mo.length (fun k _ wz => ∃ come, come.length + k = mo.length ∧ Hid (BW w2 wz r b1 b2 b3 bn (b3 + 1) mo come (leftC w2 mb come)))
        case atStart => exact ⟨[], by simp, HBW⟩
        case round =>
          obtain ⟨come, hck, hbw⟩ := hrel
          clear HBW
          go_wp2_with (at_next; refine wpList_next _ rfl _ rfl bn (b3 + 1) mo come rfl hbw.out.rng ?_ ?_)
          · intro hdone
            go_wp2_with fail
            have HF := hidden (show OutAt wr b3 (fun l => l ∈ leftT t ((S.data.toList.map UInt8.toNat).take (i + 1))) ∧ RunAt wr r b1 b2 ∧ Below w.heap.size w wr from by
              have hsub : ∀ p ∈ come, p ∈ mo := by obtain ⟨_, _, _, _, _, _, _, _, _, _, _, _, _, _, _, h⟩ := hbw.out.rng; exact h
              refine ⟨hbw.out.out.iff fun l => ?_, hbw.out.run, HBL.out.trans (hbw.out.st.below (fun k hk => ?_) HBL.out.size)⟩
              · rw [take_byte (show i < S.data.toList.length from hlt), HMB.out]
                exact leftC_all HIN.out HALL.out (fun p => hdone p.1 p.2) hsub l
              · have e1 := HA.out
                have e2 := HB3.out.1
                have e3 := hb.out.size
                rcases hk with (h | h | h) | h <;> omega)
            have hn31 := HAP.out.o1
            have hn32 := HAP.out.o2
            have hn33 : w.heap.size ≤ b3 := by have e2 := HB3.out.1; have e3 := hb.out.size; omega
            go_roundg (S.size - (i + 1))
            case measure => omega
            case rel => exact ⟨i + 1, b3, by go_num, rfl, by omega, hn31, hn32, hn33, HF.out.1, HF.out.2.1, HF.out.2.2⟩
          · intro pk pv wx hp hpn hrx hgx hsx hex
            have hfew := hbw.out.rng.fewer hp hpn
            obtain ⟨a0, l0, kk, e0, hq0, hl0⟩ := HIN.out _ hp
            simp only [Prod.mk.injEq] at e0
            obtain ⟨rfl, rfl⟩ := e0
            have HW0 := hidden (hbw.out.next HAP.out hrx hgx)
            have HQ0 := hidden hq0
            clear hrx hgx hsx hp hpn hl0 hq0
            go_wp2_with fail
            clear hex
            generalize wr = wu at *
            go_loopg [9] l0.length (fun k vx wz => ∃ (a : Option Addr) (lk : List Tr) (D : List Tr → Prop), vx = .pointer a ∧ lk.length ≤ k ∧ Hid (IsRest w2 a lk) ∧ Hid (∀ l, l ∈ stepT l0 mb ↔ D l ∨ l ∈ stepT lk mb) ∧ Hid (BW w2 wz r b1 b2 b3 bn (b3 + 1) mo (come ++ [(.pointer a0, .int .i64 kk)]) (fun l => leftC w2 mb come l ∨ D l)))
            case atStart => exact ⟨a0, l0, fun _ => False, rfl, Nat.le_refl _, HQ0, hidden (fun l => by simp), hidden (HW0.out.iff fun l => by simp)⟩
            case round =>
              obtain ⟨ak, lk, D, rfl, hlk, hqk, hD, hbk⟩ := hrel
              cases lk with
              | nil =>
                have hn : ak = none := hqk.out
                subst hn
                have HF := hidden (hbk.out.iff (R := leftC w2 mb (come ++ [(.pointer a0, .int .i64 kk)])) fun l => by rw [leftC_more HQ0.out l, hD.out l]; simp [stepT])
                go_wp2_with fail
                go_roundg (mo.length - (come.length + 1))
                case measure => omega
                case rel => exact ⟨_, by simp; omega, HF⟩
              | cons tk lk =>
                obtain ⟨gk1, nk, qk, rfl, hwk, htk, hnk⟩ := hqk.out
                have HBK := hidden hbk.out
                have c0 := (hbk.out.st.cells _ _ _ hwk).cell 0
                have HC := hidden (fun W (hW : ∀ g t cs, Whole1 wr g t cs → Whole1 W g t cs) => (⟨(hW _ _ _ (hbk.out.st.cells _ _ _ hwk)).cell 0, (hW _ _ _ (hbk.out.st.cells _ _ _ hwk)).cell 1⟩ : W.cell? ⟨gk1, 0, none⟩ = some (.pointer (some ⟨nk, 0, none⟩)) ∧ W.cell? ⟨gk1, 1, none⟩ = some (.pointer qk)))
                have hdr : Stays (Bs b1 b2 b3) wr wr.drew := (Stays.refl _ _).drewN 1
                have S1 := hidden (der_any tk r b1 b2 b3 nk qk lk mb _ wr.drew hmb256 (HBK.out.der HAP.out (HBK.out.run.on ((Stays.refl (fun _ => False) wr).drewN 1) id id) (HBK.out.out.on ((Stays.refl (fun _ => False) wr).drewN 1) id) hdr).run (isTr_on (fun _ _ _ h => hdr.cells _ _ _ (HBK.out.st.cells _ _ _ h)) _ _ htk) (isRest_on (fun _ _ _ h => hdr.cells _ _ _ (HBK.out.st.cells _ _ _ h)) _ _ hnk) (HBK.out.out.on ((Stays.refl (fun _ => False) wr).drewN 1) id) HAP.out.o1 HAP.out.o2)
                go_upto_region 15 with (fail)
                go_region_held3 (fun W => W.cell? ⟨gk1, 0, none⟩ = some (.pointer (some ⟨nk, 0, none⟩)) ∧ W.cell? ⟨gk1, 1, none⟩ = some (.pointer qk))
                  (first | exact HC.out _ hdr.cells | exact HC.out _ (fun _ _ _ h => hsA.cells _ _ _ (hdr.cells _ _ _ h)))
                  (first | (go_at_call 177; rw [HSI.out]; refine S1.out.mono ?_; rintro e wA ⟨rfl, hrA, hoA, hsA⟩))
                all_goals (
                  have hBA := (HBK.out.der HAP.out (HBK.out.run.on ((Stays.refl (fun _ => False) wr).drewN 1) id id) (HBK.out.out.on ((Stays.refl (fun _ => False) wr).drewN 1) id) hdr).der HAP.out hrA hoA hsA
                  have S2 := hidden (null_any tk nk wA (isTr_on (fun _ _ _ h => hsA.cells _ _ _ (hdr.cells _ _ _ (HBK.out.st.cells _ _ _ h))) _ _ htk))
                  obtain ⟨d0, d1⟩ := HC.out wA (fun _ _ _ h => hsA.cells _ _ _ (hdr.cells _ _ _ h))
                  go_wp2_with fail
                  refine S2.out.mono ?_
                  rintro e wB ⟨rfl, rfl⟩
                  cases hnt : nulT tk with
                  | false =>
                    have HF := hidden (hBA.iff (R := leftC w2 mb (come ++ [(.pointer a0, .int .i64 kk)])) fun l => by rw [leftC_more HQ0.out l, hD.out l]; simp [stepT, hnt, or_assoc])
                    clear hnt hBA
                    go_wp2_with fail
                    go_roundg (mo.length - (come.length + 1))
                    case measure => omega
                    case rel => exact ⟨_, by simp; omega, HF⟩
                  | true =>
                    have HF := hidden (hBA.iff (R := fun l => leftC w2 mb come l ∨ (D l ∨ l ∈ derT tk lk mb)) fun l => by simp [or_assoc])
                    have hD2 := hidden (show ∀ l, l ∈ stepT l0 mb ↔ (D l ∨ l ∈ derT tk lk mb) ∨ l ∈ stepT lk mb from fun l => by rw [hD.out l]; simp [stepT, hnt, or_assoc])
                    have HNK := hidden hnk
                    have hlk2 : lk.length + 1 ≤ gk := by simpa using hlk
                    clear hnt hBA hnk hlk
                    go_wp2_with fail
                    go_roundg lk.length
                    case measure => omega
                    case rel => exact ⟨qk, lk, _, rfl, Nat.le_refl _, HNK, hD2, HF⟩)
    · have i1 : ¬ (i : Int) < (S.size : Int) := by omega
      obtain rfl : i = S.size := by omega
      have HF := hidden (show OutAt wr bn (fun l => l ∈ leftT t (S.data.toList.map UInt8.toNat)) from ⟨mo, HO.out.iff fun l => by rw [List.take_of_length_le (by rw [List.length_map]; exact Nat.le_of_eq (show S.data.toList.length = S.size from rfl))]⟩)
      clear ho
      go_wp2_with fail
      go_ret
      exact ⟨bn, rfl, HF.out, hb.out⟩
end Go.Proofs.YthncochjhbmceaaGreat
