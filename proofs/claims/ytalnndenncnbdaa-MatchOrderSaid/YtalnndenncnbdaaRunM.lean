/- A match under way, as it lies. No program is walked here. -/
import Derived.Test.YtalnndenncnbdaaTrM
namespace Go.Proofs.Ytalnndenncnbdaa
set_option maxRecDepth 100000
open Go.RowKit

/-- rests and stars that were made -/
structure RunM (w : World) (r b1 b2 : Nat) (m1 m2 : List (Value × Value)) : Prop where
  blk : Whole1 w r 93 #[.map (some b1), .map (some b2)]
  ne : b1 ≠ b2
  map1 : MapV IsPair w b1 m1
  map2 : MapV IsPtr w b2 m2
  at1 : ∀ e ∈ m1, ∃ n q g, e = (.agg #[kid n, .pointer q], kid g) ∧ Whole1 w g 70 #[kid n, .pointer q] ∧ Laid w (some ⟨n, 0, none⟩) ∧ Laid w q
  at2 : ∀ e ∈ m2, ∃ p g x, e = (kid p, kid g) ∧ IsTr w p (.plus x) ∧ IsTr w g (.star x)
def RunAt (w : World) (r b1 b2 : Nat) : Prop := ∃ m1 m2, RunM w r b1 b2 m1 m2
/-- a map whose keys are just these rests -/
structure OutM (w : World) (b : Nat) (mo : List (Value × Value)) (Q : List Tr → Prop) : Prop where
  map : MapV IsPtr w b mo
  each : ∀ e ∈ mo, ∃ a l k, e = (.pointer a, .int .i64 k) ∧ IsRest w a l ∧ Q l
  all : ∀ l, Q l → ∃ a k, (Value.pointer a, Value.int .i64 k) ∈ mo ∧ IsRest w a l
def OutAt (w : World) (b : Nat) (Q : List Tr → Prop) : Prop := ∃ mo, OutM w b mo Q
section
variable {w w' : World} {r b b1 b2 : Nat} {m1 m2 mo : List (Value × Value)} {F : Nat → Prop} {Q : List Tr → Prop}
theorem RunM.on (h : RunM w r b1 b2 m1 m2) (k : Stays F w w') (h1 : ¬ F b1) (h2 : ¬ F b2) : RunM w' r b1 b2 m1 m2 :=
  ⟨k.cells _ _ _ h.blk, h.ne, k.mapV h.map1 h1, k.mapV h.map2 h2, fun e he => by
    obtain ⟨n, q, g, e1, e2, e3, e4⟩ := h.at1 e he
    exact ⟨n, q, g, e1, k.cells _ _ _ e2, laid_on e3 k.cells, laid_on e4 k.cells⟩, fun e he => by
    obtain ⟨p, g, x, e1, e2, e3⟩ := h.at2 e he
    exact ⟨p, g, x, e1, isTr_on k.cells _ _ e2, isTr_on k.cells _ _ e3⟩⟩
theorem RunAt.on (h : RunAt w r b1 b2) (k : Stays F w w') (h1 : ¬ F b1) (h2 : ¬ F b2) : RunAt w' r b1 b2 := by
  obtain ⟨m1, m2, h⟩ := h
  exact ⟨m1, m2, h.on k h1 h2⟩
theorem OutM.on (h : OutM w b mo Q) (k : Stays F w w') (h1 : ¬ F b) : OutM w' b mo Q :=
  ⟨k.mapV h.map h1, fun e he => by
    obtain ⟨a, l, n, e1, e2, e3⟩ := h.each e he
    exact ⟨a, l, n, e1, isRest_on k.cells _ _ e2, e3⟩, fun l hl => by
    obtain ⟨a, n, e1, e2⟩ := h.all l hl
    exact ⟨a, n, e1, isRest_on k.cells _ _ e2⟩⟩
theorem OutAt.on (h : OutAt w b Q) (k : Stays F w w') (h1 : ¬ F b) : OutAt w' b Q := by
  obtain ⟨mo, h⟩ := h
  exact ⟨mo, h.on k h1⟩
theorem OutM.iff {R : List Tr → Prop} (h : OutM w b mo Q) (k : ∀ l, Q l ↔ R l) : OutM w b mo R :=
  ⟨h.map, fun e he => by
    obtain ⟨a, l, n, e1, e2, e3⟩ := h.each e he
    exact ⟨a, l, n, e1, e2, (k l).1 e3⟩, fun l hl => h.all l ((k l).2 hl)⟩
theorem OutAt.iff {R : List Tr → Prop} (h : OutAt w b Q) (k : ∀ l, Q l ↔ R l) : OutAt w b R := by
  obtain ⟨mo, h⟩ := h
  exact ⟨mo, h.iff k⟩
theorem OutM.keys (h : OutM w b mo Q) : ∀ p ∈ mo, PtrKey w p.1 := fun p hp => by
  obtain ⟨a, l, n, rfl, e2, _⟩ := h.each p hp
  exact ⟨a, rfl, laid_rest e2⟩
theorem RunM.keys1 (h : RunM w r b1 b2 m1 m2) : ∀ p ∈ m1, PairKey w p.1 := fun p hp => by
  obtain ⟨n, q, g, rfl, _, e2, e3⟩ := h.at1 p hp
  exact ⟨_, q, rfl, e2, e3⟩
theorem RunM.keys2 (h : RunM w r b1 b2 m1 m2) : ∀ p ∈ m2, PtrKey w p.1 := fun p hp => by
  obtain ⟨n, g, x, rfl, e2, _⟩ := h.at2 p hp
  exact ⟨_, rfl, laid_tr e2⟩
/-- a rest more: it was counted -/
theorem OutM.count {mo' : List (Value × Value)} {a : Option Addr} {l : List Tr} {k : Int} (h : OutM w b mo Q) (ha : IsRest w a l) (hst : MapV IsPtr w' b (putV mo (.pointer a) (.int .i64 k))) (hs : Stays F w w') (hmo : mo' = putV mo (.pointer a) (.int .i64 k)) :
    OutM w' b mo' (fun x => Q x ∨ x = l) := by
  subst hmo
  refine ⟨hst, fun e he => ?_, fun x hx => ?_⟩
  · rcases putV_keys _ _ _ e he with rfl | ⟨h1, _⟩ | h1
    · exact ⟨a, l, k, rfl, isRest_on hs.cells _ _ ha, .inr rfl⟩
    · obtain ⟨a1, l1, n1, e1, e2, e3⟩ := h.each e h1
      exact ⟨a1, l1, n1, e1, isRest_on hs.cells _ _ e2, .inl e3⟩
    · obtain ⟨a1, l1, n1, e1, e2, e3⟩ := h.each e h1
      exact ⟨a1, l1, n1, e1, isRest_on hs.cells _ _ e2, .inl e3⟩
  · have hput : (Value.pointer a, Value.int .i64 k) ∈ putV mo (.pointer a) (.int .i64 k) := atV_mem _ _ _ (atV_put_same mo _ _)
    rcases hx with hx | rfl
    · obtain ⟨a1, n1, e1, e2⟩ := h.all x hx
      by_cases e : a1 = a
      · subst e
        exact ⟨a1, k, hput, isRest_on hs.cells _ _ e2⟩
      · refine ⟨a1, n1, atV_mem _ _ _ ?_, isRest_on hs.cells _ _ e2⟩
        rw [atV_put_other _ _ _ (by simpa using e)]
        exact atV_of_mem _ h.map.nodup _ _ e1
    · exact ⟨a, k, hput, isRest_on hs.cells _ _ ha⟩
end
end Go.Proofs.Ytalnndenncnbdaa
