/- A loop over a map's entries, in whatever order. Condition: the map is not written while the loop is under way. -/
import Derived.Test.YtalnndenncnbdaaMapV
namespace Go.Proofs.Ytalnndenncnbdaa
open Go.MapKept Go.ChangeMaps

open Classical in
theorem len_sub {α : Type} : ∀ (l m : List α), l.Nodup → (∀ x ∈ l, x ∈ m) → l.length ≤ m.length
  | [], _, _, _ => by simp
  | x :: l, m, hn, h => by
    obtain ⟨h1, h2⟩ := List.nodup_cons.1 hn
    have hx := h x (by simp)
    have := len_sub l (m.erase x) h2 fun y hy => (List.mem_erase_of_ne (fun e => h1 (by rw [← e]; exact hy))).2 (h y (by simp [hy]))
    rw [List.length_erase_of_mem hx] at this
    have := List.length_pos_of_mem hx
    simp only [List.length_cons]
    omega
/-- a loop over the map in block b is under way, by the iterator in block r; these entries have come -/
def RangeV (S : Value → Prop) (w : World) (b r : Nat) (m come : List (Value × Value)) : Prop :=
  ∃ es clock since seen c0, w.heap[b]? = some (.map es clock) ∧ Stamped es clock ∧ es.toList.map (fun e => (e.key, e.val)) = m ∧ (∀ p ∈ m, S p.1) ∧
    w.heap[r]? = some (.mapIter (some b) since seen c0) ∧ (∀ x ∈ es.toList, x.born < since) ∧ since ≤ c0 ∧ since ≤ clock ∧
    (∀ x ∈ es.toList, (x.key, x.val) ∈ come ↔ seen.contains x.born = true) ∧ come.Nodup ∧ ∀ p ∈ come, p ∈ m

section
variable {P : Program} {S : Value → Prop} {w : World} {b r : Nat} {m come : List (Value × Value)}
theorem RangeV.map (h : RangeV S w b r m come) : MapV S w b m := by
  obtain ⟨es, clock, since, seen, c0, h1, h2, h3, h4, _⟩ := h
  exact ⟨⟨es, clock, h1, h2, h3⟩, h4⟩
theorem RangeV.ne (h : RangeV S w b r m come) : r ≠ b := by
  obtain ⟨es, clock, since, seen, c0, h1, h2, h3, h4, h5, _⟩ := h
  intro e
  rw [e, h1] at h5
  cases h5
theorem RangeV.lt (h : RangeV S w b r m come) : r < w.heap.size := by
  obtain ⟨es, clock, since, seen, c0, h1, h2, h3, h4, h5, _⟩ := h
  exact (Array.getElem?_eq_some_iff.1 h5).1
theorem RangeV.kept {w' : World} (h : RangeV S w b r m come) (hb : w'.heap[b]? = w.heap[b]?) (hr : w'.heap[r]? = w.heap[r]?) : RangeV S w' b r m come := by
  obtain ⟨es, clock, since, seen, c0, h1, h2, h3, h4, h5, rest⟩ := h
  exact ⟨es, clock, since, seen, c0, hb.trans h1, h2, h3, h4, hr.trans h5, rest⟩
theorem MapV.nodupV (h : MapV S w b m) : m.Nodup := by
  have := h.nodup
  rw [List.Nodup, List.pairwise_map] at this
  exact this.imp fun hne e => hne (by rw [e])
/-- how many are still to come goes down -/
theorem RangeV.fewer (h : RangeV S w b r m come) {p : Value × Value} (hp : p ∈ m) (hn : p ∉ come) : come.length < m.length := by
  obtain ⟨es, clock, since, seen, c0, _, _, _, _, _, _, _, _, _, hd, hs⟩ := h
  have : (p :: come).Nodup := List.nodup_cons.2 ⟨hn, hd⟩
  have := len_sub _ m this fun q hq => by
    rcases List.mem_cons.1 hq with e | hq
    · rw [e]; exact hp
    · exact hs q hq
  simp only [List.length_cons] at this
  omega
theorem MapV.range {k e t : TypeId} (h : MapV S w b m) (ht : P.underlying t = some (.map k e)) :
    ∃ w', (Instr.range t (.map (some b))).run P w = .ok (.pointer (some ⟨w.heap.size, 0, none⟩)) w' ∧ RangeV S w' b w.heap.size m [] ∧ w.grownBy w' none ∧ w'.heap.size = w.heap.size + 1 := by
  have hlt := h.lt
  obtain ⟨⟨es, clock, hb, hs, hm⟩, hS⟩ := h
  exact ⟨_, run_range_map w t k e b es clock ht hb, ⟨es, clock, clock, #[], clock, ((MapKept.heap_alloc w _).2 b hlt).trans hb, hs, hm, hS, (MapKept.heap_alloc w _).1, hs.1, Nat.le_refl _, Nat.le_refl _, by simp, by simp, by simp⟩, World.grownBy_alloc w _ none, by simp⟩
theorem RangeV.next (h : RangeV S w b r m come) (ty : TypeId) :
    ((∀ p ∈ m, p ∈ come) ∧ (Instr.next (.pointer (some ⟨r, 0, none⟩)) false ty).run P w = .ok (.tuple #[.bool false]) w) ∨
    ∃ p w', p ∈ m ∧ p ∉ come ∧ (Instr.next (.pointer (some ⟨r, 0, none⟩)) false ty).run P w = .ok (.tuple #[.bool true, p.1, p.2]) w' ∧ RangeV S w' b r m (come ++ [p]) ∧ w.grownBy w' (some r) ∧ w'.heap.size = w.heap.size ∧
      (Instr.entry (.pointer (some ⟨r, 0, none⟩))).run P w' = .ok (.tuple #[p.1, p.2]) w' := by
  have hne := h.ne
  obtain ⟨es, clock, since, seen, c0, hb, hs, rfl, hS, hr, hold, hsc, hsk, hcome, hd, hsub⟩ := h
  rcases run_next_at (P := P) w ty r b since c0 seen es clock hr hb hold hsc with ⟨h0, hrun⟩ | ⟨e, he, w1, hal, hrun⟩
  · refine .inl ⟨fun p hp => ?_, hrun⟩
    obtain ⟨x, hx, rfl⟩ := List.mem_map.1 hp
    exact (hcome x hx).2 (all_seen es seen h0 x hx)
  · obtain ⟨hem, hes⟩ := mem_left he
    have hr1 : w1.heap[r]? = some (.mapIter (some b) since seen c0) := by rcases hal with rfl | rfl <;> exact hr
    have hb1 : w1.heap[b]? = some (.map es clock) := by rcases hal with rfl | rfl <;> exact hb
    have hset := heap_set (o' := .mapIter (some b) since (seen.push e.born) clock) hr1
    have hb' : (setBlock w1 r (.mapIter (some b) since (seen.push e.born) clock)).heap[b]? = some (.map es clock) := (hset.2 b (fun e1 => hne e1.symm)).trans hb1
    have hnot : (e.key, e.val) ∉ come := fun hc => by
      rw [(hcome e hem).1 hc] at hes
      cases hes
    have hst := (stamped_iff es clock).1 hs
    refine .inr ⟨(e.key, e.val), _, List.mem_map.2 ⟨e, hem, rfl⟩, hnot, hrun,
      ⟨es, clock, since, seen.push e.born, clock, hb', hs, rfl, hS, hset.1, hold, hsk, hsk, fun x hx => ?_, ?_, fun p hp => ?_⟩, ?_, ?_,
      run_entry_at _ r b since seen es clock e hset.1 hb' hem hst.2.1⟩
    · rw [contains_push, List.mem_append, Bool.or_eq_true, ← hcome x hx]
      refine or_congr Iff.rfl ?_
      simp only [List.mem_singleton, Prod.mk.injEq, beq_iff_eq]
      constructor
      · rintro ⟨h1, _⟩
        exact congrArg MapEntry.born (entry_eq_of_key hst.2.2 hx hem h1)
      · intro h1
        obtain rfl := born_inj hst.2.1 hx hem h1
        exact ⟨rfl, rfl⟩
    · rw [List.nodup_append]
      refine ⟨hd, by simp, fun a ha c hc e1 => ?_⟩
      simp at hc
      rw [hc] at e1
      exact hnot (e1 ▸ ha)
    · rcases List.mem_append.1 hp with hp | hp
      · exact hsub p hp
      · simp at hp
        rw [hp]
        exact List.mem_map.2 ⟨e, hem, rfl⟩
    · rcases hal with rfl | rfl <;> exact ⟨rfl, rfl, rfl, by simp [setBlock], fun i _ hi => hset.2 i (fun e1 => hi (by rw [e1]))⟩
    · rcases hal with rfl | rfl <;> simp [setBlock]
end

/-! ### at the operation -/
section
variable {P : Program} (w : World) {ops : Array Oper} {rest : List Oper} {o : Oper} {a : Act} {Q : Exit → Act → World → Prop} {S : Value → Prop} {k e : TypeId}
theorem wpList_range (hg : o.guard = none) (mm : Operand) (t : TypeId) (hop : o.op = Op.range t mm) (ht : P.underlying t = some (.map k e)) (b : Nat) (m : List (Value × Value)) (hm : a.eval mm = .map (some b)) (h : MapV S w b m)
    (hK : ∀ w', RangeV S w' b w.heap.size m [] → w.grownBy w' none → w'.heap.size = w.heap.size + 1 → wpList P ops Q rest (a.put o.dst (.pointer (some ⟨w.heap.size, 0, none⟩))) w') :
    wpList P ops Q (o :: rest) a w := by
  refine wpList_plain hg fun K' hK' => ?_
  obtain ⟨w', hrun, r1, r2, r3⟩ := h.range (P := P) ht
  unfold Oper.wp
  simp [execOp, hop, hm, hrun, Result.andThen]
  exact hK' _ _ (hK w' r1 r2 r3)
theorem wpList_next (hg : o.guard = none) (it : Operand) (hop : o.op = Op.next it false) (b r : Nat) (m come : List (Value × Value)) (hit : a.eval it = .pointer (some ⟨r, 0, none⟩)) (h : RangeV S w b r m come)
    (hDone : (∀ p ∈ m, p ∈ come) → wpList P ops Q rest (a.put o.dst (.tuple #[.bool false])) w)
    (hMore : ∀ p w', p ∈ m → p ∉ come → RangeV S w' b r m (come ++ [p]) → w.grownBy w' (some r) → w'.heap.size = w.heap.size → (Instr.entry (.pointer (some ⟨r, 0, none⟩))).run P w' = .ok (.tuple #[p.1, p.2]) w' → wpList P ops Q rest (a.put o.dst (.tuple #[.bool true, p.1, p.2])) w') :
    wpList P ops Q (o :: rest) a w := by
  refine wpList_plain hg fun K' hK' => ?_
  unfold Oper.wp
  rcases h.next (P := P) o.type with ⟨hl, hrun⟩ | ⟨p, w', h1, h2, hrun, h3, h4, h5, h6⟩
  · simp [execOp, hop, hit, hrun, Result.andThen]
    exact hK' _ _ (hDone hl)
  · simp [execOp, hop, hit, hrun, Result.andThen]
    exact hK' _ _ (hMore p w' h1 h2 h3 h4 h5 h6)
end
end Go.Proofs.Ytalnndenncnbdaa
