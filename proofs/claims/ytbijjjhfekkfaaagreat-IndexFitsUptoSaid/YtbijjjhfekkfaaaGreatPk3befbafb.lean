/- What the laws of cursors call: each as it tells of plain lists. Condition: the rows are within the reach. -/
import Derived.Test.YtbijjjhfekkfaaaGreatPke84c8bde
namespace Go.Proofs.YtbijjjhfekkfaaaGreat
set_option maxRecDepth 100000
open Go.RowKit Go.Shelf

structure IntF (w : World) (A : Option Addr) (n : Nat) (l : List Int) : Prop where
  row : Row w w.heap.size 1 A n (l.map (Value.int .i64))
  len : l.length = n
  fit : n * 8 ≤ 140737488351232
  ints : ∀ x ∈ l, inI x
theorem IntF.on {w w' : World} {A : Option Addr} {n : Nat} {l : List Int} (h : IntF w A n l) (hb : Below w.heap.size w w') : IntF w' A n l := ⟨(h.row.below hb).more hb.size, h.len, h.fit, h.ints⟩
/-- a cursor that was made behind the world ws -/
def FC (ws w : World) (p : Value) (E : List Int) (F : Nat → Prop) : Prop := IsCur w p E F ∧ (∀ k, F k → ws.heap.size ≤ k) ∧ Below ws.heap.size ws w
def FCR (ws : World) (Q : List Int → Prop) (e : Ending) (w' : World) : Prop := ∃ a E F, e = .returned (.pointer a) ∧ FC ws w' (.pointer a) E F ∧ Q E
theorem fcr_new {ws w : World} {G : Nat → Prop} {Q : List Int → Prop} {e : Ending} {w' : World} (h : NewCur w G Q e w') (hG : ∀ k, G k → ws.heap.size ≤ k) (hb : Below ws.heap.size ws w) : FCR ws Q e w' := by
  obtain ⟨p, E, F, rfl, h1, h2, h3, h4⟩ := h
  obtain ⟨a, rfl⟩ := isCur_ptr h1
  refine ⟨a, E, F, rfl, ⟨h1, fun k hk => ?_, hb.trans (h4.mono hb.size)⟩, h2⟩
  rcases h3 k hk with h | h
  · have := hb.size; omega
  · exact hG k h

/-- post.Of at a list that came in -/
theorem ofF (A : Option Addr) (n c : Nat) (l : List Int) (w : World) (h : IntF w A n l) :
    Calls Tryz.prog 157 #[.slice A n c] w (FCR w fun E => (∀ x, x ∈ E ↔ x ∈ l) ∧ E.length ≤ n) :=
  (of_any A n c l w h.row h.fit h.ints).mono fun _ _ k => fcr_new k (fun _ h => h.elim) (Below.refl _ _)
/-- two cursors handed over -/
theorem pair_row {ws w1 w2 : World} {a1 a2 : Option Addr} {E1 E2 : List Int} {F1 F2 : Nat → Prop} (h1 : FC ws w1 (.pointer a1) E1 F1) (h2 : FC w1 w2 (.pointer a2) E2 F2) :
    KidRow (w2.alloc (.cells #[.pointer a1, .pointer a2] 183)) (some ⟨w2.heap.size, 0, none⟩) 2 [⟨.pointer a1, E1, F1⟩, ⟨.pointer a2, E2, F2⟩] ∧
    (∀ k, gOf [⟨.pointer a1, E1, F1⟩, ⟨.pointer a2, E2, F2⟩] k → ws.heap.size ≤ k) ∧ Below ws.heap.size ws (w2.alloc (.cells #[.pointer a1, .pointer a2] 183)) := by
  obtain ⟨c1, f1, b1⟩ := h1
  obtain ⟨c2, f2, b2⟩ := h2
  have hb3 : Below w2.heap.size w2 (w2.alloc (.cells #[.pointer a1, .pointer a2] 183)) := (Below.refl _ _).alloc (Nat.le_refl _) _
  have hap : ∀ k, F1 k → ¬ F2 k := fun k a b => by
    have := isCur_old _ _ _ _ c1 k a
    have := f2 k b
    omega
  refine ⟨⟨(Row.fresh w2 183 1 2 [.pointer a1, .pointer a2] rfl).more (by simp), rfl, by decide, ?_, by simp; exact hap⟩, fun k ⟨x, hx, hk⟩ => ?_, b1.trans ((b2.trans (hb3.mono b2.size)).mono b1.size)⟩
  · simp only [List.mem_cons, List.not_mem_nil, or_false, forall_eq_or_imp, forall_eq]
    exact ⟨isCur_on (isCur_on c1 b2) hb3, isCur_on c2 hb3⟩
  · simp only [List.mem_cons, List.not_mem_nil, or_false] at hx
    rcases hx with rfl | rfl
    · exact f1 k hk
    · have := f2 k hk
      have := b1.size
      omega
section
variable {ws w1 w2 : World} {a1 a2 : Option Addr} {E1 E2 : List Int} {F1 F2 : Nat → Prop} (h1 : FC ws w1 (.pointer a1) E1 F1) (h2 : FC w1 w2 (.pointer a2) E2 F2)
include h1 h2
theorem andF : Calls Tryz.prog 87 #[.slice (some ⟨w2.heap.size, 0, none⟩) 2 2] (w2.alloc (.cells #[.pointer a1, .pointer a2] 183)) (FCR ws fun E => ∀ x, x ∈ E ↔ x ∈ E1 ∧ x ∈ E2) := by
  obtain ⟨k1, k2, k3⟩ := pair_row h1 h2
  refine (and_any _ 2 2 _ _ k1).mono fun e w' k => ?_
  obtain ⟨a, E, F, r1, r2, r3⟩ := fcr_new k k2 k3
  exact ⟨a, E, F, r1, r2, fun x => by rw [r3 x]; simp⟩
theorem orF : Calls Tryz.prog 159 #[.slice (some ⟨w2.heap.size, 0, none⟩) 2 2] (w2.alloc (.cells #[.pointer a1, .pointer a2] 183)) (FCR ws fun E => ∀ x, x ∈ E ↔ x ∈ E1 ∨ x ∈ E2) := by
  obtain ⟨k1, k2, k3⟩ := pair_row h1 h2
  refine (or_any _ 2 2 _ _ k1).mono fun e w' k => ?_
  obtain ⟨a, E, F, r1, r2, r3⟩ := fcr_new k k2 k3
  exact ⟨a, E, F, r1, r2, fun x => by rw [r3 x]; simp⟩
theorem withoutF : Calls Tryz.prog 158 #[.pointer a1, .pointer a2] w2 (FCR ws fun E => ∀ x, x ∈ E ↔ x ∈ E1 ∧ x ∉ E2) := by
  obtain ⟨c1, f1, b1⟩ := h1
  obtain ⟨c2, f2, b2⟩ := h2
  have hs := b1.size
  refine (without_any ⟨.pointer a1, E1, F1⟩ ⟨.pointer a2, E2, F2⟩ w2 (isCur_on c1 b2) c2 fun k ⟨a, b⟩ => ?_).mono fun e w' k => fcr_new k (fun k hk => ?_) (b1.trans (b2.mono hs))
  · have := isCur_old _ _ _ _ c1 k a
    have := f2 k b
    omega
  · rcases hk with h | h
    · exact f1 k h
    · have := f2 k h; omega
end
/-- all that is left -/
theorem restF {ws w : World} {a : Option Addr} {E : List Int} {F : Nat → Prop} (h : FC ws w (.pointer a) E F) (hl : E.length * 8 ≤ 140737488351232) :
    Calls Tryz.prog 88 #[.pointer a] w fun e w' => ∃ A c, e = .returned (.slice A E.length c) ∧ IntF w' A E.length E ∧ Below ws.heap.size ws w' := by
  obtain ⟨h1, h2, h3⟩ := h
  have hI := (isCur_rise _ _ _ _ h1).2
  refine (rest_cur _ E F w h1 (by omega)).mono ?_
  rintro e w' ⟨v, rfl, ho, _, hk⟩
  obtain ⟨A, c, rfl, _, hr⟩ := own_shape ho
  exact ⟨A, c, rfl, ⟨hr, rfl, hl, hI⟩, h3.trans (hk.below h2 h3.size)⟩
theorem FC.rising {ws w : World} {p : Value} {E : List Int} {F : Nat → Prop} (h : FC ws w p E F) : rising E := (isCur_rise _ _ _ _ h.1).1
theorem rising_nodup {E : List Int} (h : rising E) : E.Nodup := h.imp fun h => by omega
/-- a rising list among so many elements is no longer -/
theorem rising_le {E l : List Int} (h : rising E) (hm : ∀ x ∈ E, x ∈ l) : E.length ≤ l.length := by
  induction E generalizing l with
  | nil => simp
  | cons e E ih =>
    obtain ⟨h1, h2⟩ := List.pairwise_cons.1 h
    obtain ⟨l1, l2, rfl⟩ := List.append_of_mem (hm e (by simp))
    have := ih (l := l1 ++ l2) h2 fun x hx => by
      have hx2 := hm x (by simp [hx])
      have hne := h1 x hx
      rcases List.mem_append.1 hx2 with hx2 | hx2
      · exact List.mem_append_left _ hx2
      · rcases List.mem_cons.1 hx2 with e | hx2
        · omega
        · exact List.mem_append_right _ hx2
    simp only [List.length_append, List.length_cons] at this ⊢
    omega
end Go.Proofs.YtbijjjhfekkfaaaGreat
