/- What the laws of cursors call: each as it tells of plain lists. Condition: the rows are within the reach. -/
import Derived.Test.YtnedgjdhpdejdaaPostWakes
namespace Go.Proofs.Ytnedgjdhpdejdaa
set_option maxRecDepth 100000
open Go.RowKit Go.Shelf

structure IntF (w : World) (A : Option Addr) (n : Nat) (l : List Int) : Prop where
  row : Row w w.heap.size 1 A n (l.map (Value.int .i64))
  len : l.length = n
  fit : n * 8 ≤ 140737488351232
  ints : ∀ x ∈ l, inI x
theorem IntF.on {w w' : World} {A : Option Addr} {n : Nat} {l : List Int} (h : IntF w A n l) (hb : Below w.heap.size w w') : IntF w' A n l := ⟨(h.row.below hb).more hb.size, h.len, h.fit, h.ints⟩
/-- a cursor that was made behind the world ws -/
def FC (ws w : World) (p : Value) (E : List Int) (F : Nat → Prop) : Prop := IsCur w p E F ∧ (∀ k, F k → ws.heap.size ≤ k) ∧ Below ws.heap.size ws w
def FCR (ws : World) (Q : List Int → Prop) (e : Ending) (w' : World) : Prop := ∃ a E F, e = .returned (.pointer a) ∧ FC ws w' (.pointer a) E F ∧ Q E
theorem fcr_new {ws w : World} {G : Nat → Prop} {Q : List Int → Prop} {e : Ending} {w' : World} (h : NewCur w G Q e w') (hG : ∀ k, G k → ws.heap.size ≤ k) (hb : Below ws.heap.size ws w) : FCR ws Q e w' := by
  obtain ⟨p, E, F, rfl, h1, h2, h3, h4⟩ := h
  obtain ⟨a, rfl⟩ := isCur_ptr h1
  refine ⟨a, E, F, rfl, ⟨h1, fun k hk => ?_, hb.trans (h4.mono hb.size)⟩, h2⟩
  rcases h3 k hk with h | h
  · have := hb.size; omega
  · exact hG k h

set_option maxHeartbeats 800000 in
theorem twinI_any (A : Option Addr) (n cap : Nat) (l : List Int) (w : World) (h : IntF w A n l) :
    Calls Try.prog 8 #[.slice A n cap] w fun e w' => ∃ A' c', e = .returned (.slice A' n c') ∧ IntF w' A' n l ∧ Below w.heap.size w w' := by
  obtain ⟨i0, hi, hz0, hz1, hz2⟩ := info_parts info_int
  have hfit := h.fit
  have hone : ∀ u ∈ l.map (Value.int .i64), u.oneCell' = true := fun u hu => by
    obtain ⟨x, _, rfl⟩ := List.mem_map.1 hu
    rfl
  go_enter Try.func8, Try.ntmps8
  go_wp2_with (at_builtin; refine wpList_app _ rfl _ _ 22 rfl w.heap.size 3 i0 _ 1 8 Try.underlying22 hi hz0 hz1 hz2 rfl (by decide) (.slice none 0 0) 0 [] rfl (World.ownsRow_nil _ _ _ _) w.heap.size A n cap _ rfl h.row hone (by unfold maxLen; omega) (by omega) (Nat.le_refl _) ?_; intro v1 w1 hown1 hg1 hat1)
  rw [Nat.zero_add, List.nil_append] at hown1
  obtain ⟨A1, c1, rfl, _, hr1⟩ := own_shape hown1
  go_ret
  exact ⟨A1, c1, rfl, ⟨hr1, h.len, h.fit, h.ints⟩, (Below.refl _ _).grown hg1 (Nat.le_refl _) (by simp [Value.ownBlock])⟩

set_option maxHeartbeats 1600000 in
theorem sameI_yes (A B : Option Addr) (n c1 c2 : Nat) (l : List Int) (w : World) (h1 : IntF w A n l) (h2 : IntF w B n l) :
    Calls Try.prog 12 #[.slice A n c1, .slice B n c2] w fun e w' => e = .returned (.bool true) ∧ Below w.heap.size w w' := by
  have H1 := hidden h1
  have H2 := hidden h2
  have hfit := h1.fit
  have hnn : ((n : Int) != (n : Int)) = false := by simp
  clear h1 h2
  go_enter Try.func12, Try.ntmps12
  go_wp2_with fail
  go_loopw [13] (fun i wr => ∃ q : Nat, q ≤ n ∧ i = .int .i64 q ∧ (∃ m, wr = w.drewN m)) (fun i _ => n - (intOf i).toNat)
  case atStart => exact ⟨0, Nat.zero_le _, rfl, 0, rfl⟩
  case round =>
    obtain ⟨q, hq1, rfl, m, rfl⟩ := hrel
    by_cases hlt : q < n
    · obtain ⟨gs, o, rfl, _, hc⟩ := ints_at H1.out.row (by omega)
      obtain ⟨gt, p, rfl, _, hd⟩ := ints_at H2.out.row (by omega)
      have c0 : w.cell? ⟨gs, o + q, none⟩ = some (.int .i64 (l.getD q 0)) := hc q (by have := H1.out.len; omega)
      have d0 : w.cell? ⟨gt, p + q, none⟩ = some (.int .i64 (l.getD q 0)) := hd q (by have := H1.out.len; omega)
      have q1 : (q : Int) < (n : Int) := by omega
      have q0 : (0 : Int) ≤ (q : Int) := by omega
      clear hc hd
      generalize l.getD q 0 = x at c0 d0
      have hxx : (x != x) = false := by simp
      go_wp2_with fail
      go_quiet (fail)
      go_wp2_with fail
      go_roundw
      case rel => exact ⟨q + 1, by omega, by go_num, m + nq, rfl⟩
      case measure => simp [intOf]; omega
    · have q1 : ¬ (q : Int) < (n : Int) := by omega
      go_wp2_with fail
      go_ret
      exact ⟨rfl, below_drewN (Below.refl _ _) m⟩

/-- post.Of at a list that came in -/
theorem ofF (A : Option Addr) (n c : Nat) (l : List Int) (w : World) (h : IntF w A n l) :
    Calls Try.prog 7 #[.slice A n c] w (FCR w fun E => (∀ x, x ∈ E ↔ x ∈ l) ∧ E.length ≤ n) :=
  (of_any A n c l w h.row h.fit h.ints).mono fun _ _ k => fcr_new k (fun _ h => h.elim) (Below.refl _ _)
/-- two cursors handed over -/
theorem pair_row {ws w1 w2 : World} {a1 a2 : Option Addr} {E1 E2 : List Int} {F1 F2 : Nat → Prop} (h1 : FC ws w1 (.pointer a1) E1 F1) (h2 : FC w1 w2 (.pointer a2) E2 F2) :
    KidRow (w2.alloc (.cells #[.pointer a1, .pointer a2] 24)) (some ⟨w2.heap.size, 0, none⟩) 2 [⟨.pointer a1, E1, F1⟩, ⟨.pointer a2, E2, F2⟩] ∧
    (∀ k, gOf [⟨.pointer a1, E1, F1⟩, ⟨.pointer a2, E2, F2⟩] k → ws.heap.size ≤ k) ∧ Below ws.heap.size ws (w2.alloc (.cells #[.pointer a1, .pointer a2] 24)) := by
  obtain ⟨c1, f1, b1⟩ := h1
  obtain ⟨c2, f2, b2⟩ := h2
  have hb3 : Below w2.heap.size w2 (w2.alloc (.cells #[.pointer a1, .pointer a2] 24)) := (Below.refl _ _).alloc (Nat.le_refl _) _
  have hap : ∀ k, F1 k → ¬ F2 k := fun k a b => by
    have := isCur_old _ _ _ _ c1 k a
    have := f2 k b
    omega
  refine ⟨⟨(Row.fresh w2 24 1 2 [.pointer a1, .pointer a2] rfl).more (by simp), rfl, by decide, ?_, by simp; exact hap⟩, fun k ⟨x, hx, hk⟩ => ?_, b1.trans ((b2.trans (hb3.mono b2.size)).mono b1.size)⟩
  · simp only [List.mem_cons, List.not_mem_nil, or_false, forall_eq_or_imp, forall_eq]
    exact ⟨isCur_on (isCur_on c1 b2) hb3, isCur_on c2 hb3⟩
  · simp only [List.mem_cons, List.not_mem_nil, or_false] at hx
    rcases hx with rfl | rfl
    · exact f1 k hk
    · have := f2 k hk
      have := b1.size
      omega
section
variable {ws w1 w2 : World} {a1 a2 : Option Addr} {E1 E2 : List Int} {F1 F2 : Nat → Prop} (h1 : FC ws w1 (.pointer a1) E1 F1) (h2 : FC w1 w2 (.pointer a2) E2 F2)
include h1 h2
theorem andF : Calls Try.prog 10 #[.slice (some ⟨w2.heap.size, 0, none⟩) 2 2] (w2.alloc (.cells #[.pointer a1, .pointer a2] 24)) (FCR ws fun E => ∀ x, x ∈ E ↔ x ∈ E1 ∧ x ∈ E2) := by
  obtain ⟨k1, k2, k3⟩ := pair_row h1 h2
  refine (and_any _ 2 2 _ _ k1).mono fun e w' k => ?_
  obtain ⟨a, E, F, r1, r2, r3⟩ := fcr_new k k2 k3
  exact ⟨a, E, F, r1, r2, fun x => by rw [r3 x]; simp⟩
theorem orF : Calls Try.prog 13 #[.slice (some ⟨w2.heap.size, 0, none⟩) 2 2] (w2.alloc (.cells #[.pointer a1, .pointer a2] 24)) (FCR ws fun E => ∀ x, x ∈ E ↔ x ∈ E1 ∨ x ∈ E2) := by
  obtain ⟨k1, k2, k3⟩ := pair_row h1 h2
  refine (or_any _ 2 2 _ _ k1).mono fun e w' k => ?_
  obtain ⟨a, E, F, r1, r2, r3⟩ := fcr_new k k2 k3
  exact ⟨a, E, F, r1, r2, fun x => by rw [r3 x]; simp⟩
theorem withoutF : Calls Try.prog 11 #[.pointer a1, .pointer a2] w2 (FCR ws fun E => ∀ x, x ∈ E ↔ x ∈ E1 ∧ x ∉ E2) := by
  obtain ⟨c1, f1, b1⟩ := h1
  obtain ⟨c2, f2, b2⟩ := h2
  have hs := b1.size
  refine (without_any ⟨.pointer a1, E1, F1⟩ ⟨.pointer a2, E2, F2⟩ w2 (isCur_on c1 b2) c2 fun k ⟨a, b⟩ => ?_).mono fun e w' k => fcr_new k (fun k hk => ?_) (b1.trans (b2.mono hs))
  · have := isCur_old _ _ _ _ c1 k a
    have := f2 k b
    omega
  · rcases hk with h | h
    · exact f1 k h
    · have := f2 k h; omega
end
/-- all that is left -/
theorem restF {ws w : World} {a : Option Addr} {E : List Int} {F : Nat → Prop} (h : FC ws w (.pointer a) E F) (hl : E.length * 8 ≤ 140737488351232) :
    Calls Try.prog 9 #[.pointer a] w fun e w' => ∃ A c, e = .returned (.slice A E.length c) ∧ IntF w' A E.length E ∧ Below ws.heap.size ws w' := by
  obtain ⟨h1, h2, h3⟩ := h
  have hI := (isCur_rise _ _ _ _ h1).2
  refine (rest_cur _ E F w h1 (by omega)).mono ?_
  rintro e w' ⟨v, rfl, ho, _, hk⟩
  obtain ⟨A, c, rfl, _, hr⟩ := own_shape ho
  exact ⟨A, c, rfl, ⟨hr, rfl, hl, hI⟩, h3.trans (hk.below h2 h3.size)⟩
theorem FC.rising {ws w : World} {p : Value} {E : List Int} {F : Nat → Prop} (h : FC ws w p E F) : rising E := (isCur_rise _ _ _ _ h.1).1
theorem rising_nodup {E : List Int} (h : rising E) : E.Nodup := h.imp fun h => by omega
/-- a rising list among so many elements is no longer -/
theorem rising_le {E l : List Int} (h : rising E) (hm : ∀ x ∈ E, x ∈ l) : E.length ≤ l.length := by
  induction E generalizing l with
  | nil => simp
  | cons e E ih =>
    obtain ⟨h1, h2⟩ := List.pairwise_cons.1 h
    obtain ⟨l1, l2, rfl⟩ := List.append_of_mem (hm e (by simp))
    have := ih (l := l1 ++ l2) h2 fun x hx => by
      have hx2 := hm x (by simp [hx])
      have hne := h1 x hx
      rcases List.mem_append.1 hx2 with hx2 | hx2
      · exact List.mem_append_left _ hx2
      · rcases List.mem_cons.1 hx2 with e | hx2
        · omega
        · exact List.mem_append_right _ hx2
    simp only [List.length_append, List.length_cons] at this ⊢
    omega
end Go.Proofs.Ytnedgjdhpdejdaa
