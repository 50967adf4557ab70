/- deriv.Nullable and a set's Has, walked. No condition. -/
import Derived.Test.YtalnndenncnbdaaRunM
import Derived.Sort.Walk7
namespace Go.Proofs.Ytalnndenncnbdaa
set_option maxRecDepth 100000
open Go.RowKit

theorem kids1 {w : World} {p p1 : Nat} {k : Int} (h : Node1 w p k p1) : ∃ q c, w.cell? ⟨p, 0, none⟩ = some (.int .i64 k) ∧ w.cell? ⟨p, 5, none⟩ = some (.slice (some ⟨q, 0, none⟩) 1 c) ∧ w.cell? ⟨q, 0, none⟩ = some (kid p1) := by
  obtain ⟨q, c, h1, h2⟩ := h
  exact ⟨q, c, Whole1.cell h1 0, Whole1.cell h1 5, h2.cell 0⟩
theorem kids2 {w : World} {p p1 p2 : Nat} {k : Int} (h : Node2 w p k p1 p2) : ∃ q c, w.cell? ⟨p, 0, none⟩ = some (.int .i64 k) ∧ w.cell? ⟨p, 5, none⟩ = some (.slice (some ⟨q, 0, none⟩) 2 c) ∧ w.cell? ⟨q, 0, none⟩ = some (kid p1) ∧ w.cell? ⟨q, 1, none⟩ = some (kid p2) := by
  obtain ⟨q, c, h1, h2⟩ := h
  exact ⟨q, c, Whole1.cell h1 0, Whole1.cell h1 5, h2.cell 0, h2.cell 1⟩
theorem kind_cell {w : World} {t : Tr} {p : Nat} (h : IsTr w p t) : w.cell? ⟨p, 0, none⟩ = some (.int .i64 (kindT t)) := by
  obtain ⟨S, v, h⟩ := isTr_kind h
  exact Whole1.cell h 0

set_option maxHeartbeats 3200000 in
theorem null_any : ∀ (t : Tr) (p : Nat) (w : World), IsTr w p t →
    Calls Try.prog 31 #[.pointer (some ⟨p, 0, none⟩)] w fun e w' => e = .returned (.bool (nulT t)) ∧ w' = w := by
  intro t
  induction t with
  | emp =>
    intro p w h
    have c0 := kind_cell h
    simp only [kindT] at c0
    clear h
    go_enter Try.func31, Try.ntmps31
    go_wp2_with fail
    go_ret
    exact ⟨rfl, rfl⟩
  | cls a b c d =>
    intro p w h
    have c0 := kind_cell h
    simp only [kindT] at c0
    clear h
    go_enter Try.func31, Try.ntmps31
    go_wp2_with fail
    go_ret
    exact ⟨rfl, rfl⟩
  | star x _ =>
    intro p w h
    have c0 := kind_cell h
    simp only [kindT] at c0
    clear h
    go_enter Try.func31, Try.ntmps31
    go_wp2_with fail
    go_ret
    exact ⟨rfl, rfl⟩
  | quest x _ =>
    intro p w h
    have c0 := kind_cell h
    simp only [kindT] at c0
    clear h
    go_enter Try.func31, Try.ntmps31
    go_wp2_with fail
    go_ret
    exact ⟨rfl, rfl⟩
  | plus x ihx =>
    intro p w h
    obtain ⟨p1, h, hx⟩ := h
    obtain ⟨q, c, c0, c1, c2⟩ := kids1 h
    unfold kid at c2
    have S1 := hidden (ihx p1 w hx)
    clear h hx ihx
    have e1 : nulT (.plus x) = nulT x := rfl
    rw [e1]
    clear e1
    generalize nulT x = bx at *
    go_enter Try.func31, Try.ntmps31
    go_wp2_with fail
    refine S1.out.mono ?_
    rintro e w1 ⟨rfl, rfl⟩
    go_wp2_with fail
    go_ret
    exact ⟨rfl, rfl⟩
  | cat x y ihx ihy =>
    intro p w h
    obtain ⟨p1, p2, h, hx, hy⟩ := h
    obtain ⟨q, c, c0, c1, c2, c3⟩ := kids2 h
    unfold kid at c2 c3
    have S1 := hidden (ihx p1 w hx)
    have S2 := hidden (ihy p2 w hy)
    clear h hx hy ihx ihy
    have e1 : nulT (.cat x y) = (nulT x && nulT y) := rfl
    rw [e1]
    clear e1
    generalize nulT x = bx at *
    generalize nulT y = b2 at *
    go_enter Try.func31, Try.ntmps31
    go_wp2_with fail
    refine S1.out.mono ?_
    rintro e w1 ⟨rfl, rfl⟩
    cases bx
    · go_wp2_with fail
      go_ret
      exact ⟨rfl, rfl⟩
    · go_wp2_with fail
      refine S2.out.mono ?_
      rintro e w2 ⟨rfl, rfl⟩
      go_wp2_with fail
      go_ret
      exact ⟨rfl, rfl⟩
  | alt x y ihx ihy =>
    intro p w h
    obtain ⟨p1, p2, h, hx, hy⟩ := h
    obtain ⟨q, c, c0, c1, c2, c3⟩ := kids2 h
    unfold kid at c2 c3
    have S1 := hidden (ihx p1 w hx)
    have S2 := hidden (ihy p2 w hy)
    clear h hx hy ihx ihy
    have e1 : nulT (.alt x y) = (nulT x || nulT y) := rfl
    rw [e1]
    clear e1
    generalize nulT x = bx at *
    generalize nulT y = b2 at *
    go_enter Try.func31, Try.ntmps31
    go_wp2_with fail
    refine S1.out.mono ?_
    rintro e w1 ⟨rfl, rfl⟩
    cases bx
    · go_wp2_with fail
      refine S2.out.mono ?_
      rintro e w2 ⟨rfl, rfl⟩
      go_wp2_with fail
      go_ret
      exact ⟨rfl, rfl⟩
    · go_wp2_with fail
      go_ret
      exact ⟨rfl, rfl⟩

/-- the number of a set that tells of this byte -/
def partB (a b c d q : Nat) : Nat := if q = 0 then a else if q = 1 then b else if q = 2 then c else d
theorem part_cell {w : World} {p : Nat} {T : TypeId} {a b c d : Nat} (h : Whole1 w p T #[.int .u64 (a : Int), .int .u64 (b : Int), .int .u64 (c : Int), .int .u64 (d : Int)]) {q : Nat} (hq : q < 4) : w.cell? ⟨p, q, none⟩ = some (.int .u64 (partB a b c d q : Nat)) := by
  have h0 := h.cell 0
  have h1 := h.cell 1
  have h2 := h.cell 2
  have h3 := h.cell 3
  have : q = 0 ∨ q = 1 ∨ q = 2 ∨ q = 3 := by omega
  rcases this with rfl | rfl | rfl | rfl
  · exact h0
  · exact h1
  · exact h2
  · exact h3

set_option maxHeartbeats 1600000 in
/-- has a set this byte? -/
theorem has_any (a b c d : Nat) (n : Nat) (w : World) (hn : n < 256) (hf : fitB a b c d) :
    Calls Try.prog 59 #[.agg #[.int .u64 (a : Int), .int .u64 (b : Int), .int .u64 (c : Int), .int .u64 (d : Int)], .int .u8 (n : Int)] w fun e w' => e = .returned (.bool (hasB a b c d n)) ∧ Below w.heap.size w w' := by
  have c0 := part_cell (Whole1.new w 98 #[.int .u64 (a : Int), .int .u64 (b : Int), .int .u64 (c : Int), .int .u64 (d : Int)]) (q := n / 64) (by omega)
  have eB : hasB a b c d n = (partB a b c d (n / 64)).testBit (n % 64) := rfl
  rw [eB]
  have q1 : ((n / 64 : Nat) : Int) = (n : Int) / 64 := by omega
  have q2 : ((n % 64 : Nat) : Int) = (n : Int) % 64 := by omega
  have q3 : (n : Int) / 64 < 4 := by omega
  have q4 : n / 64 < 4 := by omega
  have hx : partB a b c d (n / 64) < 18446744073709551616 := by
    unfold partB
    obtain ⟨f1, f2, f3, f4⟩ := hf
    split
    · exact f1
    · split
      · exact f2
      · split
        · exact f3
        · exact f4
  clear eB
  generalize partB a b c d (n / 64) = x at *
  have eX : (bits BinOp.and IntKind.u64 ((x : Int) / 2 ^ (n % 64)) 1 == 1) = x.testBit (n % 64) := by
    have e1 : (x : Int) / 2 ^ (n % 64) = ((x / 2 ^ (n % 64) : Nat) : Int) := by simp
    have h1 : x / 2 ^ (n % 64) < 18446744073709551616 := Nat.lt_of_le_of_lt (Nat.div_le_self _ _) hx
    have := bits_and_u64_nat (x / 2 ^ (n % 64)) 1 h1 (by decide)
    rw [e1, show (1 : Int) = ((1 : Nat) : Int) from rfl, this, Nat.and_one_is_mod, Nat.testBit_eq_decide_div_mod_eq]
    have : (((x / 2 ^ (n % 64) % 2 : Nat) : Int) == ((1 : Nat) : Int)) = decide (x / 2 ^ (n % 64) % 2 = 1) := by
      rw [Bool.eq_iff_iff, beq_iff_eq, decide_eq_true_iff]
      omega
    exact this
  have HX := hidden eX
  clear eX
  go_enter Try.func59, Try.ntmps59
  go_wp2_with fail
  rw [HX.out]
  go_ret
  exact ⟨rfl, (Below.refl _ _).alloc (Nat.le_refl _) _⟩
end Go.Proofs.Ytalnndenncnbdaa
