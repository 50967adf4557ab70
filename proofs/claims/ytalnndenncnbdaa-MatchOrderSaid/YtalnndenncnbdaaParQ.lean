/- regex.Parse, walked: the tree of a pattern, or the error. Condition: the pattern is no longer than memory. -/
import Derived.Test.YtalnndenncnbdaaParL
namespace Go.Proofs.Ytalnndenncnbdaa
set_option maxRecDepth 100000
open Go.RowKit

section
variable {w w' : World}
/-- nodes stay, but for a pointer that is nil -/
def NodesOn2 (w w' : World) : Prop := ∀ g t cs, (t = 101 ∨ (t = 46 ∧ cs ≠ #[.pointer none])) → Whole1 w g t cs → Whole1 w' g t cs
theorem node1_on2 {p p1 : Nat} {k : Int} (h : Node1 w p k p1) (hs : NodesOn2 w w') : Node1 w' p k p1 := by
  obtain ⟨q, c, h1, h2⟩ := h
  exact ⟨q, c, hs _ _ _ (.inl rfl) h1, hs _ _ _ (.inr ⟨rfl, by simp [kid]⟩) h2⟩
theorem node2_on2 {p p1 p2 : Nat} {k : Int} (h : Node2 w p k p1 p2) (hs : NodesOn2 w w') : Node2 w' p k p1 p2 := by
  obtain ⟨q, c, h1, h2⟩ := h
  exact ⟨q, c, hs _ _ _ (.inl rfl) h1, hs _ _ _ (.inr ⟨rfl, by simp [kid]⟩) h2⟩
theorem isTr_nodes2 (hs : NodesOn2 w w') : ∀ (t : Tr) (p : Nat), IsTr w p t → IsTr w' p t
  | .emp, _, ⟨v, h⟩ => ⟨v, hs _ _ _ (.inl rfl) h⟩
  | .cls _ _ _ _, _, ⟨v, h, hf⟩ => ⟨v, hs _ _ _ (.inl rfl) h, hf⟩
  | .cat x y, _, ⟨p1, p2, h, h1, h2⟩ => ⟨p1, p2, node2_on2 h hs, isTr_nodes2 hs x p1 h1, isTr_nodes2 hs y p2 h2⟩
  | .alt x y, _, ⟨p1, p2, h, h1, h2⟩ => ⟨p1, p2, node2_on2 h hs, isTr_nodes2 hs x p1 h1, isTr_nodes2 hs y p2 h2⟩
  | .star x, _, ⟨p1, h, h1⟩ => ⟨p1, node1_on2 h hs, isTr_nodes2 hs x p1 h1⟩
  | .plus x, _, ⟨p1, h, h1⟩ => ⟨p1, node1_on2 h hs, isTr_nodes2 hs x p1 h1⟩
  | .quest x, _, ⟨p1, h, h1⟩ => ⟨p1, node1_on2 h hs, isTr_nodes2 hs x p1 h1⟩
theorem put_nil {O : Nat} (h : Whole1 w O 46 #[.pointer none]) (v : Value) : NodesOn2 w (w.setCell ⟨O, 0, none⟩ v) := fun g t cs ht hw => by
  refine Whole1.off hw (p := ⟨O, 0, none⟩) (fun e => ?_) v
  have e : g = O := e
  subst e
  have := (show w.heap[g]? = some (.cells cs t (0, 0)) from hw).symm.trans h
  simp only [Option.some.injEq, Obj.cells.injEq] at this
  rcases ht with rfl | ⟨_, h2⟩
  · exact absurd this.2.1 (by decide)
  · exact h2 this.1
theorem put_errno {E : Nat} {y : Value} (h : Whole1 w E 26 #[y]) (v : Value) : NodesOn2 w (w.setCell ⟨E, 0, none⟩ v) := fun g t cs ht hw => by
  refine Whole1.off hw (p := ⟨E, 0, none⟩) (fun e => ?_) v
  have e : g = E := e
  refine absurd e (kinds_apart hw h ?_)
  rcases ht with rfl | ⟨rfl, _⟩ <;> decide
end

set_option maxHeartbeats 3200000 in
theorem parse_any (S : ByteArray) (w : World) (hS : S.size ≤ 140737488355328) :
    Calls Try.prog 13 #[.string S] w fun e w' => Below w.heap.size w w' ∧ match parseP S.data.toList with
      | .bad c => e = .returned (.tuple #[.pointer none, .int .i64 (c : Int)])
      | .ok t _ => ∃ p, e = .returned (.tuple #[.pointer (some ⟨p, 0, none⟩), .int .i64 0]) ∧ IsTr w' p t := by
  by_cases h64 : 64 < S.size
  · have eP : parseP S.data.toList = .bad 60 := if_pos (show 64 < S.data.toList.length from h64)
    rw [eP]
    have h1 : (64 : Int) < (S.size : Int) := by omega
    go_enter_defers Try.func13, Try.ntmps13
    have hb : Below w.heap.size w ((w.alloc (.cells #[.pointer none] 46)).alloc (.cells #[.int .i64 60] 26)) := ((Below.refl _ _).alloc (Nat.le_refl _) _).alloc (by simp) _
    have q0 := ((Whole1.new w 46 #[.pointer none]).alloc (.cells #[.int .i64 60] 26)).cell 0
    have q1 := (Whole1.new (w.alloc (.cells #[.pointer none] 46)) 26 #[.int .i64 60]).cell 0
    rw [World.size_alloc] at q1
    go_wp2_with fail
    simp [bodyPostD, Leaves, results, Try.results13, go_sem, q0, q1, hb]
  · have eP : parseP S.data.toList = depthP S.data.toList 16 0 := if_neg (show ¬ 64 < S.data.toList.length from h64)
    rw [eP]
    have h1 : ¬ (64 : Int) < (S.size : Int) := by omega
    have hmf : ∀ (fn : Fn) (first cap : Array Value) (w : World), (Instr.makeFunc fn first cap).run Try.prog w = .ok (.func fn first cap) w := fun _ _ _ _ => rfl
    obtain ⟨O, hO⟩ : ∃ O, O = w.heap.size := ⟨_, rfl⟩
    obtain ⟨E, hE⟩ : ∃ E, E = O + 1 := ⟨_, rfl⟩
    obtain ⟨r, hr⟩ : ∃ r, r = E + 1 := ⟨_, rfl⟩
    obtain ⟨w3, hw3⟩ : ∃ w3, ((w.alloc (.cells #[.pointer none] 46)).alloc (.cells #[.int .i64 0] 26)).alloc (.cells #[.string S, .int .i64 0, .int .i64 0] 63) = w3 := ⟨_, rfl⟩
    have o1 := ((Whole1.new w 46 #[.pointer none]).alloc (.cells #[.int .i64 0] 26)).alloc (.cells #[.string S, .int .i64 0, .int .i64 0] 63)
    have o2 := (Whole1.new (w.alloc (.cells #[.pointer none] 46)) 26 #[.int .i64 0]).alloc (.cells #[.string S, .int .i64 0, .int .i64 0] 63)
    have o3 := Whole1.new ((w.alloc (.cells #[.pointer none] 46)).alloc (.cells #[.int .i64 0] 26)) 63 #[.string S, .int .i64 0, .int .i64 0]
    have hb : Below w.heap.size w w3 := hw3 ▸ (((Below.refl _ _).alloc (Nat.le_refl _) _).alloc (by simp) _).alloc (by simp; omega) _
    rw [hw3] at o1 o2 o3
    simp only [World.size_alloc] at o2 o3
    rw [← hO] at o1 o2 o3
    rw [← hE] at o2 o3
    rw [← hr] at o3
    have HR3 := hidden (show Rd w3 r S 0 0 from ⟨o3, Nat.zero_le _, hS, by omega⟩)
    have HO3 := hidden o1
    have HE3 := hidden o2
    have HB := hidden hb
    have HX := hidden (And.intro hO (And.intro hE (And.intro hr hw3)))
    have S1 := hidden (brs_all _ 16 r 0 0 S w3 rfl rfl HR3.out)
    obtain ⟨RR, hRR⟩ : ∃ RR, depthP S.data.toList 16 0 = RR := ⟨_, rfl⟩
    rw [hRR] at S1 ⊢
    clear hO hE hr hw3 o1 o2 o3 hb eP hRR
    go_enter_defers Try.func13, Try.ntmps13
    go_wp2_with fail
    rw [← HX.out.1, ← HX.out.2.1, ← HX.out.2.2.1, HX.out.2.2.2]
    refine S1.out.mono ?_
    rintro e w4 ⟨k4, hy⟩
    have hOr : O ≠ r := by have := HX.out; omega
    have hEr : E ≠ r := by have := HX.out; omega
    have hO4 : Whole1 w4 O 46 #[.pointer none] := (k4.block O HO3.out.lt hOr).trans HO3.out
    have hE4 : Whole1 w4 E 26 #[.int .i64 0] := (k4.block E HE3.out.lt hEr).trans HE3.out
    have hb4 : Below w.heap.size w w4 := HB.out.trans (k4.below (fun k hk => by have := HX.out; omega) HB.out.size)
    have hEO := kinds_apart hE4 hO4 (by decide)
    have hwO : w.heap.size ≤ O := by have := HX.out; omega
    have hwE : w.heap.size ≤ E := by have := HX.out; omega
    cases RR with
    | bad c =>
      have hy : Bad c e := hy
      unfold Bad at hy
      subst hy
      go_wp2_with fail
      refine leaves_cons (f := 28) (args := #[.pointer (some ⟨O, 0, none⟩), .pointer (some ⟨E, 0, none⟩)]) (by simp) (by simp [go_sem]) ?_
      refine (pcatch_panicking O E _ _ (c : Int) w4 hO4 hE4).mono ?_
      rintro e u' w5 ⟨rfl, rfl, rfl⟩
      have q0 := ((hO4.put 0 (.pointer none)).off (p := ⟨E, 0, none⟩) (fun e => hEO e.symm) (.int .i64 (c : Int))).cell 0
      have q1 := ((hE4.off (p := ⟨O, 0, none⟩) hEO (.pointer none)).put 0 (.int .i64 (c : Int))).cell 0
      simp [Leaves, settle, results, Try.results13, go_sem, q0, q1]
      exact (hb4.setCell (p := ⟨O, 0, none⟩) hwO _).setCell (p := ⟨E, 0, none⟩) hwE _
    | ok t j =>
      obtain ⟨p, rfl, hr4, ht4, _⟩ := hy
      have f0 := hO4.free 0
      have c0 := hO4.cell 0
      have f1 := hE4.free 0
      have c1 := hE4.cell 0
      have hE5 := hE4.off (p := ⟨O, 0, none⟩) hEO (.pointer (some ⟨p, 0, none⟩))
      have f2 := hE5.free 0
      have c2 := hE5.cell 0
      have HF := hidden (show Below w.heap.size w ((w4.setCell ⟨O, 0, none⟩ (.pointer (some ⟨p, 0, none⟩))).setCell ⟨E, 0, none⟩ (.int .i64 0)) ∧ IsTr ((w4.setCell ⟨O, 0, none⟩ (.pointer (some ⟨p, 0, none⟩))).setCell ⟨E, 0, none⟩ (.int .i64 0)) p t from
        ⟨(hb4.setCell (p := ⟨O, 0, none⟩) hwO _).setCell (p := ⟨E, 0, none⟩) hwE _, isTr_nodes2 (put_errno hE5 _) t p (isTr_nodes2 (put_nil hO4 _) t p ht4)⟩)
      have q0 := ((hO4.put 0 (.pointer (some ⟨p, 0, none⟩))).off (p := ⟨E, 0, none⟩) (fun e => hEO e.symm) (.int .i64 0)).cell 0
      have q1 := (hE5.put 0 (.int .i64 0)).cell 0
      go_wp2_with fail
      refine leaves_cons (f := 28) (args := #[.pointer (some ⟨O, 0, none⟩), .pointer (some ⟨E, 0, none⟩)]) (by simp) (by simp [go_sem]) ?_
      refine (pcatch_idle O E _).mono ?_
      rintro e u' w5 ⟨rfl, rfl, rfl⟩
      simp [Leaves, settle, results, Try.results13, go_sem, q0, q1]
      exact HF.out
end Go.Proofs.Ytalnndenncnbdaa
