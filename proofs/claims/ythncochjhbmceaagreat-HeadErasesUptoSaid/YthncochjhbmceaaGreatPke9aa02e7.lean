/- regex.Parse, walked: the tree of a pattern, or the error. Condition: the pattern is no longer than memory. regex.Parse, walked: the tree of a pattern, or the error. Condition: the pattern is no longer than memory. Reading a pattern never fails with the number 0. No program is walked here. A match under way, as it lies. No program is walked here. deriv.Nullable and a set's Has, walked. No condition. Keys that are structs of two pointers: found by sameness, as long as what they point at lies. No program is walked here. deriv's rest and star, walked: what is kept once. No condition. -/
import Derived.Test.YthncochjhbmceaaGreatPk9c41787b
import Derived.Defers
import Derived.Recover
import Derived.Test.YthncochjhbmceaaGreatPk408bb471
import Derived.Sort.Walk7
import Derived.Test.YthncochjhbmceaaGreatBase
import Derived.Laws.StructEq
namespace Go.Proofs.YthncochjhbmceaaGreat
set_option maxRecDepth 100000
open Go.RowKit

theorem ta_yes (c : Int) (t : TypeId) (w : World) : (Instr.typeAssert (.iface 41 (.int .i64 c)) t 41 true).run Tryz.prog w = .ok (.tuple #[.int .i64 c, .bool true]) w := by
  simp [Instr.typeAssert, run_underlying Tryz.underlying41]
theorem ta_no (t : TypeId) (w : World) : (Instr.typeAssert .nilIface t 41 true).run Tryz.prog w = .ok (.tuple #[.int .i64 0, .bool false]) w := by
  simp [Instr.typeAssert, run_underlying Tryz.underlying41]
theorem kinds_apart {w : World} {g k : Nat} {t u : TypeId} {cs ds : Array Value} (h : Whole1 w g t cs) (h' : Whole1 w k u ds) (hne : t ≠ u) : g ≠ k := fun e => by
  subst e
  have := (show w.heap[g]? = some (.cells cs t (0, 0)) from h).symm.trans h'
  simp only [Option.some.injEq, Obj.cells.injEq] at this
  exact hne this.2.1
set_option maxHeartbeats 1600000 in
theorem pcatch_panicking (O E : Nat) (x y : Value) (c : Int) (w : World) (hO : Whole1 w O 226 #[x]) (hE : Whole1 w E 41 #[y]) :
    CallsD Tryz.prog 142 #[.pointer (some ⟨O, 0, none⟩), .pointer (some ⟨E, 0, none⟩)] (.panicking [{ v := .iface 41 (.int .i64 c), recovered := false }]) w fun e u' w' =>
      e = .returned (.tuple #[]) ∧ u' = .panicking [{ v := .iface 41 (.int .i64 c), recovered := true }] ∧ w' = (w.setCell ⟨O, 0, none⟩ (.pointer none)).setCell ⟨E, 0, none⟩ (.int .i64 c) := by
  have f0 := hO.free 0
  have c0 := hO.cell 0
  have hEO := kinds_apart hE hO (by decide)
  have hE3 := hE.off (p := ⟨O, 0, none⟩) hEO (.pointer none)
  have e0 := hE3.cell 0
  have g0 := hE3.free 0
  clear hE3 hEO
  refine callsD_of_wpS Tryz.func142 rfl fun c₀ cs hu => ?_
  apply wpS_seq
  apply wpS_region
  simp [wpOpsS, go_sem, recoverD, hu, Tryz.ntmps142, Exit.thenS, ta_yes]
  apply wpS_seq
  apply wpS_region
  simp [wpOpsS, go_sem, Exit.thenS]
  rw [show (Array.replicate 9 undef : Array Value) = #[undef, undef, undef, undef, undef, undef, undef, undef, undef] from rfl]
  simp only [List.setIfInBounds_toArray, List.set_cons_succ, List.set_cons_zero, List.append_toArray, List.cons_append, List.nil_append]
  refine wpS_cond (t := true) rfl ?_
  simp only [if_true]
  refine wpS_of_wp ?_
  go_wp2_with fail
  simp [bodyPostS, results, Tryz.results142]
theorem pcatch_idle (O E : Nat) (w : World) :
    CallsD Tryz.prog 142 #[.pointer (some ⟨O, 0, none⟩), .pointer (some ⟨E, 0, none⟩)] .returning w fun e u' w' => e = .returned (.tuple #[]) ∧ u' = .returning ∧ w' = w := by
  refine callsD_of_wpS Tryz.func142 rfl fun c₀ cs hu => ?_
  apply wpS_seq
  apply wpS_region
  simp [wpOpsS, go_sem, recoverD, hu, Tryz.ntmps142, Exit.thenS, ta_no]
  apply wpS_seq
  apply wpS_region
  simp [wpOpsS, go_sem, Exit.thenS]
  rw [show (Array.replicate 9 undef : Array Value) = #[undef, undef, undef, undef, undef, undef, undef, undef, undef] from rfl]
  simp only [List.setIfInBounds_toArray, List.set_cons_succ, List.set_cons_zero, List.append_toArray, List.cons_append, List.nil_append]
  refine wpS_cond (t := false) rfl ?_
  simp only [Bool.false_eq_true, if_false]
  refine wpS_of_wp (wp_skip ?_)
  cases c₀
  simp only at hu
  subst hu
  simp [bodyPostS, results, Tryz.results142]
end Go.Proofs.YthncochjhbmceaaGreat

namespace Go.Proofs.YthncochjhbmceaaGreat
set_option maxRecDepth 100000
open Go.RowKit

section
variable {w w' : World}
/-- nodes stay, but for a pointer that is nil -/
def NodesOn2 (w w' : World) : Prop := ∀ g t cs, (t = 332 ∨ (t = 226 ∧ cs ≠ #[.pointer none])) → Whole1 w g t cs → Whole1 w' g t cs
theorem node1_on2 {p p1 : Nat} {k : Int} (h : Node1 w p k p1) (hs : NodesOn2 w w') : Node1 w' p k p1 := by
  obtain ⟨q, c, h1, h2⟩ := h
  exact ⟨q, c, hs _ _ _ (.inl rfl) h1, hs _ _ _ (.inr ⟨rfl, by simp [kid]⟩) h2⟩
theorem node2_on2 {p p1 p2 : Nat} {k : Int} (h : Node2 w p k p1 p2) (hs : NodesOn2 w w') : Node2 w' p k p1 p2 := by
  obtain ⟨q, c, h1, h2⟩ := h
  exact ⟨q, c, hs _ _ _ (.inl rfl) h1, hs _ _ _ (.inr ⟨rfl, by simp [kid]⟩) h2⟩
theorem isTr_nodes2 (hs : NodesOn2 w w') : ∀ (t : Tr) (p : Nat), IsTr w p t → IsTr w' p t
  | .emp, _, ⟨v, h⟩ => ⟨v, hs _ _ _ (.inl rfl) h⟩
  | .cls _ _ _ _, _, ⟨v, h, hf⟩ => ⟨v, hs _ _ _ (.inl rfl) h, hf⟩
  | .cat x y, _, ⟨p1, p2, h, h1, h2⟩ => ⟨p1, p2, node2_on2 h hs, isTr_nodes2 hs x p1 h1, isTr_nodes2 hs y p2 h2⟩
  | .alt x y, _, ⟨p1, p2, h, h1, h2⟩ => ⟨p1, p2, node2_on2 h hs, isTr_nodes2 hs x p1 h1, isTr_nodes2 hs y p2 h2⟩
  | .star x, _, ⟨p1, h, h1⟩ => ⟨p1, node1_on2 h hs, isTr_nodes2 hs x p1 h1⟩
  | .plus x, _, ⟨p1, h, h1⟩ => ⟨p1, node1_on2 h hs, isTr_nodes2 hs x p1 h1⟩
  | .quest x, _, ⟨p1, h, h1⟩ => ⟨p1, node1_on2 h hs, isTr_nodes2 hs x p1 h1⟩
theorem put_nil {O : Nat} (h : Whole1 w O 226 #[.pointer none]) (v : Value) : NodesOn2 w (w.setCell ⟨O, 0, none⟩ v) := fun g t cs ht hw => by
  refine Whole1.off hw (p := ⟨O, 0, none⟩) (fun e => ?_) v
  have e : g = O := e
  subst e
  have := (show w.heap[g]? = some (.cells cs t (0, 0)) from hw).symm.trans h
  simp only [Option.some.injEq, Obj.cells.injEq] at this
  rcases ht with rfl | ⟨_, h2⟩
  · exact absurd this.2.1 (by decide)
  · exact h2 this.1
theorem put_errno {E : Nat} {y : Value} (h : Whole1 w E 41 #[y]) (v : Value) : NodesOn2 w (w.setCell ⟨E, 0, none⟩ v) := fun g t cs ht hw => by
  refine Whole1.off hw (p := ⟨E, 0, none⟩) (fun e => ?_) v
  have e : g = E := e
  refine absurd e (kinds_apart hw h ?_)
  rcases ht with rfl | ⟨rfl, _⟩ <;> decide
end

set_option maxHeartbeats 3200000 in
theorem parse_any (S : ByteArray) (w : World) (hS : S.size ≤ 140737488355328) :
    Calls Tryz.prog 93 #[.string S] w fun e w' => Below w.heap.size w w' ∧ match parseP S.data.toList with
      | .bad c => e = .returned (.tuple #[.pointer none, .int .i64 (c : Int)])
      | .ok t _ => ∃ p, e = .returned (.tuple #[.pointer (some ⟨p, 0, none⟩), .int .i64 0]) ∧ IsTr w' p t := by
  by_cases h64 : 64 < S.size
  · have eP : parseP S.data.toList = .bad 60 := if_pos (show 64 < S.data.toList.length from h64)
    rw [eP]
    have h1 : (64 : Int) < (S.size : Int) := by omega
    go_enter_defers Tryz.func93, Tryz.ntmps93
    have hb : Below w.heap.size w ((w.alloc (.cells #[.pointer none] 226)).alloc (.cells #[.int .i64 60] 41)) := ((Below.refl _ _).alloc (Nat.le_refl _) _).alloc (by simp) _
    have q0 := ((Whole1.new w 226 #[.pointer none]).alloc (.cells #[.int .i64 60] 41)).cell 0
    have q1 := (Whole1.new (w.alloc (.cells #[.pointer none] 226)) 41 #[.int .i64 60]).cell 0
    rw [World.size_alloc] at q1
    go_wp2_with fail
    simp [bodyPostD, Leaves, results, Tryz.results93, go_sem, q0, q1, hb]
  · have eP : parseP S.data.toList = depthP S.data.toList 16 0 := if_neg (show ¬ 64 < S.data.toList.length from h64)
    rw [eP]
    have h1 : ¬ (64 : Int) < (S.size : Int) := by omega
    have hmf : ∀ (fn : Fn) (first cap : Array Value) (w : World), (Instr.makeFunc fn first cap).run Tryz.prog w = .ok (.func fn first cap) w := fun _ _ _ _ => rfl
    obtain ⟨O, hO⟩ : ∃ O, O = w.heap.size := ⟨_, rfl⟩
    obtain ⟨E, hE⟩ : ∃ E, E = O + 1 := ⟨_, rfl⟩
    obtain ⟨r, hr⟩ : ∃ r, r = E + 1 := ⟨_, rfl⟩
    obtain ⟨w3, hw3⟩ : ∃ w3, ((w.alloc (.cells #[.pointer none] 226)).alloc (.cells #[.int .i64 0] 41)).alloc (.cells #[.string S, .int .i64 0, .int .i64 0] 272) = w3 := ⟨_, rfl⟩
    have o1 := ((Whole1.new w 226 #[.pointer none]).alloc (.cells #[.int .i64 0] 41)).alloc (.cells #[.string S, .int .i64 0, .int .i64 0] 272)
    have o2 := (Whole1.new (w.alloc (.cells #[.pointer none] 226)) 41 #[.int .i64 0]).alloc (.cells #[.string S, .int .i64 0, .int .i64 0] 272)
    have o3 := Whole1.new ((w.alloc (.cells #[.pointer none] 226)).alloc (.cells #[.int .i64 0] 41)) 272 #[.string S, .int .i64 0, .int .i64 0]
    have hb : Below w.heap.size w w3 := hw3 ▸ (((Below.refl _ _).alloc (Nat.le_refl _) _).alloc (by simp) _).alloc (by simp; omega) _
    rw [hw3] at o1 o2 o3
    simp only [World.size_alloc] at o2 o3
    rw [← hO] at o1 o2 o3
    rw [← hE] at o2 o3
    rw [← hr] at o3
    have HR3 := hidden (show Rd w3 r S 0 0 from ⟨o3, Nat.zero_le _, hS, by omega⟩)
    have HO3 := hidden o1
    have HE3 := hidden o2
    have HB := hidden hb
    have HX := hidden (And.intro hO (And.intro hE (And.intro hr hw3)))
    have S1 := hidden (brs_all _ 16 r 0 0 S w3 rfl rfl HR3.out)
    obtain ⟨RR, hRR⟩ : ∃ RR, depthP S.data.toList 16 0 = RR := ⟨_, rfl⟩
    rw [hRR] at S1 ⊢
    clear hO hE hr hw3 o1 o2 o3 hb eP hRR
    go_enter_defers Tryz.func93, Tryz.ntmps93
    go_wp2_with fail
    rw [← HX.out.1, ← HX.out.2.1, ← HX.out.2.2.1, HX.out.2.2.2]
    refine S1.out.mono ?_
    rintro e w4 ⟨k4, hy⟩
    have hOr : O ≠ r := by have := HX.out; omega
    have hEr : E ≠ r := by have := HX.out; omega
    have hO4 : Whole1 w4 O 226 #[.pointer none] := (k4.block O HO3.out.lt hOr).trans HO3.out
    have hE4 : Whole1 w4 E 41 #[.int .i64 0] := (k4.block E HE3.out.lt hEr).trans HE3.out
    have hb4 : Below w.heap.size w w4 := HB.out.trans (k4.below (fun k hk => by have := HX.out; omega) HB.out.size)
    have hEO := kinds_apart hE4 hO4 (by decide)
    have hwO : w.heap.size ≤ O := by have := HX.out; omega
    have hwE : w.heap.size ≤ E := by have := HX.out; omega
    cases RR with
    | bad c =>
      have hy : Bad c e := hy
      unfold Bad at hy
      subst hy
      go_wp2_with fail
      refine leaves_cons (f := 142) (args := #[.pointer (some ⟨O, 0, none⟩), .pointer (some ⟨E, 0, none⟩)]) (by simp) (by simp [go_sem]) ?_
      refine (pcatch_panicking O E _ _ (c : Int) w4 hO4 hE4).mono ?_
      rintro e u' w5 ⟨rfl, rfl, rfl⟩
      have q0 := ((hO4.put 0 (.pointer none)).off (p := ⟨E, 0, none⟩) (fun e => hEO e.symm) (.int .i64 (c : Int))).cell 0
      have q1 := ((hE4.off (p := ⟨O, 0, none⟩) hEO (.pointer none)).put 0 (.int .i64 (c : Int))).cell 0
      simp [Leaves, settle, results, Tryz.results93, go_sem, q0, q1]
      exact (hb4.setCell (p := ⟨O, 0, none⟩) hwO _).setCell (p := ⟨E, 0, none⟩) hwE _
    | ok t j =>
      obtain ⟨p, rfl, hr4, ht4, _⟩ := hy
      have f0 := hO4.free 0
      have c0 := hO4.cell 0
      have f1 := hE4.free 0
      have c1 := hE4.cell 0
      have hE5 := hE4.off (p := ⟨O, 0, none⟩) hEO (.pointer (some ⟨p, 0, none⟩))
      have f2 := hE5.free 0
      have c2 := hE5.cell 0
      have HF := hidden (show Below w.heap.size w ((w4.setCell ⟨O, 0, none⟩ (.pointer (some ⟨p, 0, none⟩))).setCell ⟨E, 0, none⟩ (.int .i64 0)) ∧ IsTr ((w4.setCell ⟨O, 0, none⟩ (.pointer (some ⟨p, 0, none⟩))).setCell ⟨E, 0, none⟩ (.int .i64 0)) p t from
        ⟨(hb4.setCell (p := ⟨O, 0, none⟩) hwO _).setCell (p := ⟨E, 0, none⟩) hwE _, isTr_nodes2 (put_errno hE5 _) t p (isTr_nodes2 (put_nil hO4 _) t p ht4)⟩)
      have q0 := ((hO4.put 0 (.pointer (some ⟨p, 0, none⟩))).off (p := ⟨E, 0, none⟩) (fun e => hEO e.symm) (.int .i64 0)).cell 0
      have q1 := (hE5.put 0 (.int .i64 0)).cell 0
      go_wp2_with fail
      refine leaves_cons (f := 142) (args := #[.pointer (some ⟨O, 0, none⟩), .pointer (some ⟨E, 0, none⟩)]) (by simp) (by simp [go_sem]) ?_
      refine (pcatch_idle O E _).mono ?_
      rintro e u' w5 ⟨rfl, rfl, rfl⟩
      simp [Leaves, settle, results, Tryz.results93, go_sem, q0, q1]
      exact HF.out
end Go.Proofs.YthncochjhbmceaaGreat

namespace Go.Proofs.YthncochjhbmceaaGreat
def NZ {α : Type} (r : PR α) : Prop := ∀ c, r = .bad c → c ≠ 0
theorem nz_ok {α : Type} (a : α) (j : Nat) : NZ (PR.ok a j) := fun c h => by cases h
theorem nz_bad {α : Type} {n : Nat} (h : n ≠ 0) : NZ (PR.bad n : PR α) := fun c e => by cases e; exact h
section
variable (s : List UInt8)
theorem nz_esc (i : Nat) : NZ (escP s i) := by
  unfold escP; split
  · exact nz_ok _ _
  · exact nz_bad (by decide)
theorem nz_let (i : Nat) : NZ (letP s i) := by
  unfold letP; split
  · split
    · exact nz_esc s _
    · exact nz_ok _ _
  · exact nz_bad (by decide)
theorem nz_item (i : Nat) : NZ (itemP s i) := by
  unfold itemP
  split
  · rename_i e h; exact nz_bad (nz_let s i e h)
  · split
    · split
      · rename_i e h; exact nz_bad (nz_let s _ e h)
      · exact nz_ok _ _
    · exact nz_ok _ _
theorem nz_items : ∀ (f i : Nat) (S : BS) (n : Nat) (fl : Bool), NZ (itemsP s f i S n fl)
  | 0, _, _, _, _ => nz_bad (by decide)
  | f + 1, i, S, n, fl => by
    unfold itemsP
    split
    · exact nz_ok _ _
    · split
      · rename_i e h; exact nz_bad (nz_item s i e h)
      · exact nz_items f _ _ _ _
theorem nz_class (i : Nat) : NZ (classP s i) := by
  unfold classP
  simp only
  split
  · rename_i e h; exact nz_bad (nz_items s _ _ _ _ _ e h)
  · repeat' split
    all_goals first
      | exact nz_bad (n := 63) (by decide)
      | exact nz_ok _ _
theorem nz_atom {m : Nat} {sub : Nat → PR Tr} (hs : m ≠ 0 → ∀ i, NZ (sub i)) (i : Nat) : NZ (atomP s m sub i) := by
  unfold atomP
  simp only
  split
  · exact nz_bad (by decide)
  · split
    · split
      · exact nz_bad (by decide)
      · rename_i hm
        split
        · rename_i e h; exact nz_bad (hs hm _ e h)
        · split
          · exact nz_ok _ _
          · exact nz_bad (by decide)
    · split
      · split
        · rename_i e h; exact nz_bad (nz_class s _ e h)
        · exact nz_ok _ _
      · split
        · exact nz_ok _ _
        · split
          · split
            · rename_i e h; exact nz_bad (nz_esc s _ e h)
            · exact nz_ok _ _
          · exact nz_ok _ _
theorem nz_piece {m : Nat} {sub : Nat → PR Tr} (hs : m ≠ 0 → ∀ i, NZ (sub i)) (i : Nat) : NZ (pieceP s m sub i) := by
  unfold pieceP
  split
  · rename_i e h; exact nz_bad (nz_atom s hs i e h)
  · exact nz_ok _ _
theorem nz_branchL {m : Nat} {top : Bool} {sub : Nat → PR Tr} (hs : m ≠ 0 → ∀ i, NZ (sub i)) : ∀ (f i : Nat) (n : Option Tr), NZ (branchL s m top sub f i n)
  | 0, _, _ => nz_bad (by decide)
  | f + 1, i, n => by
    unfold branchL
    split
    · exact nz_bad (by decide)
    · split
      · split
        · rename_i e h; exact nz_bad (nz_piece s hs i e h)
        · exact nz_branchL hs f _ _
      · exact nz_ok _ _
theorem nz_branchesL {m : Nat} {top : Bool} {sub : Nat → PR Tr} (hs : m ≠ 0 → ∀ i, NZ (sub i)) : ∀ (f i : Nat) (n : Tr), NZ (branchesL s m top sub f i n)
  | 0, _, _ => nz_bad (by decide)
  | f + 1, i, n => by
    unfold branchesL
    split
    · split
      · rename_i e h; exact nz_bad (nz_branchL s hs _ _ _ e h)
      · exact nz_branchesL hs f _ _
    · exact nz_ok _ _
theorem nz_branches {m : Nat} {top : Bool} {sub : Nat → PR Tr} (hs : m ≠ 0 → ∀ i, NZ (sub i)) (i : Nat) : NZ (branchesP s m top sub i) := by
  unfold branchesP
  split
  · rename_i e h; exact nz_bad (nz_branchL s hs _ _ _ e h)
  · exact nz_branchesL s hs _ _ _
theorem nz_depth : ∀ (m i : Nat), NZ (depthP s m i)
  | 0, i => nz_branches s (fun h => absurd rfl h) i
  | m + 1, i => nz_branches s (fun _ i => nz_depth m i) i
theorem nz_parse : NZ (parseP s) := by
  unfold parseP
  split
  · exact nz_bad (by decide)
  · exact nz_depth s 16 0
end
end Go.Proofs.YthncochjhbmceaaGreat

namespace Go.Proofs.YthncochjhbmceaaGreat
set_option maxRecDepth 100000
open Go.RowKit

/-- rests and stars that were made -/
structure RunM (w : World) (r b1 b2 : Nat) (m1 m2 : List (Value × Value)) : Prop where
  blk : Whole1 w r 325 #[.map (some b1), .map (some b2)]
  ne : b1 ≠ b2
  map1 : MapV IsPair w b1 m1
  map2 : MapV IsPtr w b2 m2
  at1 : ∀ e ∈ m1, ∃ n q g, e = (.agg #[kid n, .pointer q], kid g) ∧ Whole1 w g 279 #[kid n, .pointer q] ∧ Laid w (some ⟨n, 0, none⟩) ∧ Laid w q
  at2 : ∀ e ∈ m2, ∃ p g x, e = (kid p, kid g) ∧ IsTr w p (.plus x) ∧ IsTr w g (.star x)
def RunAt (w : World) (r b1 b2 : Nat) : Prop := ∃ m1 m2, RunM w r b1 b2 m1 m2
/-- a map whose keys are just these rests -/
structure OutM (w : World) (b : Nat) (mo : List (Value × Value)) (Q : List Tr → Prop) : Prop where
  map : MapV IsPtr w b mo
  each : ∀ e ∈ mo, ∃ a l k, e = (.pointer a, .int .i64 k) ∧ IsRest w a l ∧ Q l
  all : ∀ l, Q l → ∃ a k, (Value.pointer a, Value.int .i64 k) ∈ mo ∧ IsRest w a l
def OutAt (w : World) (b : Nat) (Q : List Tr → Prop) : Prop := ∃ mo, OutM w b mo Q
section
variable {w w' : World} {r b b1 b2 : Nat} {m1 m2 mo : List (Value × Value)} {F : Nat → Prop} {Q : List Tr → Prop}
theorem RunM.on (h : RunM w r b1 b2 m1 m2) (k : Stays F w w') (h1 : ¬ F b1) (h2 : ¬ F b2) : RunM w' r b1 b2 m1 m2 :=
  ⟨k.cells _ _ _ h.blk, h.ne, k.mapV h.map1 h1, k.mapV h.map2 h2, fun e he => by
    obtain ⟨n, q, g, e1, e2, e3, e4⟩ := h.at1 e he
    exact ⟨n, q, g, e1, k.cells _ _ _ e2, laid_on e3 k.cells, laid_on e4 k.cells⟩, fun e he => by
    obtain ⟨p, g, x, e1, e2, e3⟩ := h.at2 e he
    exact ⟨p, g, x, e1, isTr_on k.cells _ _ e2, isTr_on k.cells _ _ e3⟩⟩
theorem RunAt.on (h : RunAt w r b1 b2) (k : Stays F w w') (h1 : ¬ F b1) (h2 : ¬ F b2) : RunAt w' r b1 b2 := by
  obtain ⟨m1, m2, h⟩ := h
  exact ⟨m1, m2, h.on k h1 h2⟩
theorem OutM.on (h : OutM w b mo Q) (k : Stays F w w') (h1 : ¬ F b) : OutM w' b mo Q :=
  ⟨k.mapV h.map h1, fun e he => by
    obtain ⟨a, l, n, e1, e2, e3⟩ := h.each e he
    exact ⟨a, l, n, e1, isRest_on k.cells _ _ e2, e3⟩, fun l hl => by
    obtain ⟨a, n, e1, e2⟩ := h.all l hl
    exact ⟨a, n, e1, isRest_on k.cells _ _ e2⟩⟩
theorem OutAt.on (h : OutAt w b Q) (k : Stays F w w') (h1 : ¬ F b) : OutAt w' b Q := by
  obtain ⟨mo, h⟩ := h
  exact ⟨mo, h.on k h1⟩
theorem OutM.iff {R : List Tr → Prop} (h : OutM w b mo Q) (k : ∀ l, Q l ↔ R l) : OutM w b mo R :=
  ⟨h.map, fun e he => by
    obtain ⟨a, l, n, e1, e2, e3⟩ := h.each e he
    exact ⟨a, l, n, e1, e2, (k l).1 e3⟩, fun l hl => h.all l ((k l).2 hl)⟩
theorem OutAt.iff {R : List Tr → Prop} (h : OutAt w b Q) (k : ∀ l, Q l ↔ R l) : OutAt w b R := by
  obtain ⟨mo, h⟩ := h
  exact ⟨mo, h.iff k⟩
theorem OutM.keys (h : OutM w b mo Q) : ∀ p ∈ mo, PtrKey w p.1 := fun p hp => by
  obtain ⟨a, l, n, rfl, e2, _⟩ := h.each p hp
  exact ⟨a, rfl, laid_rest e2⟩
theorem RunM.keys1 (h : RunM w r b1 b2 m1 m2) : ∀ p ∈ m1, PairKey w p.1 := fun p hp => by
  obtain ⟨n, q, g, rfl, _, e2, e3⟩ := h.at1 p hp
  exact ⟨_, q, rfl, e2, e3⟩
theorem RunM.keys2 (h : RunM w r b1 b2 m1 m2) : ∀ p ∈ m2, PtrKey w p.1 := fun p hp => by
  obtain ⟨n, g, x, rfl, e2, _⟩ := h.at2 p hp
  exact ⟨_, rfl, laid_tr e2⟩
/-- a rest more: it was counted -/
theorem OutM.count {mo' : List (Value × Value)} {a : Option Addr} {l : List Tr} {k : Int} (h : OutM w b mo Q) (ha : IsRest w a l) (hst : MapV IsPtr w' b (putV mo (.pointer a) (.int .i64 k))) (hs : Stays F w w') (hmo : mo' = putV mo (.pointer a) (.int .i64 k)) :
    OutM w' b mo' (fun x => Q x ∨ x = l) := by
  subst hmo
  refine ⟨hst, fun e he => ?_, fun x hx => ?_⟩
  · rcases putV_keys _ _ _ e he with rfl | ⟨h1, _⟩ | h1
    · exact ⟨a, l, k, rfl, isRest_on hs.cells _ _ ha, .inr rfl⟩
    · obtain ⟨a1, l1, n1, e1, e2, e3⟩ := h.each e h1
      exact ⟨a1, l1, n1, e1, isRest_on hs.cells _ _ e2, .inl e3⟩
    · obtain ⟨a1, l1, n1, e1, e2, e3⟩ := h.each e h1
      exact ⟨a1, l1, n1, e1, isRest_on hs.cells _ _ e2, .inl e3⟩
  · have hput : (Value.pointer a, Value.int .i64 k) ∈ putV mo (.pointer a) (.int .i64 k) := atV_mem _ _ _ (atV_put_same mo _ _)
    rcases hx with hx | rfl
    · obtain ⟨a1, n1, e1, e2⟩ := h.all x hx
      by_cases e : a1 = a
      · subst e
        exact ⟨a1, k, hput, isRest_on hs.cells _ _ e2⟩
      · refine ⟨a1, n1, atV_mem _ _ _ ?_, isRest_on hs.cells _ _ e2⟩
        rw [atV_put_other _ _ _ (by simpa using e)]
        exact atV_of_mem _ h.map.nodup _ _ e1
    · exact ⟨a, k, hput, isRest_on hs.cells _ _ ha⟩
end
end Go.Proofs.YthncochjhbmceaaGreat

namespace Go.Proofs.YthncochjhbmceaaGreat
set_option maxRecDepth 100000
open Go.RowKit

theorem kids1 {w : World} {p p1 : Nat} {k : Int} (h : Node1 w p k p1) : ∃ q c, w.cell? ⟨p, 0, none⟩ = some (.int .i64 k) ∧ w.cell? ⟨p, 5, none⟩ = some (.slice (some ⟨q, 0, none⟩) 1 c) ∧ w.cell? ⟨q, 0, none⟩ = some (kid p1) := by
  obtain ⟨q, c, h1, h2⟩ := h
  exact ⟨q, c, Whole1.cell h1 0, Whole1.cell h1 5, h2.cell 0⟩
theorem kids2 {w : World} {p p1 p2 : Nat} {k : Int} (h : Node2 w p k p1 p2) : ∃ q c, w.cell? ⟨p, 0, none⟩ = some (.int .i64 k) ∧ w.cell? ⟨p, 5, none⟩ = some (.slice (some ⟨q, 0, none⟩) 2 c) ∧ w.cell? ⟨q, 0, none⟩ = some (kid p1) ∧ w.cell? ⟨q, 1, none⟩ = some (kid p2) := by
  obtain ⟨q, c, h1, h2⟩ := h
  exact ⟨q, c, Whole1.cell h1 0, Whole1.cell h1 5, h2.cell 0, h2.cell 1⟩
theorem kind_cell {w : World} {t : Tr} {p : Nat} (h : IsTr w p t) : w.cell? ⟨p, 0, none⟩ = some (.int .i64 (kindT t)) := by
  obtain ⟨S, v, h⟩ := isTr_kind h
  exact Whole1.cell h 0

set_option maxHeartbeats 3200000 in
theorem null_any : ∀ (t : Tr) (p : Nat) (w : World), IsTr w p t →
    Calls Tryz.prog 145 #[.pointer (some ⟨p, 0, none⟩)] w fun e w' => e = .returned (.bool (nulT t)) ∧ w' = w := by
  intro t
  induction t with
  | emp =>
    intro p w h
    have c0 := kind_cell h
    simp only [kindT] at c0
    clear h
    go_enter Tryz.func145, Tryz.ntmps145
    go_wp2_with fail
    go_ret
    exact ⟨rfl, rfl⟩
  | cls a b c d =>
    intro p w h
    have c0 := kind_cell h
    simp only [kindT] at c0
    clear h
    go_enter Tryz.func145, Tryz.ntmps145
    go_wp2_with fail
    go_ret
    exact ⟨rfl, rfl⟩
  | star x _ =>
    intro p w h
    have c0 := kind_cell h
    simp only [kindT] at c0
    clear h
    go_enter Tryz.func145, Tryz.ntmps145
    go_wp2_with fail
    go_ret
    exact ⟨rfl, rfl⟩
  | quest x _ =>
    intro p w h
    have c0 := kind_cell h
    simp only [kindT] at c0
    clear h
    go_enter Tryz.func145, Tryz.ntmps145
    go_wp2_with fail
    go_ret
    exact ⟨rfl, rfl⟩
  | plus x ihx =>
    intro p w h
    obtain ⟨p1, h, hx⟩ := h
    obtain ⟨q, c, c0, c1, c2⟩ := kids1 h
    unfold kid at c2
    have S1 := hidden (ihx p1 w hx)
    clear h hx ihx
    have e1 : nulT (.plus x) = nulT x := rfl
    rw [e1]
    clear e1
    generalize nulT x = bx at *
    go_enter Tryz.func145, Tryz.ntmps145
    go_wp2_with fail
    refine S1.out.mono ?_
    rintro e w1 ⟨rfl, rfl⟩
    go_wp2_with fail
    go_ret
    exact ⟨rfl, rfl⟩
  | cat x y ihx ihy =>
    intro p w h
    obtain ⟨p1, p2, h, hx, hy⟩ := h
    obtain ⟨q, c, c0, c1, c2, c3⟩ := kids2 h
    unfold kid at c2 c3
    have S1 := hidden (ihx p1 w hx)
    have S2 := hidden (ihy p2 w hy)
    clear h hx hy ihx ihy
    have e1 : nulT (.cat x y) = (nulT x && nulT y) := rfl
    rw [e1]
    clear e1
    generalize nulT x = bx at *
    generalize nulT y = b2 at *
    go_enter Tryz.func145, Tryz.ntmps145
    go_wp2_with fail
    refine S1.out.mono ?_
    rintro e w1 ⟨rfl, rfl⟩
    cases bx
    · go_wp2_with fail
      go_ret
      exact ⟨rfl, rfl⟩
    · go_wp2_with fail
      refine S2.out.mono ?_
      rintro e w2 ⟨rfl, rfl⟩
      go_wp2_with fail
      go_ret
      exact ⟨rfl, rfl⟩
  | alt x y ihx ihy =>
    intro p w h
    obtain ⟨p1, p2, h, hx, hy⟩ := h
    obtain ⟨q, c, c0, c1, c2, c3⟩ := kids2 h
    unfold kid at c2 c3
    have S1 := hidden (ihx p1 w hx)
    have S2 := hidden (ihy p2 w hy)
    clear h hx hy ihx ihy
    have e1 : nulT (.alt x y) = (nulT x || nulT y) := rfl
    rw [e1]
    clear e1
    generalize nulT x = bx at *
    generalize nulT y = b2 at *
    go_enter Tryz.func145, Tryz.ntmps145
    go_wp2_with fail
    refine S1.out.mono ?_
    rintro e w1 ⟨rfl, rfl⟩
    cases bx
    · go_wp2_with fail
      refine S2.out.mono ?_
      rintro e w2 ⟨rfl, rfl⟩
      go_wp2_with fail
      go_ret
      exact ⟨rfl, rfl⟩
    · go_wp2_with fail
      go_ret
      exact ⟨rfl, rfl⟩

/-- the number of a set that tells of this byte -/
def fourB (a b c d q : Nat) : Nat := if q = 0 then a else if q = 1 then b else if q = 2 then c else d
theorem part_cell {w : World} {p : Nat} {T : TypeId} {a b c d : Nat} (h : Whole1 w p T #[.int .u64 (a : Int), .int .u64 (b : Int), .int .u64 (c : Int), .int .u64 (d : Int)]) {q : Nat} (hq : q < 4) : w.cell? ⟨p, q, none⟩ = some (.int .u64 (fourB a b c d q : Nat)) := by
  have h0 := h.cell 0
  have h1 := h.cell 1
  have h2 := h.cell 2
  have h3 := h.cell 3
  have : q = 0 ∨ q = 1 ∨ q = 2 ∨ q = 3 := by omega
  rcases this with rfl | rfl | rfl | rfl
  · exact h0
  · exact h1
  · exact h2
  · exact h3

set_option maxHeartbeats 1600000 in
/-- has a set this byte? -/
theorem has_any (a b c d : Nat) (n : Nat) (w : World) (hn : n < 256) (hf : fitB a b c d) :
    Calls Tryz.prog 196 #[.agg #[.int .u64 (a : Int), .int .u64 (b : Int), .int .u64 (c : Int), .int .u64 (d : Int)], .int .u8 (n : Int)] w fun e w' => e = .returned (.bool (hasB a b c d n)) ∧ Below w.heap.size w w' := by
  have c0 := part_cell (Whole1.new w 329 #[.int .u64 (a : Int), .int .u64 (b : Int), .int .u64 (c : Int), .int .u64 (d : Int)]) (q := n / 64) (by omega)
  have eB : hasB a b c d n = (fourB a b c d (n / 64)).testBit (n % 64) := rfl
  rw [eB]
  have q1 : ((n / 64 : Nat) : Int) = (n : Int) / 64 := by omega
  have q2 : ((n % 64 : Nat) : Int) = (n : Int) % 64 := by omega
  have q3 : (n : Int) / 64 < 4 := by omega
  have q4 : n / 64 < 4 := by omega
  have hx : fourB a b c d (n / 64) < 18446744073709551616 := by
    unfold fourB
    obtain ⟨f1, f2, f3, f4⟩ := hf
    split
    · exact f1
    · split
      · exact f2
      · split
        · exact f3
        · exact f4
  clear eB
  generalize fourB a b c d (n / 64) = x at *
  have eX : (bits BinOp.and IntKind.u64 ((x : Int) / 2 ^ (n % 64)) 1 == 1) = x.testBit (n % 64) := by
    have e1 : (x : Int) / 2 ^ (n % 64) = ((x / 2 ^ (n % 64) : Nat) : Int) := by simp
    have h1 : x / 2 ^ (n % 64) < 18446744073709551616 := Nat.lt_of_le_of_lt (Nat.div_le_self _ _) hx
    have := bits_and_u64_nat (x / 2 ^ (n % 64)) 1 h1 (by decide)
    rw [e1, show (1 : Int) = ((1 : Nat) : Int) from rfl, this, Nat.and_one_is_mod, Nat.testBit_eq_decide_div_mod_eq]
    have : (((x / 2 ^ (n % 64) % 2 : Nat) : Int) == ((1 : Nat) : Int)) = decide (x / 2 ^ (n % 64) % 2 = 1) := by
      rw [Bool.eq_iff_iff, beq_iff_eq, decide_eq_true_iff]
      omega
    exact this
  have HX := hidden eX
  clear eX
  go_enter Tryz.func196, Tryz.ntmps196
  go_wp2_with fail
  rw [HX.out]
  go_ret
  exact ⟨rfl, (Below.refl _ _).alloc (Nat.le_refl _) _⟩
end Go.Proofs.YthncochjhbmceaaGreat

namespace Go.Proofs.YthncochjhbmceaaGreat
set_option maxRecDepth 100000
open Go.MapKept Go.ChangeMaps

section
variable {P : Program}
theorem part_ptr (w : World) {e te : TypeId} (he : P.underlying e = some (.pointer te)) {xs : Array Value} {off : Nat} {v : Value} (hx : xs[off]? = some v) : (part e xs off).run P w = .ok v w := by
  simp [part, isAgg, run_underlying he, hx]
/-- a struct of two fields that are pointers -/
structure TwoPtr (P : Program) (k tp tq : TypeId) (fs : Array Field) : Prop where
  und : P.underlying k = some (.struct fs)
  fields : fs.toList.map (fun f => (f.name != "_", f.type, f.offset)) = [(true, tp, 0), (true, tq, 1)]
  free : P.stoodInHeld k = false
theorem two_list {k tp tq : TypeId} {fs : Array Field} (h : TwoPtr P k tp tq fs) : ∃ f g, fs.toList = [f, g] ∧ f.name ≠ "_" ∧ f.type = tp ∧ f.offset = 0 ∧ g.name ≠ "_" ∧ g.type = tq ∧ g.offset = 1 := by
  have h1 := h.fields
  match hl : fs.toList, h1 with
  | [], h1 => simp at h1
  | [_], h1 => simp at h1
  | _ :: _ :: _ :: _, h1 => simp at h1
  | [f, g], h1 =>
    simp only [List.map_cons, List.map_nil, List.cons.injEq, Prod.mk.injEq, bne_iff_ne, ne_eq, and_true] at h1
    exact ⟨f, g, rfl, h1.1.1, h1.1.2.1, h1.1.2.2, h1.2.1, h1.2.2.1, h1.2.2.2⟩
theorem keyEq_pair {k tp tq te tf : TypeId} {i j : TypeInfo} {fs : Array Field} (h : TwoPtr P k tp tq fs) (hp : P.underlying tp = some (.pointer te)) (hq : P.underlying tq = some (.pointer tf)) (hte : P.info? te = some i) (htf : P.info? tf = some j) (hi : i.size ≠ 0) (hj : j.size ≠ 0) : KeyEq P k PairKey where
  check w em v hv := by
    obtain ⟨p, q, rfl, _⟩ := hv
    obtain ⟨f, g, hl, f1, f2, f3, g1, g2, g3⟩ := two_list h
    have c0 : ∀ (n : Nat) (t te : TypeId) (x : Option Addr), P.underlying t = some (.pointer te) → (Instr.checkKey em (n + 1) t (.pointer x)).run P w = .ok () w := fun n t te x ht => by
      unfold Instr.checkKey
      simp only [Sem.run_bind, run_underlying ht, Result.andThen]
      rfl
    have k1 : (Instr.checkKey em 9999 tp (.pointer p)).run P w = .ok () w := c0 9998 tp te p hp
    have k2 : (Instr.checkKey em 9999 tq (.pointer q)).run P w = .ok () w := c0 9998 tq tf q hq
    unfold Instr.checkKey
    simp only [Sem.run_bind, run_underlying h.und, Result.andThen_ok]
    rw [← Array.forIn_toList, hl]
    simp only [List.forIn_cons, List.forIn_nil, Sem.run_bind, f1, g1, ne_eq, not_false_eq_true, if_true, f2, f3, g2, g3, part_ptr w hp (xs := #[.pointer p, .pointer q]) (off := 0) (v := .pointer p) rfl, part_ptr w hq (xs := #[.pointer p, .pointer q]) (off := 1) (v := .pointer q) rfl, Result.andThen_ok, k1, k2, Sem.run_pure]
  find w x hx es hes := by
    refine find_asking w h.und (T := PairKey w) (fun x y hx hy => ?_) (fun {x y} hx hy => ?_) hx es hes
    · obtain ⟨p, q, rfl, _⟩ := hx
      rfl
    · obtain ⟨p, q, rfl, h1, h2⟩ := hx
      obtain ⟨p', q', rfl, h1', h2'⟩ := hy
      obtain ⟨f, g, hl, f1, f2, f3, g1, g2, g3⟩ := two_list h
      obtain ⟨r, hr, ri⟩ := run_equalIn_ptr w 9998 hp hte hi h1 h1'
      obtain ⟨s, hs, si⟩ := run_equalIn_ptr w 9998 hq htf hj h2 h2'
      have hr' : (Op.equalIn 9999 tp (.pointer p) (.pointer p')).run P w = .ok r w := hr
      have hs' : (Op.equalIn 9999 tq (.pointer q) (.pointer q')).run P w = .ok s w := hs
      have hfo : P.fieldsOf k = fs := by simp [Program.fieldsOf, h.und]
      have hrun : (Op.equal k (.agg #[.pointer p, .pointer q]) (.agg #[.pointer p', .pointer q'])).run P w = .ok (r && s) w := by
        unfold Op.equal Op.maxDepth
        rw [run_equalIn_struct w 9999 k _ _ (by rw [hfo]; exact h.und) h.free, hfo, hl]
        simp only [Op.eqFields, f1, g1, ne_eq, not_false_eq_true, if_true, Sem.run_bind, f2, f3, g2, g3, part_ptr w hp (xs := #[.pointer p, .pointer q]) (off := 0) (v := .pointer p) rfl,
          part_ptr w hp (xs := #[.pointer p', .pointer q']) (off := 0) (v := .pointer p') rfl, Result.andThen_ok, hr']
        have e1 := part_ptr w hq (xs := #[.pointer p, .pointer q]) (off := 1) (v := .pointer q) rfl
        have e2 := part_ptr w hq (xs := #[.pointer p', .pointer q']) (off := 1) (v := .pointer q') rfl
        cases r <;> cases s <;> simp [e1, e2, hs']
      refine ⟨r && s, hrun, ?_⟩
      rw [Bool.and_eq_true, ri, si]
      simp
  stays w v hv := by
    obtain ⟨p, q, rfl, _⟩ := hv
    have e1 : ∀ (n : Nat) (p : Option Addr), Instr.sameBits n (.pointer p) (.pointer p) = true := fun n p => by cases n <;> simp [Instr.sameBits]
    have h : Instr.sameBits 10000 (.agg #[.pointer p, .pointer q]) (.agg #[.pointer p, .pointer q]) = true := by
      rw [Instr.sameBits]
      simp [e1]
    unfold Instr.keyThatStays
    rw [if_pos h]
    rfl
end
theorem restTwo : ∃ fs, TwoPtr Tryz.prog 279 226 276 fs :=
  ⟨_, Tryz.underlying279, by kernel_rfl, by kernel_rfl⟩
theorem infoNode : (Tryz.prog.info? 332).map (fun i => i.size) = some 6 := by kernel_rfl
theorem infoRest : (Tryz.prog.info? 279).map (fun i => i.size) = some 2 := by kernel_rfl
theorem info_size {P : Program} {t : TypeId} {n : Nat} (h : (P.info? t).map (fun i => i.size) = some n) : ∃ i, P.info? t = some i ∧ i.size = n := by
  obtain ⟨i, h1, h2⟩ := Option.map_eq_some_iff.1 h
  exact ⟨i, h1, h2⟩
theorem keyRest : KeyEq Tryz.prog 279 PairKey := by
  obtain ⟨fs, h⟩ := restTwo
  obtain ⟨i, hi, h1⟩ := info_size infoNode
  obtain ⟨j, hj, h2⟩ := info_size infoRest
  exact keyEq_pair h Tryz.underlying226 Tryz.underlying276 hi hj (by omega) (by omega)
theorem keyNode : KeyEq Tryz.prog 226 PtrKey := by
  obtain ⟨i, hi, h1⟩ := info_size infoNode
  exact keyEq_ptr Tryz.underlying226 hi (by omega)
theorem keyPtrRest : KeyEq Tryz.prog 276 PtrKey := by
  obtain ⟨j, hj, h2⟩ := info_size infoRest
  exact keyEq_ptr Tryz.underlying276 hj (by omega)
end Go.Proofs.YthncochjhbmceaaGreat

namespace Go.Proofs.YthncochjhbmceaaGreat
set_option maxRecDepth 100000
open Go.RowKit

theorem zero_of {P : Program} {t : TypeId} {z : Value} (h : (P.info? t).map (fun i => i.zero) = some (some z)) (w : World) : (zeroValue t).run P w = .ok z w := by
  obtain ⟨i, h1, h2⟩ := Option.map_eq_some_iff.1 h
  simp [zeroValue, typeInfo, h1, h2]
theorem zeroPR (w : World) : (zeroValue 276).run Tryz.prog w = .ok (.pointer none) w := zero_of (by kernel_rfl) w
theorem zeroPN (w : World) : (zeroValue 226).run Tryz.prog w = .ok (.pointer none) w := zero_of (by kernel_rfl) w
theorem zeroI (w : World) : (zeroValue 3).run Tryz.prog w = .ok (.int .i64 0) w := zero_of (by kernel_rfl) w

set_option maxHeartbeats 3200000 in
theorem rest_any (r b1 b2 n : Nat) (q : Option Addr) (t : Tr) (l : List Tr) (w : World) (hr : RunAt w r b1 b2) (ht : IsTr w n t) (hq : IsRest w q l) :
    Calls Tryz.prog 176 #[.pointer (some ⟨r, 0, none⟩), .pointer (some ⟨n, 0, none⟩), .pointer q] w fun e w' => ∃ g, e = .returned (.pointer (some ⟨g, 0, none⟩)) ∧ IsRest w' (some ⟨g, 0, none⟩) (t :: l) ∧ RunAt w' r b1 b2 ∧ Stays (fun k => k = b1) w w' := by
  obtain ⟨m1, m2, hr⟩ := hr
  have hb0 : Below w.heap.size w (w.alloc (.cells #[.pointer (some ⟨n, 0, none⟩), .pointer q] 279)) := (Below.refl _ _).alloc (Nat.le_refl _) _
  have hs0 := Stays.of_below hb0 (fun k => k = b1)
  have h0 := Whole1.new w 279 #[.pointer (some ⟨n, 0, none⟩), .pointer q]
  have hr0 := hr.on (Stays.of_below hb0 (fun _ => False)) id id
  have ht0 := isTr_on hs0.cells _ _ ht
  have hq0 := isRest_on hs0.cells _ _ hq
  go_enter Tryz.func176, Tryz.ntmps176
  go_upto_region 2 with (fail)
  obtain ⟨g, hg⟩ : ∃ g, w.heap.size = g := ⟨_, rfl⟩
  rw [hg] at h0 hb0 ⊢
  generalize w.alloc (.cells #[.pointer (some ⟨n, 0, none⟩), .pointer q] 279) = w0 at *
  have hk : PairKey w0.drew (.agg #[.pointer (some ⟨n, 0, none⟩), .pointer q]) := ⟨_, q, rfl, show Laid w0 _ from laid_tr ht0, show Laid w0 _ from laid_rest hq0⟩
  have c0 := hr0.blk.cell 0
  have e0 := h0.cell 0
  have e1 := h0.cell 1
  have hr1 : RunM w0.drew r b1 b2 m1 m2 := hr0.on ((Stays.refl (fun _ => False) w0).drewN 1) id id
  have hL := hr1.map1.look keyRest hr1.keys1 Tryz.underlying322 (zeroPR w0.drew) hk false
  simp only [Bool.false_eq_true, if_false] at hL
  cases hat : atV m1 (.agg #[.pointer (some ⟨n, 0, none⟩), .pointer q]) with
  | none =>
    rw [hat] at hL
    simp only [Option.getD_none] at hL
    go_region
    go_wp2_with fail
    have hr2 : RunM w0.drew.drew r b1 b2 m1 m2 := hr0.on ((Stays.refl (fun _ => False) w0).drewN 2) id id
    obtain ⟨w5, hrun, hm5, hg5, hz5⟩ := hr2.map1.store (P := Tryz.prog) keyRest hr2.keys1 Tryz.underlying322 (show PairKey w0.drew.drew _ from hk) ⟨_, q, rfl⟩ (.pointer (some ⟨g, 0, none⟩))
    clear hL
    go_region
    go_wp2_with fail
    have hst : Stays (fun k => k = b1) w0 w5 := ((Stays.refl (fun k => k = b1) w0).drewN 2).trans (Stays.of_map hr2.map1 hg5 rfl)
    have hr5 : RunM w5 r b1 b2 (putV m1 (.agg #[.pointer (some ⟨n, 0, none⟩), .pointer q]) (.pointer (some ⟨g, 0, none⟩))) m2 := by
      refine ⟨hst.cells _ _ _ hr0.blk, hr0.ne, hm5, hst.mapV hr0.map2 (Ne.symm hr0.ne), fun e he => ?_, fun e he => ?_⟩
      · rw [putV_new _ _ _ ((atV_none _ _).1 hat)] at he
        rcases List.mem_append.1 he with he | he
        · obtain ⟨n', q', g', e1, e2, e3, e4⟩ := hr0.at1 e he
          exact ⟨n', q', g', e1, hst.cells _ _ _ e2, laid_on e3 hst.cells, laid_on e4 hst.cells⟩
        · simp only [List.mem_singleton] at he
          subst he
          exact ⟨n, q, g, rfl, hst.cells _ _ _ h0, laid_on (laid_tr ht0) hst.cells, laid_on (laid_rest hq0) hst.cells⟩
      · obtain ⟨p, g', x, e1, e2, e3⟩ := hr0.at2 e he
        exact ⟨p, g', x, e1, isTr_on hst.cells _ _ e2, isTr_on hst.cells _ _ e3⟩
    have c5 := hr5.blk.cell 0
    have k0 := (hst.cells _ _ _ h0).cell 0
    have k1 := (hst.cells _ _ _ h0).cell 1
    have hr6 : RunM w5.drew r b1 b2 _ m2 := hr5.on ((Stays.refl (fun _ => False) w5).drewN 1) id id
    have hL5 := hr6.map1.look keyRest hr6.keys1 Tryz.underlying322 (zeroPR w5.drew) (show PairKey w5.drew _ from ⟨_, q, rfl, laid_on (laid_tr ht0) hst.cells, laid_on (laid_rest hq0) hst.cells⟩) false
    simp only [Bool.false_eq_true, if_false] at hL5
    rw [atV_put_same, Option.getD_some] at hL5
    clear hrun c0 e0 e1
    go_region
    go_wp2_with fail
    go_ret
    have hst6 := hst.drewN 1
    exact ⟨g, rfl, ⟨g, n, q, rfl, hst6.cells _ _ _ h0, isTr_on hst6.cells _ _ ht0, isRest_on hst6.cells _ _ hq0⟩, ⟨_, m2, hr6⟩, (hs0.trans hst).drewN 1⟩
  | some v => 
    rw [hat] at hL
    simp only [Option.getD_some] at hL
    obtain ⟨n', q', g', e2, hw, _⟩ := hr0.at1 _ (atV_mem _ _ _ hat)
    simp only [kid, Prod.mk.injEq, Value.agg.injEq, Array.mk.injEq, List.cons.injEq, Value.pointer.injEq, and_true, Option.some.injEq, Addr.mk.injEq] at e2
    obtain ⟨⟨rfl, rfl⟩, rfl⟩ := e2
    go_region
    go_wp2_with fail
    clear hL
    have hr2 : RunM w0.drew.drew r b1 b2 m1 m2 := hr0.on ((Stays.refl (fun _ => False) w0).drewN 2) id id
    have hL := hr2.map1.look keyRest hr2.keys1 Tryz.underlying322 (zeroPR w0.drew.drew) (show PairKey w0.drew.drew _ from hk) false
    simp only [Bool.false_eq_true, if_false] at hL
    rw [hat, Option.getD_some] at hL
    go_region
    go_wp2_with fail
    go_ret
    have hst6 := (Stays.refl (fun _ => False) w0).drewN 2
    exact ⟨g', rfl, ⟨g', _, _, rfl, hst6.cells _ _ _ hw, isTr_on hst6.cells _ _ ht0, isRest_on hst6.cells _ _ hq0⟩, ⟨m1, m2, hr2⟩, hs0.drewN 2⟩

set_option maxHeartbeats 3200000 in
theorem star_any (r b1 b2 n : Nat) (x : Tr) (w : World) (hr : RunAt w r b1 b2) (ht : IsTr w n (.plus x)) :
    Calls Tryz.prog 197 #[.pointer (some ⟨r, 0, none⟩), .pointer (some ⟨n, 0, none⟩)] w fun e w' => ∃ g, e = .returned (.pointer (some ⟨g, 0, none⟩)) ∧ IsTr w' g (.star x) ∧ RunAt w' r b1 b2 ∧ Stays (fun k => k = b2) w w' := by
  obtain ⟨m1, m2, hr⟩ := hr
  have hk : PtrKey w (.pointer (some ⟨n, 0, none⟩)) := ⟨_, rfl, laid_tr ht⟩
  have c0 := hr.blk.cell 1
  have hL := hr.map2.look keyNode hr.keys2 Tryz.underlying323 (zeroPN w) hk false
  simp only [Bool.false_eq_true, if_false] at hL
  cases hat : atV m2 (.pointer (some ⟨n, 0, none⟩)) with
  | none =>
    rw [hat] at hL
    simp only [Option.getD_none] at hL
    obtain ⟨p1, hn1, hx⟩ := ht
    obtain ⟨qk, ck, hnode, hkid⟩ := hn1
    have c5 : w.cell? ⟨n, 5, none⟩ = some (.slice (some ⟨qk, 0, none⟩) 1 ck) := Whole1.cell hnode 5
    obtain ⟨w1, hw1⟩ : ∃ w1, (w.alloc (.cells #[.int .i64 4, .int .u64 0, .int .u64 0, .int .u64 0, .int .u64 0, .slice (some ⟨qk, 0, none⟩) 1 ck] 332)).drew = w1 := ⟨_, rfl⟩
    have hs1 : Stays (fun k => k = b2) w w1 := hw1 ▸ ((Stays.refl _ w).alloc _).drewN 1
    have hn2 : Whole1 w1 w.heap.size 332 #[.int .i64 4, .int .u64 0, .int .u64 0, .int .u64 0, .int .u64 0, .slice (some ⟨qk, 0, none⟩) 1 ck] := hw1 ▸ Whole1.new w _ _
    have hr1 : RunM w1 r b1 b2 m1 m2 := hr.on (hw1 ▸ ((Stays.refl (fun _ => False) w).alloc _).drewN 1 : Stays (fun _ => False) w w1) id id
    obtain ⟨w5, hrun, hm5, hg5, hz5⟩ := hr1.map2.store (P := Tryz.prog) keyNode hr1.keys2 Tryz.underlying323 (key := .pointer (some ⟨n, 0, none⟩)) ⟨_, rfl, laid_on (laid_whole hnode) hs1.cells⟩ ⟨_, rfl⟩ (.pointer (some ⟨w.heap.size, 0, none⟩))
    have c7 := hr1.blk.cell 1
    rw [← hw1] at hrun c7
    have hst : Stays (fun k => k = b2) w w5 := hs1.trans (Stays.of_map hr1.map2 hg5 rfl)
    have htr : IsTr w5 n (.plus x) := isTr_on hst.cells _ _ ⟨p1, ⟨qk, ck, hnode, hkid⟩, hx⟩
    have hts : IsTr w5 w.heap.size (.star x) := ⟨p1, ⟨qk, ck, (Stays.of_map (F := fun k => k = b2) hr1.map2 hg5 rfl).cells _ _ _ hn2, hst.cells _ _ _ hkid⟩, isTr_on hst.cells _ _ hx⟩
    have hr5 : RunM w5 r b1 b2 m1 (putV m2 (.pointer (some ⟨n, 0, none⟩)) (.pointer (some ⟨w.heap.size, 0, none⟩))) := by
      refine ⟨hst.cells _ _ _ hr.blk, hr.ne, hst.mapV hr.map1 hr.ne, hm5, fun e he => ?_, fun e he => ?_⟩
      · obtain ⟨n', q', g', e1, e2, e3, e4⟩ := hr.at1 e he
        exact ⟨n', q', g', e1, hst.cells _ _ _ e2, laid_on e3 hst.cells, laid_on e4 hst.cells⟩
      · rw [putV_new _ _ _ ((atV_none _ _).1 hat)] at he
        rcases List.mem_append.1 he with he | he
        · obtain ⟨p, g', y, e1, e2, e3⟩ := hr.at2 e he
          exact ⟨p, g', y, e1, isTr_on hst.cells _ _ e2, isTr_on hst.cells _ _ e3⟩
        · simp only [List.mem_singleton] at he
          subst he
          exact ⟨n, w.heap.size, x, rfl, htr, hts⟩
    have c6 := hr5.blk.cell 1
    have hL5 := hr5.map2.look keyNode hr5.keys2 Tryz.underlying323 (zeroPN w5) ⟨_, rfl, laid_tr htr⟩ false
    simp only [Bool.false_eq_true, if_false] at hL5
    rw [atV_put_same, Option.getD_some] at hL5
    have HW1 := hidden hw1
    clear hw1
    go_enter Tryz.func197, Tryz.ntmps197
    go_wp2_with fail
    clear hL
    go_region
    go_wp2_with fail
    go_ret
    exact ⟨_, rfl, hts, ⟨m1, _, hr5⟩, hst⟩
  | some v => 
    rw [hat] at hL
    simp only [Option.getD_some] at hL
    obtain ⟨n', g', y, e2, hw, hy⟩ := hr.at2 _ (atV_mem _ _ _ hat)
    simp only [kid, Prod.mk.injEq, Value.pointer.injEq, and_true, Option.some.injEq, Addr.mk.injEq] at e2
    obtain ⟨rfl, rfl⟩ := e2
    have e3 := isTr_one _ _ _ ht hw
    simp only [Tr.plus.injEq] at e3
    subst e3
    go_enter Tryz.func197, Tryz.ntmps197
    go_wp2_with fail
    go_ret
    exact ⟨_, rfl, hy, ⟨m1, m2, hr⟩, Stays.refl _ _⟩
end Go.Proofs.YthncochjhbmceaaGreat
