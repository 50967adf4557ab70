/- match: Show, walked. Condition: the text is within the reach. -/
import Derived.Test.YtalnndenncnbdaaMatN
import Derived.Test.YtalnndenncnbdaaQuo
import Derived.Deep.RegionHeld3
import Derived.Laws.Concat
namespace Go.Proofs.Ytalnndenncnbdaa
set_option maxRecDepth 100000
open Go.RowKit

/-- a kind's sign -/
def signK (k : Nat) : ByteArray := if k = 0 then ⟨#[61]⟩ else if k = 1 then ⟨#[33, 61]⟩ else if k = 2 then ⟨#[61, 126]⟩ else ⟨#[33, 126]⟩
/-- a matcher's text -/
def showM (k : Nat) (name value : ByteArray) : ByteArray := name ++ signK k ++ ⟨(quoteL value.data.toList).toArray⟩
theorem signs_any (w : World) : Calls Try.prog 19 #[] w fun e w' => e = .returned (.agg #[.string ⟨#[61]⟩, .string ⟨#[33, 61]⟩, .string ⟨#[61, 126]⟩, .string ⟨#[33, 126]⟩]) ∧ Below w.heap.size w w' := by
  have hw := Whole1.new w 52 #[.string ⟨#[61]⟩, .string ⟨#[33, 61]⟩, .string ⟨#[61, 126]⟩, .string ⟨#[33, 126]⟩]
  have c0 := hw.cell 0
  have c1 := hw.cell 1
  have c2 := hw.cell 2
  have c3 := hw.cell 3
  have hb : Below w.heap.size w (w.alloc (.cells #[.string ⟨#[61]⟩, .string ⟨#[33, 61]⟩, .string ⟨#[61, 126]⟩, .string ⟨#[33, 126]⟩] 52)) := (Below.refl _ _).alloc (Nat.le_refl _) _
  clear hw
  go_enter Try.func19, Try.ntmps19
  go_wp2_with fail
  simp [bodyPost, results, Try.results19, go_sem, c0, c1, c2, c3, hb]

theorem ix_arr {P : Program} {t e : TypeId} {n i : Nat} {d : TypeDesc} {f : TypeInfo} {cs : Array Value} {v : Value} (ht : P.underlying t = some (.array n e)) (he : P.underlying e = some d) (hd : (match d with | .struct _ | .array _ _ => true | _ => false) = false) (hf : P.info? e = some f) (hs : f.size = 1) (hi : i < n) (hv : cs[i]? = some v) (w : World) :
    (Instr.index t (.agg cs) (.int .i64 (i : Int))).run P w = .ok v w := by
  have h1 : (0 : Int) ≤ (i : Int) ∧ (i : Int) < (n : Int) := by omega
  have hp : (part e cs i).run P w = .ok v w := by
    cases d <;> simp at hd <;> simp [part, isAgg, run_underlying he, hv]
  simp [Instr.index, run_underlying ht, sizeOf, typeInfo, hf, hs, h1, hp, Result.andThen, asIntOf]
  intro h; omega
theorem infoStr : (Try.prog.info? 9).map (fun i => i.size) = some 1 := by kernel_rfl
theorem ix_signs (k : Nat) (hk : k < 4) (w : World) : (Instr.index 52 (.agg #[.string ⟨#[61]⟩, .string ⟨#[33, 61]⟩, .string ⟨#[61, 126]⟩, .string ⟨#[33, 126]⟩]) (.int .i64 (k : Int))).run Try.prog w = .ok (.string (signK k)) w := by
  obtain ⟨f, hf, hs⟩ := Option.map_eq_some_iff.1 infoStr
  refine ix_arr Try.underlying52 Try.underlying9 rfl hf hs hk ?_ w
  have hkk : k = 0 ∨ k = 1 ∨ k = 2 ∨ k = 3 := by omega
  rcases hkk with rfl | rfl | rfl | rfl <;> rfl

set_option maxHeartbeats 3200000 in
theorem mshow_any (M : Nat) (k : Nat) (name value : ByteArray) (F : ByteArray → Bool) (w : World) (h : MatAt w M k name value F) (hk : k < 4) (hn : name.size ≤ 140737488355328) (hv : value.size * 4 + 2 ≤ 140737488355328) :
    Calls Try.prog 10 #[.pointer (some ⟨M, 0, none⟩)] w fun e w' => e = .returned (.string (showM k name value)) ∧ Below w.heap.size w w' := by
  obtain ⟨fv, h1, _⟩ := h
  have H := hidden (fun W (hW : Below w.heap.size w W) => (⟨(h1.below hW h1.lt).cell 0, (h1.below hW h1.lt).cell 1, (h1.below hW h1.lt).cell 2⟩ : W.cell? ⟨M, 0, none⟩ = some (.int .i64 (k : Int)) ∧ W.cell? ⟨M, 1, none⟩ = some (.string name) ∧ W.cell? ⟨M, 2, none⟩ = some (.string value)))
  have hix := ix_signs k hk
  have eS : showM k name value = name ++ signK k ++ ⟨(quoteL value.data.toList).toArray⟩ := rfl
  rw [eS]
  have hsg : (signK k).size ≤ 2 := by
    have hkk : k = 0 ∨ k = 1 ∨ k = 2 ∨ k = 3 := by omega
    rcases hkk with rfl | rfl | rfl | rfl <;> decide
  have hql : (⟨(quoteL value.data.toList).toArray⟩ : ByteArray).size ≤ 140737488355328 := by
    have h1 := quoL_len value.data.toList
    have h2 : value.data.toList.length = value.size := rfl
    show (quoteL value.data.toList).toArray.size ≤ _
    rw [List.size_toArray, quoteL, List.length_cons, List.length_append, List.length_singleton]
    omega
  generalize signK k = sg at *
  have ha1 : ∀ w, (Op.stringOp .add name sg).run Try.prog w = .ok (.string (name ++ sg)) w := fun w => run_string_add_sum w _ _ (by omega)
  have ha2 : ∀ w, (Op.stringOp .add (name ++ sg) ⟨(quoteL value.data.toList).toArray⟩).run Try.prog w = .ok (.string (name ++ sg ++ ⟨(quoteL value.data.toList).toArray⟩)) w := fun w => run_string_add_sum w _ _ (by rw [ByteArray.size_append]; omega)
  clear h1 eS hsg
  obtain ⟨Q, hQ⟩ : ∃ Q, (⟨(quoteL value.data.toList).toArray⟩ : ByteArray) = Q := ⟨_, rfl⟩
  have SQ := hidden (fun W => lquote_any value W hv)
  rw [hQ] at ha2 SQ ⊢
  clear hQ hql
  go_enter Try.func10, Try.ntmps10
  go_upto_region 3 with (fail)
  go_region_held3 (fun W => W.cell? ⟨M, 0, none⟩ = some (.int .i64 (k : Int)) ∧ W.cell? ⟨M, 1, none⟩ = some (.string name) ∧ W.cell? ⟨M, 2, none⟩ = some (.string value))
      (first | exact H.out _ (Below.refl _ _) | exact H.out _ (Below.refl _ _).drew | exact H.out _ (by assumption))
      (first
        | (go_at_call 19; refine (signs_any _).mono ?_; rintro e wA ⟨rfl, bA⟩; have kA : Below w.heap.size w wA := (by first | exact (kB.trans (bA.mono kB.size)) | exact (Below.refl _ _).drew.trans bA))
        | (go_at_call 20; refine (SQ.out _).mono ?_; rintro e wB ⟨rfl, bB⟩; have kB : Below w.heap.size w wB := (by first | exact (kA.trans (bB.mono kA.size)) | exact (Below.refl _ _).drew.trans bB)))
  all_goals (
    go_wp2_with fail
    go_ret
    refine ⟨rfl, ?_⟩
    first | exact kB | exact kA)
end Go.Proofs.Ytalnndenncnbdaa
