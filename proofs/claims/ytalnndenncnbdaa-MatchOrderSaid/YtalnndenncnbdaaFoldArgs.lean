/- How the laws' lists of samples and of windows read. No condition. -/
import Derived.Test.YtalnndenncnbdaaBase
import Derived.Test.YtalnndenncnbdaaFoldCells
namespace Go.Proofs.Ytalnndenncnbdaa
set_option maxRecDepth 100000
open Go.RowKit Go.WideShapes Go.ChangeShapes

theorem own_prog : ownKnob Try.prog.godebug = none := by kernel_rfl
theorem laidOut : laidOutB Try.prog = true := by kernel_rfl
def Win.ok (x : Win) : Prop := (-9223372036854775808 ≤ x.count ∧ x.count < 9223372036854775808) ∧ x.sum < 18446744073709551616 ∧ x.min < 18446744073709551616 ∧ x.max < 18446744073709551616 ∧ x.last < 18446744073709551616
def Win.ok2 (x : Win) : Prop := x.ok ∧ -9223372036854775808 ≤ x.start ∧ x.start < 9223372036854775808

theorem wf_i64 {x : Int} (h : (Lit.int .i64 x).wf = true) : -9223372036854775808 ≤ x ∧ x < 9223372036854775808 := by
  have h1 : IntKind.i64.min = -9223372036854775808 := rfl
  have h2 : IntKind.i64.max = 9223372036854775807 := rfl
  simp only [Lit.wf, Bool.and_eq_true, decide_eq_true_eq] at h
  omega
theorem wf_u64 {x : Int} (h : (Lit.int .u64 x).wf = true) : 0 ≤ x ∧ x < 18446744073709551616 := by
  have h1 : IntKind.u64.min = 0 := rfl
  have h2 : IntKind.u64.max = 18446744073709551615 := rfl
  simp only [Lit.wf, Bool.and_eq_true, decide_eq_true_eq] at h
  omega

theorem toSmps (L : List (List Int)) (h : ∀ r ∈ L, r.length = 2 ∧ ∀ (j : Nat) (k : IntKind) (x : Int), [IntKind.i64, .u64][j]? = some k → r[j]? = some x → (Lit.int k x).wf = true) :
    ∃ l : List Smp, l.length = L.length ∧ smpCells l = L.flatMap (intRow [.i64, .u64]) ∧ (∀ s ∈ l, s.ok ∧ -9223372036854775808 ≤ s.t ∧ s.t < 9223372036854775808) := by
  induction L with
  | nil => exact ⟨[], rfl, rfl, by simp⟩
  | cons r L ih =>
    obtain ⟨l, h1, h2, h3⟩ := ih (fun r hr => h r (by simp [hr]))
    obtain ⟨hr, hw⟩ := h r (by simp)
    match r, hr with
    | [a, b], _ =>
      have w0 := wf_i64 (hw 0 .i64 a rfl rfl)
      have w1 := wf_u64 (hw 1 .u64 b rfl rfl)
      obtain ⟨b, rfl⟩ := Int.eq_ofNat_of_zero_le w1.1
      refine ⟨⟨a, b⟩ :: l, by simp [h1], ?_, ?_⟩
      · simp only [smpCells, List.flatMap_cons, intRow, List.zipWith_cons_cons, List.zipWith_nil_left] at h2 ⊢
        rw [h2]
      · intro s hs
        rcases List.mem_cons.1 hs with rfl | hs
        · exact ⟨by show b < _; omega, w0.1, w0.2⟩
        · exact h3 s hs

theorem toWins (L : List (List Int)) (h : ∀ r ∈ L, r.length = 6 ∧ ∀ (j : Nat) (k : IntKind) (x : Int), [IntKind.i64, .i64, .u64, .u64, .u64, .u64][j]? = some k → r[j]? = some x → (Lit.int k x).wf = true) :
    ∃ l : List Win, l.length = L.length ∧ winCells l = L.flatMap (intRow [.i64, .i64, .u64, .u64, .u64, .u64]) ∧ (∀ s ∈ l, s.ok2) := by
  induction L with
  | nil => exact ⟨[], rfl, rfl, by simp⟩
  | cons r L ih =>
    obtain ⟨l, h1, h2, h3⟩ := ih (fun r hr => h r (by simp [hr]))
    obtain ⟨hr, hw⟩ := h r (by simp)
    match r, hr with
    | [a, b, c, d, e, f], _ =>
      have w0 := wf_i64 (hw 0 .i64 a rfl rfl)
      have w1 := wf_i64 (hw 1 .i64 b rfl rfl)
      have w2 := wf_u64 (hw 2 .u64 c rfl rfl)
      have w3 := wf_u64 (hw 3 .u64 d rfl rfl)
      have w4 := wf_u64 (hw 4 .u64 e rfl rfl)
      have w5 := wf_u64 (hw 5 .u64 f rfl rfl)
      obtain ⟨c, rfl⟩ := Int.eq_ofNat_of_zero_le w2.1
      obtain ⟨d, rfl⟩ := Int.eq_ofNat_of_zero_le w3.1
      obtain ⟨e, rfl⟩ := Int.eq_ofNat_of_zero_le w4.1
      obtain ⟨f, rfl⟩ := Int.eq_ofNat_of_zero_le w5.1
      refine ⟨⟨a, b, c, d, e, f⟩ :: l, by simp [h1], ?_, ?_⟩
      · rw [winCells_cons, h2]
        simp [intRow]
      · intro s hs
        rcases List.mem_cons.1 hs with rfl | hs
        · exact ⟨⟨w1, by show c < _; omega, by show d < _; omega, by show e < _; omega, by show f < _; omega⟩, w0.1, w0.2⟩
        · exact h3 s hs

section
variable {H : Type} {enc : TypeId × Value → H} {W : World}

/-- what the reach says of a list -/
theorem reach_of {P : Program} {ts : List TypeId} {ds : List (DataW H)} (h : (DataW.weightsEach P ts ds).all (· ≤ reachBytes) = true) {j n : Nat} {t e : TypeId} {d : DataW H} (ht : ts[j]? = some t) (hd : ds[j]? = some d)
    (hu : P.underlying t = some (.slice e)) (hd2 : (n = 0 ∧ d = .nil) ∨ ∃ es sp : List (DataW H), d = .slice es sp ∧ es.length = n) : n * P.bytesOf e ≤ 140737488351232 := by
  rcases hd2 with ⟨rfl, _⟩ | ⟨es, sp, rfl, rfl⟩
  · omega
  · have h1 := sized_slice h ht hd hu
    have h2 : es.length * P.bytesOf e ≤ (es.length + sp.length) * P.bytesOf e := Nat.mul_le_mul_right _ (by omega)
    simp only [reachBytes] at h1
    omega
end
end Go.Proofs.Ytalnndenncnbdaa
