/- SpansSet: facts of its loops. -/
import Derived.Test.YtjklonfheenfbaaSpnLaw
namespace Go.Proofs.Ytjklonfheenfbaa
set_option maxRecDepth 100000
open Go.RowKit Go.WideShapes Go.ChangeShapes Go.Shelf

theorem spF_own {w' : World} {B n : Nat} {t : TypeId} {v : Value} {R : List Spn} (ho : w'.ownsRow B t 2 v n (R.flatMap Spn.cells)) (hl : R.length = n) (hf : n * 16 ≤ 140737488351232) (hok : ∀ x ∈ R, x.ok) : ∃ A c, v = .slice A n c ∧ SpF w' A n R := by
  obtain ⟨A, c, rfl, _, hr⟩ := own_shape ho
  exact ⟨A, c, rfl, hr, hl, hf, hok⟩
theorem ok_app {a b : List Spn} (h : ∀ x ∈ a, x.ok) (k : ∀ x ∈ b, x.ok) : ∀ x ∈ a ++ b, x.ok := fun x hx => (List.mem_append.1 hx).elim (h x) (k x)

theorem set_covers {l k R : List Spn} (h : OfRes (l ++ k) R) {x : Spn} (hx : x ∈ k) : coversB R x.frm x.til = true := by
  unfold coversB
  by_cases hlt : x.til < x.frm
  · simp [hlt]
  · obtain ⟨z, hz, h1, h2⟩ := oneS_covers h.one (a := x.frm) (b := x.til) (by omega) fun t h1 h2 => by
      rw [h.has, hasP_app, hasP_iff.2 ⟨x, hx, h1, h2⟩, Bool.or_true]
    unfold covP
    rw [Bool.or_eq_true, List.any_eq_true]
    exact .inr ⟨z, hz, by simp [covS, h1, h2]⟩
theorem oneS_gap {R : List Spn} (h : OneS R) {p : Nat} {x y : Spn} (hy : R[p]? = some y) (hx : R[p + 1]? = some x) : y.til + 1 < x.frm := by
  obtain ⟨h1, rfl⟩ := List.getElem?_eq_some_iff.1 hy
  obtain ⟨h2, rfl⟩ := List.getElem?_eq_some_iff.1 hx
  exact List.pairwise_iff_getElem.1 h.gap p (p + 1) h1 h2 (by omega)
theorem w64n {p : Nat} (h : p < 4611686018427387904) : wrap64 (p : Int) = (p : Int) := by unfold wrap64; omega
theorem w64t {p : Nat} (h : p < 4611686018427387904) : (wrap64 (p : Int)).toNat = p := by rw [w64n h]; exact Int.toNat_natCast p
theorem w64s {a : Int} (h : -9223372036854775808 ≤ a) (h2 : a < 9223372036854775808) : wrap64 a = a := by unfold wrap64; omega
theorem set_meas {p N : Nat} (h : wrap64 ((p : Int) + 1 + 1) = (p : Int) + 1 + 1) (h2 : p + 1 < N) : N - (intOf (.int .i64 (wrap64 ((p : Int) + 1 + 1)))).toNat < N - (intOf (.int .i64 ((p + 1 : Nat) : Int))).toNat := by
  rw [h]; simp only [intOf]; omega
theorem lt_of_fit {p N : Nat} (h : N * 16 ≤ 140737488351232) (h2 : p + 1 < N) : p < 4611686018427387904 := by omega
theorem set_prev {wa : World} {gs o p N : Nat} {u v : Value} (hp : p < 4611686018427387904) (q4 : (p : Int) < (N : Int)) (d0 : wa.cell? ⟨gs, o + p * 2, none⟩ = some u) (d1 : wa.cell? ⟨gs, o + p * 2 + 1, none⟩ = some v) :
    wrap64 (p : Int) < (N : Int) ∧ (0 : Int) ≤ wrap64 (p : Int) ∧ wa.cell? ⟨gs, o + (wrap64 (p : Int)).toNat * 2, none⟩ = some u ∧ wa.cell? ⟨gs, o + (wrap64 (p : Int)).toNat * 2 + 1, none⟩ = some v := by
  rw [w64t hp, w64n hp]
  exact ⟨q4, by omega, d0, d1⟩
theorem set_dec {a b : Int} (h : wrap64 a = a) (k : decide (a ≤ b) = false) : decide (wrap64 a ≤ b) = false := by rw [h]; exact k
theorem set_clip {l R : List Spn} (h : OfRes l R) (x : Spn) (t : Int) : hasP (clipS x.frm x.til R) t = (hasP l t && inSpn x t) := by
  rw [clipS_has, h.has]

end Go.Proofs.Ytjklonfheenfbaa
