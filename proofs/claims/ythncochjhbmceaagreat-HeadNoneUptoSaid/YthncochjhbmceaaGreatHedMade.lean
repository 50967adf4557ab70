/- A head that plans made, and how many entries the first calls bring. No program is walked here. -/
import Derived.Test.YthncochjhbmceaaGreatHedWak
import Derived.Test.YthncochjhbmceaaGreatOpE18
namespace Go.Proofs.YthncochjhbmceaaGreat
set_option maxRecDepth 100000
open Go.RowKit Go.WideShapes Go.ChangeShapes

/-- how many entries the first k calls bring -/
def usedN (os : List OpR) (k : Nat) : Nat := ((os.take k).map fun o => o.bat.n).sum
theorem usedN_snoc {os : List OpR} {k : Nat} {o : OpR} (h : os[k]? = some o) : usedN os (k + 1) = usedN os k + o.bat.n := by
  unfold usedN
  rw [take_snoc? h]
  simp
theorem usedN_le (os : List OpR) (k : Nat) : usedN os k ≤ (os.map fun o => o.bat.n).sum := by
  have h : (os.map fun o => o.bat.n).sum = usedN os k + ((os.drop k).map fun o => o.bat.n).sum := by
    unfold usedN
    rw [← List.sum_append, ← List.map_append, List.take_append_drop]
  omega
/-- a head that plans made of so many entries -/
structure MadeH (w : World) (base h : Nat) (E : List (List Lbl)) (X : List HsR) (c : Nat) : Prop where
  hed : Hed w base h E X
  inv : HInv (X.map HsR.p)
  few : E.length ≤ c
  cnt : cntP (X.map HsR.p) ≤ c
theorem MadeH.below {w w' : World} {base h c : Nat} {E : List (List Lbl)} {X : List HsR} (k : MadeH w base h E X c) (hb : Below w.heap.size w w') : MadeH w' base h E X c := ⟨k.hed.below hb, k.inv, k.few, k.cnt⟩
theorem MadeH.more {w : World} {base h c c' : Nat} {E : List (List Lbl)} {X : List HsR} (k : MadeH w base h E X c) (hc : c ≤ c') : MadeH w base h E X c' := ⟨k.hed, k.inv, Nat.le_trans k.few hc, Nat.le_trans k.cnt hc⟩
/-- a plan over a head that plans made -/
theorem MadeH.plan {w : World} {base h c : Nat} {E : List (List Lbl)} {X : List HsR} (k : MadeH w base h E X c) (xs : List EntR) : PlanI (T0 E X) (xs.map EntR.p) (planB (T0 E X) (xs.map EntR.p)) := by
  obtain ⟨_, _, hb⟩ := k.hed
  have h1 : (T0 E X).map (·.1) = E := by unfold T0; exact List.map_fst_zip (by rw [List.length_map, hb.len]; exact Nat.le_refl _)
  exact planI (by rw [h1]; exact hb.idx.valid.2) _
theorem MadeH.tk {w : World} {base h c : Nat} {E : List (List Lbl)} {X : List HsR} (k : MadeH w base h E X c) {xs : List EntR} (hx : ∀ x ∈ xs, x.v < 18446744073709551616) : TookP E (X.map HsR.p) (xs.map EntR.p) (planB (T0 E X) (xs.map EntR.p)) := by
  obtain ⟨_, _, hb⟩ := k.hed
  have := Go.Proofs.YthncochjhbmceaaGreat.took (E := E) (S := X.map HsR.p) k.inv (by rw [List.length_map]; exact hb.len) hb.idx.valid.2 (xs.map EntR.p) (fun x hx2 => by obtain ⟨y, hy, rfl⟩ := List.mem_map.1 hx2; exact hx y hy)
  rw [← t0_of] at this
  exact this
/-- what a plan that took effect made -/
theorem MadeH.applied {w w' : World} {base h c n : Nat} {E : List (List Lbl)} {X X' : List HsR} (k : MadeH w base h E X c) {xs : List EntR} (hx : ∀ x ∈ xs, x.v < 18446744073709551616) (hn : xs.length = n)
    (hh : Hed w' base h (E ++ (planB (T0 E X) (xs.map EntR.p)).N) X') (hp : X'.map HsR.p = afterS (X.map HsR.p) (planB (T0 E X) (xs.map EntR.p))) : MadeH w' base h (E ++ (planB (T0 E X) (xs.map EntR.p)).N) X' (c + n) := by
  have ht := k.tk hx
  have I := k.plan xs
  have h1 := I.few
  have h2 := plan_few I
  rw [List.length_map, hn] at h2
  refine ⟨hh, by rw [hp]; exact ht.inv, ?_, ?_⟩
  · rw [List.length_append]; have := k.few; omega
  · rw [hp, ht.cnt]; have := k.cnt; omega
end Go.Proofs.YthncochjhbmceaaGreat
