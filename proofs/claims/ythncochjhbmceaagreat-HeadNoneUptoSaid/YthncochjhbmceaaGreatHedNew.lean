/- head.New, Len, walked. No condition. -/
import Derived.Test.YthncochjhbmceaaGreatHedM
import Derived.Test.YthncochjhbmceaaGreatPkdffa1c1c
namespace Go.Proofs.YthncochjhbmceaaGreat
set_option maxRecDepth 100000
open Go.RowKit

theorem hed_new (w : World) {base : Nat} (hb : base ≤ w.heap.size) :
    Calls Tryz.prog 7 #[] w fun e w' => ∃ h, e = .returned (.pointer (some ⟨h, 0, none⟩)) ∧ Hed w' base h [] [] ∧ Below w.heap.size w w' := by
  have S1 := hidden (idx_new w hb)
  go_enter Tryz.func7, Tryz.ntmps7
  go_wp2_with fail
  refine S1.out.mono ?_
  rintro e w2 ⟨p, rfl, hi, b2⟩
  have hbs := b2.size
  have HF := hidden (show Hed (w2.alloc (.cells #[.pointer (some ⟨p, 0, none⟩), .slice none 0 0] 99)) base w2.heap.size [] [] ∧ Below w.heap.size w (w2.alloc (.cells #[.pointer (some ⟨p, 0, none⟩), .slice none 0 0] 99)) from
    ⟨⟨p, _, Whole1.new _ _ _, by omega, hi.below ((Below.refl _ _).alloc (Nat.le_refl _) _), World.ownsRow_nil _ _ _ _, rfl, by simp, List.Pairwise.nil⟩, b2.alloc hbs _⟩)
  clear hi b2 S1
  go_wp2_with fail
  go_ret
  exact ⟨_, rfl, HF.out⟩
theorem hed_len (w : World) {base h : Nat} {E : List (List Lbl)} {X : List HsR} (hh : Hed w base h E X) :
    Calls Tryz.prog 14 #[.pointer (some ⟨h, 0, none⟩)] w fun e w' => e = .returned (.int .i64 (E.length : Int)) ∧ w' = w := by
  obtain ⟨ip, sv, hh⟩ := hh
  have c0 := hh.blk.cell 0
  have S1 := hidden (idx_len w hh.idx)
  clear hh
  go_enter Tryz.func14, Tryz.ntmps14
  go_wp2_with fail
  refine S1.out.mono ?_
  rintro e w2 ⟨rfl, rfl⟩
  go_wp2_with fail
  go_ret
  exact ⟨rfl, rfl⟩
end Go.Proofs.YthncochjhbmceaaGreat
