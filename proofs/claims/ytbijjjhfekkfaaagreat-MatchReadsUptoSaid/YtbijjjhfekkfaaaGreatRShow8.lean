/- The document's text of one matcher, walked. Condition: the texts are not too long. -/
import Derived.Test.YtbijjjhfekkfaaaGreatRRead8
import Derived.Test.YtbijjjhfekkfaaaGreatPk8339b52f
import Derived.Test.YtbijjjhfekkfaaaGreatPkc6c90f11
namespace Go.Proofs.YtbijjjhfekkfaaaGreat
set_option maxRecDepth 1000000
open Go.RowKit

theorem rsgn_any (k : Nat) (hk : k < 4) (w : World) : Calls Tryz.prog 59 #[.int .i64 (k : Int)] w fun e w' => e = .returned (.string (signK k)) ∧ w' = w := by
  obtain rfl | rfl | rfl | rfl : k = 0 ∨ k = 1 ∨ k = 2 ∨ k = 3 := by omega
  all_goals
    go_enter Tryz.func59, Tryz.ntmps59
    go_wp2_with fail
    go_ret
    exact ⟨rfl, rfl⟩
set_option maxHeartbeats 1600000 in
theorem rshow8_any (g o c : Nat) (x : Ask) (w : World) (hk : 0 ≤ x.kind ∧ x.kind < 4) (hn : x.name.size ≤ 16777216) (hv : x.value.size ≤ 16777216) (c0 : w.cell? ⟨g, o, none⟩ = some (.int .i64 x.kind)) (c1 : w.cell? ⟨g, o + 1, none⟩ = some (.string x.name)) (c2 : w.cell? ⟨g, o + 2, none⟩ = some (.string x.value)) (hg : g < w.heap.size) :
    Calls Tryz.prog 14 #[.slice (some ⟨g, o, none⟩) 1 c] w fun e w' => e = .returned (.string (showA x)) ∧ Below w.heap.size w w' := by
  obtain ⟨kd, nm, vl⟩ := x
  obtain ⟨k, rfl⟩ : ∃ k : Nat, kd = k := ⟨kd.toNat, by simp only at hk; omega⟩
  simp only at hk hn hv c0 c1 c2
  have hk4 : k < 4 := by omega
  have S1 := hidden (rquote_any vl w (by omega))
  have S2 := hidden (fun W => rsgn_any k hk4 W)
  have hsg : (signK k).size ≤ 2 := by
    have hkk : k = 0 ∨ k = 1 ∨ k = 2 ∨ k = 3 := by omega
    rcases hkk with rfl | rfl | rfl | rfl <;> decide
  have hql : (⟨(quoteL vl.data.toList).toArray⟩ : ByteArray).size ≤ 140737488 := by
    have h1 := quoL_len vl.data.toList
    have h2 : vl.data.toList.length = vl.size := rfl
    show (quoteL vl.data.toList).toArray.size ≤ _
    rw [List.size_toArray, quoteL, List.length_cons, List.length_append, List.length_singleton]
    omega
  obtain ⟨Q, hQ⟩ : ∃ Q, (⟨(quoteL vl.data.toList).toArray⟩ : ByteArray) = Q := ⟨_, rfl⟩
  obtain ⟨sg, hsgk⟩ : ∃ sg, signK k = sg := ⟨_, rfl⟩
  rw [hQ] at S1 hql
  rw [hsgk] at S2 hsg
  have HF := hidden (show showA ⟨(k : Int), nm, vl⟩ = nm ++ sg ++ Q from by rw [← hQ, ← hsgk]; show showM (k : Int).toNat nm vl = _; rw [Int.toNat_natCast]; rfl)
  have he : ∀ b : ByteArray, (⟨#[]⟩ : ByteArray) ++ b = b := fun b => bytes_eq (by simp)
  have ha0 : ∀ w, (Op.stringOp .add ⟨#[]⟩ nm).run Tryz.prog w = .ok (.string nm) w := fun w => by
    rw [run_string_add_sum w _ _ (by rw [show (⟨#[]⟩ : ByteArray).size = 0 from rfl]; omega), he]
  have ha1 : ∀ w, (Op.stringOp .add nm sg).run Tryz.prog w = .ok (.string (nm ++ sg)) w := fun w => run_string_add_sum w _ _ (by omega)
  have ha2 : ∀ w, (Op.stringOp .add (nm ++ sg) Q).run Tryz.prog w = .ok (.string (nm ++ sg ++ Q)) w := fun w => run_string_add_sum w _ _ (by rw [ByteArray.size_append]; omega)
  clear hQ hsgk hk
  go_enter Tryz.func14, Tryz.ntmps14
  go_wp2_with fail
  refine wp_loop_rounds 2 ?_
  rw [rounds_succ]
  go_wp2_with fail
  refine S1.out.mono ?_
  rintro e w2 ⟨rfl, b2⟩
  have d0 := (b2.cell (p := ⟨g, o, none⟩) hg).trans c0
  have d1 := (b2.cell (p := ⟨g, o + 1, none⟩) hg).trans c1
  have HB := hidden b2
  clear b2 c0 c1 c2
  go_wp2_with fail
  refine (S2.out _).mono ?_
  rintro e w3 ⟨rfl, rfl⟩
  go_wp2_with fail
  rw [rounds_succ]
  go_wp2_with fail
  go_ret
  rw [HF.out]
  exact ⟨rfl, HB.out⟩
end Go.Proofs.YtbijjjhfekkfaaaGreat
