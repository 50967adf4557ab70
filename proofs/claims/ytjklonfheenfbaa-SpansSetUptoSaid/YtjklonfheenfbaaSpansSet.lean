/- SpansSet: without the document's answer: a list is a set of times. Condition: the arguments are within the bulk that the statement names. -/
import Derived.Test.YtjklonfheenfbaaSetA
import Derived.Test.YtjklonfheenfbaaSetB
import Derived.Test.YtjklonfheenfbaaSetC
namespace Go.Proofs.Ytjklonfheenfbaa
set_option maxRecDepth 100000
open Go.RowKit Go.WideShapes Go.ChangeShapes Go.Shelf

theorem spansSet_any (A : Option Addr) (n c : Nat) (l : List Spn) (B : Option Addr) (m d : Nat) (k : List Spn) (t : Int) (w : World) (h : SpF w A n l) (h2 : SpF w B m k) (hn : n ≤ 1048576) (hm : m ≤ 1048576) :
    Calls Try.prog 6 #[.slice A n c, .slice B m d, .int .i64 t] w fun e w' => e = .returned (.bool true) ∧ Below w.heap.size w w' := by
  cases ha : hasP l t with
  | true => exact spansSet_C A n c l B m d k t w h h2 hn hm ha
  | false =>
    cases hb : hasP k t with
    | true => exact spansSet_B A n c l B m d k t w h h2 hn hm ha hb
    | false => exact spansSet_A A n c l B m d k t w h h2 hn hm ha hb

section
variable {H : Type} {enc : TypeId × Value → H} {W : World} {b : Nat}
theorem open_spans_n {base : Nat} {v : Value} {d : DataW H} {ps : List MemPlace} (hv : Value.okWide Try.prog W .any base 30 v) (h : DataW.Trod enc Try.prog W 0 (fun _ => true) true 30 v d ps) (hF : Fits Try.prog W b 30 (d, ps)) :
    ∃ s : Sl Spn, v = s.val ∧ SpF W s.A s.n s.l ∧ s.n ≤ b := by
  obtain ⟨s, rfl, hs, hok, hn, hb⟩ := open_arg_slice (k := 2) (f := Spn.cells) Try.underlying30 (by kernel_rfl) (by decide) (fun _ => rfl) opens_spn hv h hF
  rw [show Try.prog.bytesOf 51 = 16 from by kernel_rfl] at hn
  simp only [reachBytes] at hn
  exact ⟨s, rfl, ⟨hs.2.2, hs.2.1, hn, hok⟩, hb⟩
end

theorem spansSet_walk {H : Type} (enc : TypeId × Value → H) : LawWalk enc Try.prog 6 Try.f6 (fun ds => Rows.uptoBulkAll ds ≤ 1048576) := by
  intro W base args ds p hval hA hlt hsz hcond
  rw [Try.params6] at hval hA hsz
  obtain ⟨v0, vs0, d0, ds0, p0, q0, hargs, rfl, rfl, h0, r0⟩ := trodAll_cons hA
  obtain ⟨v1, vs1, d1, ds1, p1, q1, rfl, rfl, rfl, h1, r1⟩ := trodAll_cons r0
  obtain ⟨v2, vs2, d2, ds2, p2, q2, rfl, rfl, rfl, h2, r2⟩ := trodAll_cons r1
  obtain ⟨rfl, rfl, rfl⟩ := trodAll_nil r2
  obtain rfl : args = #[v0, v1, v2] := by cases args; simp_all
  obtain ⟨t, rfl, ht⟩ := open_arg_int Try.underlying2 (hval 2 2 v2 rfl rfl) h2
  obtain ⟨s, rfl, hs, hsn⟩ := open_spans_n (hval 0 30 v0 rfl rfl) h0 (arg_fits (b := Rows.uptoBulkAll [d0, d1, d2]) (j := 0) rfl rfl (fun x hx => hlt x (by simp [hx])) hsz (Nat.le_refl _))
  obtain ⟨r, rfl, hr, hrn⟩ := open_spans_n (hval 1 30 v1 rfl rfl) h1 (arg_fits (b := Rows.uptoBulkAll [d0, d1, d2]) (j := 1) rfl rfl (fun x hx => hlt x (by simp [hx])) hsz (Nat.le_refl _))
  exact spansSet_any s.A s.n s.c s.l r.A r.n r.c r.l t W hs hr (Nat.le_trans hsn hcond) (Nat.le_trans hrn hcond)

namespace spansSetUpto
set_option maxRecDepth 100000 in
theorem lifted (os : Os) (started : os.Started) (H : Type) (enc : TypeId × Value → H) (F : Stop.Interp) :
    ReturnsInHanded {} Try.checked os 6 .any ((Rows.OpenSpec.upto Rows.spansSetSpec).pre6 enc Try.prog Try.f6 Rows.spansSetUptoRow.domain false) (((Rows.OpenSpec.upto Rows.spansSetSpec).at F).post enc Try.prog Try.f6 false true false false) :=
  law_upto (C := Try.checked) (s := Rows.spansSetSpec) (tb := 4) own_prog started (by kernel_rfl) Try.func6
    (OpenSpec.witness (enc := enc) (C := Try.checked) (s := Rows.OpenSpec.upto Rows.spansSetSpec) (k := Rows.uptoSmall) rfl false ⟨#[], #[.slice none 0 0, .slice none 0 0, .int .i64 0], []⟩ 8 (by kernel_rfl) (by kernel_rfl) (by kernel_rfl)
      (x := ([.nil, .nil, .lit (.int .i64 0)], [], [])) (by kernel_rfl) rfl (by kernel_rfl))
    laidOut (by kernel_rfl) rfl Try.underlying4 ⟨rfl, fun H ds h => match ds, h with | [_, _, _], _ => ⟨rfl, rfl, rfl⟩⟩ (spansSet_walk enc)

theorem proved : Rows.SpansSetUptoSaid :=
  OpenClaim.holds_of_cond 6 Try.f6 rfl rfl rfl rfl rfl rfl rfl ⟨rfl, rfl, rfl, rfl, rfl⟩ rfl rfl rfl rfl rfl (by kernel_rfl) Try.func6 (by kernel_rfl)
    (of_decide_eq_true (by kernel_rfl)) (by unfold Func.isWrapper; first | (rw [if_pos (by decide +kernel)]; kernel_rfl) | (rw [if_neg (by decide +kernel)]; exact ⟨rfl, rfl⟩))
    (fun os started H enc _ F => lifted os started H enc F)
#print axioms proved
end spansSetUpto

end Go.Proofs.Ytjklonfheenfbaa
