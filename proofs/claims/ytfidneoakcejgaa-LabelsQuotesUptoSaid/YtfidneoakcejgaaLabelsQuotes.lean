/- LabelsQuotes: the quotation of any text, and the text of any quotation, are the document's; there and back. Condition: the arguments are within the bulk that the statement names. -/
import Derived.Test.YtfidneoakcejgaaLUnq
import Derived.Test.YtfidneoakcejgaaLabLaw
import Derived.Test.YtfidneoakcejgaaOpenT
namespace Go.Proofs.Ytfidneoakcejgaa
set_option maxRecDepth 100000
open Go.RowKit Go.WideShapes Go.ChangeShapes Go.Shelf

theorem quoteL_len (l : List UInt8) : (quoteL l).length ≤ 4 * l.length + 2 := by
  have := quoL_len l
  simp only [quoteL, List.length_cons, List.length_append, List.length_nil]
  omega
theorem unq_back (v : ByteArray) : unqP ((⟨(quoteL v.data.toList).toArray⟩ : ByteArray) ++ ⟨#[120]⟩) 0 = (v, ((⟨(quoteL v.data.toList).toArray⟩ : ByteArray).size : Int), 0) := by
  have hl : ((⟨(quoteL v.data.toList).toArray⟩ : ByteArray) ++ (⟨#[120]⟩ : ByteArray)).data.toList = 34 :: (quoL v.data.toList ++ 34 :: [120]) := by
    simp [quoteL]
  have hq := parQ_quo [120] v.data.toList
  have h : unqO ((⟨(quoteL v.data.toList).toArray⟩ : ByteArray) ++ ⟨#[120]⟩) 0 = some (v.data.toList, (quoteL v.data.toList).length) := by
    unfold unqO
    rw [hl, List.getElem?_cons_zero, if_pos rfl]
    show (parQ (quoL v.data.toList ++ 34 :: [120])).map (fun p => (p.1, 0 + 1 + p.2)) = _
    rw [hq]
    simp [quoteL]; omega
  exact (unqP_yes h).trans rfl

set_option maxHeartbeats 6400000 in
theorem labelsQuotes_any (v s : ByteArray) (a : Int) (w : World) (hv : v.size ≤ 1048576) (hs : s.size ≤ 1048576) (ha : -9223372036854775808 ≤ a) (ha2 : a < 9223372036854775808) :
    Calls Try.prog 7 #[.string v, .string s, .int .i64 a] w fun e w' => e = .returned (.bool true) ∧ Below w.heap.size w w' := by
  have S1 := hidden (unquote_any s a w (by omega) ha ha2)
  have S3 := hidden (fun W => lquote_any v W (by omega))
  have S5 := hidden (fun W => rquote_any v W (by omega))
  have hB := unq_back v
  have hQl := quoteL_len v.data.toList
  obtain ⟨Q, hQ⟩ : ∃ Q, (⟨(quoteL v.data.toList).toArray⟩ : ByteArray) = Q := ⟨_, rfl⟩
  have hQs : Q.size ≤ 4194306 := by
    have e : Q.size = (quoteL v.data.toList).length := by rw [← hQ]; rfl
    have e2 : v.data.toList.length = v.size := rfl
    omega
  rw [hQ] at S3 S5 hB
  have hx1 : ¬ 9223372036854775807 < Q.size + 1 := by omega
  obtain ⟨X, hX⟩ : ∃ X, Q ++ (⟨#[120]⟩ : ByteArray) = X := ⟨_, rfl⟩
  have hXs : X.size ≤ 16777216 := by rw [← hX, ByteArray.size_append]; show Q.size + 1 ≤ _; omega
  have S4 := hidden (fun W => unquote_any X 0 W hXs (by omega) (by omega))
  rw [← hX, hB, hX] at S4
  have HL := hidden hX
  clear hB hQ hQl
  by_cases hneg : a < 0
  · have n0 : ¬ (0 : Int) ≤ a := by omega
    rw [unqP_neg hneg] at S1
    clear hneg
    simp only at S1
    go_enter Try.func7, Try.ntmps7
    go_wp2_with fail
    refine S1.out.mono ?_
    rintro e w1 ⟨rfl, b1⟩
    have HB1 := hidden b1
    clear b1
    go_wp2_with fail
    refine (S3.out _).mono ?_
    rintro e w3 ⟨rfl, b3⟩
    have HB3 := hidden (HB1.out.trans (b3.mono HB1.out.size))
    clear b3
    go_wp2_with fail
    refine (S4.out _).mono ?_
    rintro e w4 ⟨rfl, b4⟩
    have HB4 := hidden (HB3.out.trans (b4.mono HB3.out.size))
    clear b4
    go_wp2_with (first
      | (go_at_call 18; refine (wakes04_any _).mono ?_; rintro e w5 ⟨rfl, b5⟩; have HB5 := hidden (HB4.out.trans (b5.mono HB4.out.size)); clear b5)
      | (go_at_call 29; refine (S5.out _).mono ?_; rintro e w6 ⟨rfl, b6⟩; have HB6 := hidden (HB5.out.trans (b6.mono HB5.out.size)); clear b6))
    go_ret
    exact ⟨rfl, HB6.out⟩
  · obtain ⟨k, rfl⟩ : ∃ k : Nat, a = k := ⟨a.toNat, by omega⟩
    have k0 : (0 : Int) ≤ (k : Int) := by omega
    have S2 := hidden (fun W => runq_any s k W (by omega) (by omega))
    clear hneg
    cases hp : unqO s k with
    | none =>
      rw [unqP_no hp] at S1
      rw [unqR_no hp] at S2
      clear hp
      simp only at S1 S2
      go_enter Try.func7, Try.ntmps7
      go_wp2_with fail
      refine S1.out.mono ?_
      rintro e w1 ⟨rfl, b1⟩
      have HB1 := hidden b1
      clear b1
      go_wp2_with fail
      refine (S2.out _).mono ?_
      rintro e w2 ⟨rfl, b2⟩
      have HB2 := hidden (HB1.out.trans (b2.mono HB1.out.size))
      clear b2
      go_wp2_with fail
      refine (S3.out _).mono ?_
      rintro e w3 ⟨rfl, b3⟩
      have HB3 := hidden (HB2.out.trans (b3.mono HB2.out.size))
      clear b3
      go_wp2_with fail
      refine (S4.out _).mono ?_
      rintro e w4 ⟨rfl, b4⟩
      have HB4 := hidden (HB3.out.trans (b4.mono HB3.out.size))
      clear b4
      go_wp2_with (first
        | (go_at_call 18; refine (wakes04_any _).mono ?_; rintro e w5 ⟨rfl, b5⟩; have HB5 := hidden (HB4.out.trans (b5.mono HB4.out.size)); clear b5)
        | (go_at_call 29; refine (S5.out _).mono ?_; rintro e w6 ⟨rfl, b6⟩; have HB6 := hidden (HB5.out.trans (b6.mono HB5.out.size)); clear b6))
      go_ret
      exact ⟨rfl, HB6.out⟩
    | some p =>
      obtain ⟨u, n⟩ := p
      rw [unqP_yes hp] at S1
      rw [unqR_yes hp] at S2
      obtain ⟨U, hU⟩ : ∃ U, (⟨u.toArray⟩ : ByteArray) = U := ⟨_, rfl⟩
      rw [hU] at S1 S2
      have nn : decide ((n : Int) < 0) = false := by simp
      clear hp hU
      simp only at S1 S2
      go_enter Try.func7, Try.ntmps7
      go_wp2_with fail
      refine S1.out.mono ?_
      rintro e w1 ⟨rfl, b1⟩
      have HB1 := hidden b1
      clear b1
      go_wp2_with fail
      refine (S2.out _).mono ?_
      rintro e w2 ⟨rfl, b2⟩
      have HB2 := hidden (HB1.out.trans (b2.mono HB1.out.size))
      clear b2
      go_wp2_with fail
      refine (S3.out _).mono ?_
      rintro e w3 ⟨rfl, b3⟩
      have HB3 := hidden (HB2.out.trans (b3.mono HB2.out.size))
      clear b3
      go_wp2_with fail
      refine (S4.out _).mono ?_
      rintro e w4 ⟨rfl, b4⟩
      have HB4 := hidden (HB3.out.trans (b4.mono HB3.out.size))
      clear b4
      go_wp2_with (first
        | (go_at_call 18; refine (wakes04_any _).mono ?_; rintro e w5 ⟨rfl, b5⟩; have HB5 := hidden (HB4.out.trans (b5.mono HB4.out.size)); clear b5)
        | (go_at_call 29; refine (S5.out _).mono ?_; rintro e w6 ⟨rfl, b6⟩; have HB6 := hidden (HB5.out.trans (b6.mono HB5.out.size)); clear b6))
      go_ret
      exact ⟨rfl, HB6.out⟩

theorem labelsQuotes_walk {H : Type} (enc : TypeId × Value → H) : LawWalk enc Try.prog 7 Try.f7 (fun ds => Rows.uptoBulkAll ds ≤ 1048576) := by
  intro W base args ds p hval hA hlt hsz hcond
  rw [Try.params7] at hval hA hsz
  obtain ⟨v0, vs0, d0, ds0, p0, q0, hargs, rfl, rfl, h0, r0⟩ := trodAll_cons hA
  obtain ⟨v1, vs1, d1, ds1, p1, q1, rfl, rfl, rfl, h1, r1⟩ := trodAll_cons r0
  obtain ⟨v2, vs2, d2, ds2, p2, q2, rfl, rfl, rfl, h2, r2⟩ := trodAll_cons r1
  obtain ⟨rfl, rfl, rfl⟩ := trodAll_nil r2
  obtain rfl : args = #[v0, v1, v2] := by cases args; simp_all
  obtain ⟨t, rfl, ht⟩ := open_arg_int Try.underlying3 (hval 2 3 v2 rfl rfl) h2
  obtain ⟨s, rfl, hs⟩ := open_text_n Try.underlying9 (hval 0 9 v0 rfl rfl) h0 (arg_fits (b := Rows.uptoBulkAll [d0, d1, d2]) (j := 0) rfl rfl (fun x hx => hlt x (by simp [hx])) hsz (Nat.le_refl _))
  obtain ⟨r, rfl, hr⟩ := open_text_n Try.underlying9 (hval 1 9 v1 rfl rfl) h1 (arg_fits (b := Rows.uptoBulkAll [d0, d1, d2]) (j := 1) rfl rfl (fun x hx => hlt x (by simp [hx])) hsz (Nat.le_refl _))
  have wt := wf_i64 ht
  exact labelsQuotes_any ⟨s.toArray⟩ ⟨r.toArray⟩ t W (Nat.le_trans hs hcond) (Nat.le_trans hr hcond) wt.1 wt.2

namespace labelsQuotesUpto
set_option maxRecDepth 100000 in
theorem lifted (os : Os) (started : os.Started) (H : Type) (enc : TypeId × Value → H) (F : Stop.Interp) :
    ReturnsInHanded {} Try.checked os 7 .any ((Rows.OpenSpec.upto Rows.labelsQuotesSpec).pre6 enc Try.prog Try.f7 Rows.labelsQuotesUptoRow.domain false) (((Rows.OpenSpec.upto Rows.labelsQuotesSpec).at F).post enc Try.prog Try.f7 false true false false) :=
  law_upto (C := Try.checked) (s := Rows.labelsQuotesSpec) (tb := 4) own_prog started (by kernel_rfl) Try.func7
    (OpenSpec.witness (enc := enc) (C := Try.checked) (s := Rows.OpenSpec.upto Rows.labelsQuotesSpec) (k := Rows.uptoSmall) rfl false ⟨#[], #[.string ⟨#[]⟩, .string ⟨#[]⟩, .int .i64 0], []⟩ 8 (by kernel_rfl) (by kernel_rfl) (by kernel_rfl)
      (x := ([.lit (.string []), .lit (.string []), .lit (.int .i64 0)], [], [])) (by kernel_rfl) rfl (by kernel_rfl))
    laidOut (by kernel_rfl) rfl Try.underlying4 ⟨rfl, fun H ds h => match ds, h with | [_, _, _], _ => ⟨rfl, rfl, rfl⟩⟩ (labelsQuotes_walk enc)

theorem proved : Rows.LabelsQuotesUptoSaid :=
  OpenClaim.holds_of_cond 7 Try.f7 rfl rfl rfl rfl rfl rfl rfl ⟨rfl, rfl, rfl, rfl, rfl⟩ rfl rfl rfl rfl rfl (by kernel_rfl) Try.func7 (by kernel_rfl)
    (of_decide_eq_true (by kernel_rfl)) (by unfold Func.isWrapper; first | (rw [if_pos (by decide +kernel)]; kernel_rfl) | (rw [if_neg (by decide +kernel)]; exact ⟨rfl, rfl⟩))
    (fun os started H enc _ F => lifted os started H enc F)
#print axioms proved
end labelsQuotesUpto

end Go.Proofs.Ytfidneoakcejgaa
