/- SpansBytes: the bytes of any list, and the spans of any bytes at any place, are the document's, with its errors. Condition: the arguments are within the bulk that the statement names. -/
import Derived.Test.YtjklonfheenfbaaSpnLaw
import Derived.Test.YtjklonfheenfbaaEncRef
import Derived.Test.YtjklonfheenfbaaDec
import Derived.Test.YtjklonfheenfbaaDecRef
namespace Go.Proofs.Ytjklonfheenfbaa
set_option maxRecDepth 100000
open Go.RowKit Go.WideShapes Go.ChangeShapes Go.Shelf

theorem decS_len (s : List UInt8) : ∀ (k : Nat) (out : List Spn) (a : Int), (out.length : Int) * 2 ≤ a → a ≤ s.length → (out.length : Int) * 2 ≤ s.length → ((decS s k a out).1.length : Int) * 2 ≤ s.length ∧ (decS s k a out).2.1 ≤ s.length := by
  intro k
  induction k with
  | zero => intro out a h1 h2 h3; exact ⟨h3, h2⟩
  | succ k ih =>
    intro out a h1 h2 h3
    obtain ⟨u, b, e, r1⟩ : ∃ u b e, readI s a = (u, b, e) := ⟨_, _, _, rfl⟩
    by_cases he : e = 0
    · subst he
      obtain ⟨v, c, e2, r2⟩ : ∃ v c e2, readI s b = (v, c, e2) := ⟨_, _, _, rfl⟩
      by_cases he2 : e2 = 0
      · subst he2
        obtain ⟨p1, p2, p3, _⟩ := readI_ok r1
        obtain ⟨q1, q2, q3, _⟩ := readI_ok r2
        cases hb : badS out ⟨u, v⟩ with
        | true => rw [decS_bad r1 r2 hb]; exact ⟨by simp, by simp⟩
        | false =>
          rw [decS_go r1 r2 hb]
          exact ih _ _ (by rw [List.length_append, List.length_singleton]; omega) q3 (by rw [List.length_append, List.length_singleton]; omega)
      · rw [decS_e2 r1 r2 he2]; exact ⟨by simp, by simp⟩
    · rw [decS_e1 r1 he]; exact ⟨by simp, by simp⟩
theorem decR_len (s : List UInt8) (a : Int) : ((decR s a).1.length : Int) * 2 ≤ s.length ∧ (decR s a).2.1 ≤ s.length := by
  obtain ⟨k, b, e, h1⟩ : ∃ k b e, readU s a = (k, b, e) := ⟨_, _, _, rfl⟩
  by_cases he : e = 0
  · subst he
    rw [decR_go h1]
    obtain ⟨p1, p2, p3, _⟩ := readU_ok h1
    exact decS_len s k [] b (by simp; omega) p3 (by simp)
  · rw [decR_e h1 he]; exact ⟨by simp, by simp⟩

set_option maxHeartbeats 6400000 in
theorem spansBytes_any (A : Option Addr) (n c : Nat) (l : List Spn) (s : List UInt8) (a : Int) (w : World) (h : SpF w A n l) (hn : n ≤ 1048576) (hs : s.length ≤ 1048576) (ha : -9223372036854775808 ≤ a) (ha2 : a < 9223372036854775808) :
    Calls Try.prog 8 #[.slice A n c, .string ⟨s.toArray⟩, .int .i64 a] w fun e w' => e = .returned (.bool true) ∧ Below w.heap.size w w' := by
  have H0 := hidden h
  have hdl := decR_len s a
  clear h
  have S1 := hidden (decode_any s a w (by omega) ha ha2)
  have S2 := hidden (fun w => rDecode_any s a w (by omega) ha ha2)
  obtain ⟨L, q, er, hD⟩ : ∃ L q er, decR s a = (L, q, er) := ⟨_, _, _, rfl⟩
  rw [hD] at S1 S2 hdl
  simp only at hdl
  obtain ⟨hL1, hL2⟩ := hdl
  have hbq : (q == q) = true := beq_self_eq_true _
  have hbe : (er == er) = true := beq_self_eq_true _
  clear hD
  go_enter Try.func8, Try.ntmps8
  go_wp2_with fail
  refine S1.out.mono ?_
  rintro e w1 ⟨v1, rfl, ho1, hb1⟩
  obtain ⟨A1, c1, rfl, _, hr1⟩ := own_shape ho1
  have HB1 := hidden hb1
  have HR1 := hidden hr1
  clear ho1 hr1 hb1 S1
  go_wp2_with fail
  refine (S2.out _).mono ?_
  rintro e w2 ⟨v2, rfl, ho2, hb2⟩
  obtain ⟨A2, c2, rfl, _, hr2⟩ := own_shape ho2
  have HB2 := hidden (HB1.out.trans (hb2.mono HB1.out.size))
  have HR1b := hidden ((HR1.out.below hb2).more hb2.size)
  have HR2 := hidden hr2
  clear ho2 hr2 hb2 S2 HB1 HR1
  go_wp2_with fail
  refine (spnWakes_any _).mono ?_
  rintro e w3 ⟨rfl, hb3⟩
  have HB3 := hidden (HB2.out.trans (hb3.mono HB2.out.size))
  have HR1c := hidden ((HR1b.out.below hb3).more hb3.size)
  have HR2b := hidden ((HR2.out.below hb3).more hb3.size)
  have S3 := hidden (twinF c (H0.out.on HB3.out))
  clear hb3 HB2 HR1b HR2
  go_wp2_with fail
  refine S3.out.mono ?_
  rintro e w4 ⟨A4, c4, l4, rfl, h4, rfl, hb4⟩
  have HB4 := hidden (HB3.out.trans (hb4.mono HB3.out.size))
  have HR1d := hidden ((HR1c.out.below hb4).more hb4.size)
  have HR2c := hidden ((HR2b.out.below hb4).more hb4.size)
  have hln := hidden (show l4.length = n from H0.out.len)
  have S4 := hidden (encode_any A4 l4.length c4 l4 w4 h4.row h4.len h4.fit (by have := hln.out; omega) h4.ok)
  clear h4 hb4 HB3 HR1c HR2b S3
  go_wp2_with fail
  refine S4.out.mono ?_
  rintro e w5 ⟨R5, hR5, rfl, hb5⟩
  have HB5 := hidden (HB4.out.trans (hb5.mono HB4.out.size))
  have HR1e := hidden ((HR1d.out.below hb5).more hb5.size)
  have HR2d := hidden ((HR2c.out.below hb5).more hb5.size)
  have HR5 := hidden hR5
  have S5 := hidden (refSF c (H0.out.on HB5.out))
  clear hb5 HB4 HR1d HR2c S4 hR5
  go_wp2_with fail
  refine S5.out.mono ?_
  rintro e w6 ⟨A6, c6, l6, rfl, h6, rfl, hb6⟩
  have HB6 := hidden (HB5.out.trans (hb6.mono HB5.out.size))
  have HR1f := hidden ((HR1e.out.below hb6).more hb6.size)
  have HR2e := hidden ((HR2d.out.below hb6).more hb6.size)
  have S6 := hidden (rEncode_any A6 l6.length c6 l6 w6 h6.row h6.len h6.fit (by have := hln.out; omega) h6.ok)
  clear h6 hb6 HB5 HR1e HR2d S5
  go_wp2_with fail
  refine S6.out.mono ?_
  rintro e w7 ⟨R7, hR7, rfl, hb7⟩
  obtain rfl : R7 = R5 := hR7.uniq HR5.out fun _ => rfl
  have HB7 := hidden (HB6.out.trans (hb7.mono HB6.out.size))
  have HR1g := hidden ((HR1f.out.below hb7).more hb7.size)
  have HR2f := hidden ((HR2e.out.below hb7).more hb7.size)
  have S7 := hidden (TwnSpn.alike_yes A1 A2 L.length c1 c2 L w7 HR1g.out HR2f.out rfl (by omega))
  clear hb7 HB6 HR1f HR2e S6 hR7
  go_wp2_with fail
  refine S7.out.mono ?_
  rintro e w8 ⟨rfl, m, rfl⟩
  have HB8 := hidden (below_drewN HB7.out m)
  clear S7 HB7 HR1g HR2f
  go_wp2_with fail
  go_ret
  exact ⟨rfl, HB8.out⟩

section
variable {H : Type} {enc : TypeId × Value → H} {W : World} {b : Nat}
theorem open_spans_n {base : Nat} {v : Value} {d : DataW H} {ps : List MemPlace} (hv : Value.okWide Try.prog W .any base 30 v) (h : DataW.Trod enc Try.prog W 0 (fun _ => true) true 30 v d ps) (hF : Fits Try.prog W b 30 (d, ps)) :
    ∃ s : Sl Spn, v = s.val ∧ SpF W s.A s.n s.l ∧ s.n ≤ b := by
  obtain ⟨s, rfl, hs, hok, hn, hb⟩ := open_arg_slice (k := 2) (f := Spn.cells) Try.underlying30 (by kernel_rfl) (by decide) (fun _ => rfl) opens_spn hv h hF
  rw [show Try.prog.bytesOf 51 = 16 from by kernel_rfl] at hn
  simp only [reachBytes] at hn
  exact ⟨s, rfl, ⟨hs.2.2, hs.2.1, hn, hok⟩, hb⟩
theorem open_text_n {base : Nat} {t : TypeId} {v : Value} {d : DataW H} {ps : List MemPlace} (ht : Try.prog.underlying t = some .string) (hv : Value.okWide Try.prog W .any base t v) (h : DataW.Trod enc Try.prog W 0 (fun _ => true) true t v d ps) (hF : Fits Try.prog W b t (d, ps)) :
    ∃ s : List UInt8, v = .string ⟨s.toArray⟩ ∧ s.length ≤ b := by
  obtain ⟨s, rfl⟩ := okWide_string ht hv
  obtain ⟨fuel, hf⟩ := h
  obtain ⟨s', hc, hx, _⟩ := DataW.trod_string ht hf
  simp only [Value.cells, List.cons.injEq, Value.string.injEq, and_true] at hc
  subst hc
  have hs := hF.small
  rw [hx] at hs
  simp only [Rows.uptoBulk] at hs
  exact ⟨s.data.toList, by simp, by omega⟩
end

theorem spansBytes_walk {H : Type} (enc : TypeId × Value → H) : LawWalk enc Try.prog 8 Try.f8 (fun ds => Rows.uptoBulkAll ds ≤ 1048576) := by
  intro W base args ds p hval hA hlt hsz hcond
  rw [Try.params8] at hval hA hsz
  obtain ⟨v0, vs0, d0, ds0, p0, q0, hargs, rfl, rfl, h0, r0⟩ := trodAll_cons hA
  obtain ⟨v1, vs1, d1, ds1, p1, q1, rfl, rfl, rfl, h1, r1⟩ := trodAll_cons r0
  obtain ⟨v2, vs2, d2, ds2, p2, q2, rfl, rfl, rfl, h2, r2⟩ := trodAll_cons r1
  obtain ⟨rfl, rfl, rfl⟩ := trodAll_nil r2
  obtain rfl : args = #[v0, v1, v2] := by cases args; simp_all
  obtain ⟨t, rfl, ht⟩ := open_arg_int Try.underlying3 (hval 2 3 v2 rfl rfl) h2
  obtain ⟨s, rfl, hs, hsn⟩ := open_spans_n (hval 0 30 v0 rfl rfl) h0 (arg_fits (b := Rows.uptoBulkAll [d0, d1, d2]) (j := 0) rfl rfl (fun x hx => hlt x (by simp [hx])) hsz (Nat.le_refl _))
  obtain ⟨r, rfl, hr⟩ := open_text_n Try.underlying9 (hval 1 9 v1 rfl rfl) h1 (arg_fits (b := Rows.uptoBulkAll [d0, d1, d2]) (j := 1) rfl rfl (fun x hx => hlt x (by simp [hx])) hsz (Nat.le_refl _))
  have wt := wf_i64 ht
  exact spansBytes_any s.A s.n s.c s.l r t W hs (Nat.le_trans hsn hcond) (Nat.le_trans hr hcond) wt.1 wt.2

namespace spansBytesUpto
set_option maxRecDepth 100000 in
theorem lifted (os : Os) (started : os.Started) (H : Type) (enc : TypeId × Value → H) (F : Stop.Interp) :
    ReturnsInHanded {} Try.checked os 8 .any ((Rows.OpenSpec.upto Rows.spansBytesSpec).pre6 enc Try.prog Try.f8 Rows.spansBytesUptoRow.domain false) (((Rows.OpenSpec.upto Rows.spansBytesSpec).at F).post enc Try.prog Try.f8 false true false false) :=
  law_upto (C := Try.checked) (s := Rows.spansBytesSpec) (tb := 4) own_prog started (by kernel_rfl) Try.func8
    (OpenSpec.witness (enc := enc) (C := Try.checked) (s := Rows.OpenSpec.upto Rows.spansBytesSpec) (k := Rows.uptoSmall) rfl false ⟨#[], #[.slice none 0 0, .string ⟨#[]⟩, .int .i64 0], []⟩ 8 (by kernel_rfl) (by kernel_rfl) (by kernel_rfl)
      (x := ([.nil, .lit (.string []), .lit (.int .i64 0)], [], [])) (by kernel_rfl) rfl (by kernel_rfl))
    laidOut (by kernel_rfl) rfl Try.underlying4 ⟨rfl, fun H ds h => match ds, h with | [_, _, _], _ => ⟨rfl, rfl, rfl⟩⟩ (spansBytes_walk enc)

theorem proved : Rows.SpansBytesUptoSaid :=
  OpenClaim.holds_of_cond 8 Try.f8 rfl rfl rfl rfl rfl rfl rfl ⟨rfl, rfl, rfl, rfl, rfl⟩ rfl rfl rfl rfl rfl (by kernel_rfl) Try.func8 (by kernel_rfl)
    (of_decide_eq_true (by kernel_rfl)) (by unfold Func.isWrapper; first | (rw [if_pos (by decide +kernel)]; kernel_rfl) | (rw [if_neg (by decide +kernel)]; exact ⟨rfl, rfl⟩))
    (fun os started H enc _ F => lifted os started H enc F)
#print axioms proved
end spansBytesUpto

end Go.Proofs.Ytjklonfheenfbaa
