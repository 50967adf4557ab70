/- PostBytes: the bytes of any numbers, and the numbers of any bytes, are the document's, with its errors; one form. Condition: the arguments are within the bulk that the statement names. -/
import Derived.Test.YtnedgjdhpdejdaaNumE
import Derived.Test.YtnedgjdhpdejdaaNumD
import Derived.Test.YtnedgjdhpdejdaaOpenT
namespace Go.Proofs.Ytnedgjdhpdejdaa
set_option maxRecDepth 100000
open Go.RowKit Go.WideShapes Go.ChangeShapes Go.Shelf

theorem nextract (s : List UInt8) (k e : Nat) : (⟨s.toArray⟩ : ByteArray).extract k e = ⟨((s.drop k).take (e - k)).toArray⟩ := nbytes_eq (by
  rw [ByteArray.data_extract, Array.toList_extract])
theorem decI_len (s : List UInt8) : ∀ (k : Nat) (a : Int) (out : List Int) (t : Nat), (out.length : Int) ≤ a → a ≤ s.length → (out.length : Int) ≤ s.length → ((decI s k a out t).1.length : Int) ≤ s.length := by
  intro k
  induction k with
  | zero => intro a out t _ _ h; exact h
  | succ k ih =>
    intro a out t h1 h2 h3
    obtain ⟨d, p, e, r1⟩ : ∃ d b e, readU s a = (d, b, e) := ⟨_, _, _, rfl⟩
    by_cases he : e = 0
    · subst he
      by_cases hb : (0 < out.length ∧ d = 0) ∨ 4611686018427387904 - t < d
      · rw [decI_bad r1 hb]; simp
      · rw [decI_go r1 hb]
        obtain ⟨k1, k2, k3, _⟩ := readU_form r1
        exact ih p _ _ (by simp; omega) k3 (by simp; omega)
    · rw [decI_e r1 he]; simp
theorem decN_len (s : List UInt8) (a : Int) : (decN s a).1.length ≤ s.length := by
  obtain ⟨n, b, e, h1⟩ : ∃ n b e, readU s a = (n, b, e) := ⟨_, _, _, rfl⟩
  by_cases he : e = 0
  · subst he
    rw [decN_go h1]
    obtain ⟨k1, k2, k3, _⟩ := readU_form h1
    have := decI_len s n b [] 0 (by simp; omega) k3 (by simp)
    omega
  · rw [decN_e h1 he]; simp
theorem ndecLaw (s : List UInt8) (a : Int) (w : World) (hs : s.length ≤ 1048576) (ha : -9223372036854775808 ≤ a) (ha2 : a < 9223372036854775808) :
    Calls Try.prog 16 #[.string ⟨s.toArray⟩, .int .i64 a] w fun e w' => ∃ B c', e = .returned (.tuple #[.slice B (decN s a).1.length c', .int .i64 (decN s a).2.1, .int .i64 (decN s a).2.2]) ∧ IntF w' B (decN s a).1.length (decN s a).1 ∧ Below w.heap.size w w' := by
  refine (ndec_any s a w hs ha ha2).mono ?_
  rintro e w' ⟨v, rfl, hown, hb⟩
  obtain ⟨B, c', rfl, hc, hr⟩ := own_shape hown
  have h1 := decN_len s a
  exact ⟨B, c', rfl, ⟨hr, rfl, by omega, fun x hx => by have := decN_ints s a x hx; unfold inI; omega⟩, hb⟩
theorem ndecRef (s : List UInt8) (a : Int) (w : World) (hs : s.length ≤ 1048576) (ha : -9223372036854775808 ≤ a) (ha2 : a < 9223372036854775808) :
    Calls Try.prog 17 #[.string ⟨s.toArray⟩, .int .i64 a] w fun e w' => ∃ B c', e = .returned (.tuple #[.slice B (decN s a).1.length c', .int .i64 (decN s a).2.1, .int .i64 (decN s a).2.2]) ∧ IntF w' B (decN s a).1.length (decN s a).1 ∧ Below w.heap.size w w' := by
  refine (rndec_any s a w hs ha ha2).mono ?_
  rintro e w' ⟨v, rfl, hown, hb⟩
  obtain ⟨B, c', rfl, hc, hr⟩ := own_shape hown
  have h1 := decN_len s a
  exact ⟨B, c', rfl, ⟨hr, rfl, by omega, fun x hx => by have := decN_ints s a x hx; unfold inI; omega⟩, hb⟩

set_option maxHeartbeats 3200000 in
theorem postBytes_any (A : Option Addr) (n c : Nat) (l : List Int) (s : List UInt8) (a : Int) (w : World) (h : IntF w A n l) (hn : n ≤ 1048576) (hs : s.length ≤ 1048576) (ha : -9223372036854775808 ≤ a) (ha2 : a < 9223372036854775808) :
    Calls Try.prog 4 #[.slice A n c, .string ⟨s.toArray⟩, .int .i64 a] w fun e w' => e = .returned (.bool true) ∧ Below w.heap.size w w' := by
  have H := hidden h
  have S1 := hidden (fun B c w h => nenc_any B n c l w h hn)
  have S2 := hidden (fun B c w h => rnenc_any B n c l w h hn)
  have S3 := hidden (fun W => ndecLaw s a W hs ha ha2)
  have S4 := hidden (fun W => ndecRef s a W hs ha ha2)
  have hdl := decN_len s a
  obtain ⟨T, hT⟩ : ∃ T, (⟨(encN l).1.toArray⟩ : ByteArray) = T := ⟨_, rfl⟩
  obtain ⟨E, hE⟩ : ∃ E, (encN l).2 = E := ⟨_, rfl⟩
  obtain ⟨L, b, g, hD⟩ : ∃ L b g, decN s a = (L, b, g) := ⟨_, _, _, rfl⟩
  obtain ⟨m, hm⟩ : ∃ m, L.length = m := ⟨_, rfl⟩
  obtain ⟨X, hX⟩ : ∃ X, (⟨s.toArray⟩ : ByteArray) = X := ⟨_, rfl⟩
  have hXs : X.size = s.length := by rw [← hX]; rfl
  have hEE : (E != E) = false := by simp
  have hTT : (T.toList == T.toList) = true := beq_self_eq_true _
  rw [hT, hE] at S1 S2
  rw [hD] at S3 S4 hdl
  simp only at S3 S4 hdl
  rw [hm, hX] at S3 S4
  rw [hm] at hdl
  rw [hX]
  clear h hT hE
  by_cases hg : g = 0
  · subst hg
    obtain ⟨a0, ab, bl, hLb, hEN⟩ := decN_form hD
    obtain ⟨k, rfl⟩ : ∃ k : Nat, a = k := ⟨a.toNat, by omega⟩
    obtain ⟨q, rfl⟩ : ∃ q : Nat, b = q := ⟨b.toNat, by omega⟩
    rw [Int.toNat_natCast, Int.toNat_natCast] at hEN
    have S5 := hidden (fun B c w h => nenc_any B m c L w h (by omega))
    rw [hEN] at S5
    obtain ⟨V, hV⟩ : ∃ V, (⟨((s.drop k).take (q - k)).toArray⟩ : ByteArray) = V := ⟨_, rfl⟩
    simp only at S5
    rw [hV] at S5
    have hsl : X.extract k q = V := by rw [← hX, nextract, hV]
    have hVV : (V.toList == V.toList) = true := beq_self_eq_true _
    have k0 : (0 : Int) ≤ (k : Int) := by omega
    have k1 : (k : Int) ≤ (q : Int) := by omega
    have k2 : (q : Int) ≤ (X.size : Int) := by omega
    have k3 : (0 : Int) ≤ (q : Int) := by omega
    have k4 : k ≤ q := by omega
    have k5 : q ≤ X.size := by omega
    clear hD hEN hV hX hXs hdl hLb
    go_enter Try.func4, Try.ntmps4
    go_wp2_with fail
    refine (twinI_any _ _ _ _ _ H.out).mono ?_
    rintro e w1 ⟨B1, c1, rfl, hl1, b1⟩
    have HB1 := hidden b1
    have HT1 := hidden hl1
    have HA1 := hidden (H.out.on b1)
    clear b1 hl1
    go_wp2_with fail
    refine (S1.out _ _ _ HT1.out).mono ?_
    rintro e w2 ⟨rfl, b2⟩
    have HB2 := hidden (HB1.out.trans (b2.mono HB1.out.size))
    have HA2 := hidden (HA1.out.on b2)
    clear b2 HT1 HA1
    go_wp2_with fail
    refine (S2.out _ _ _ HA2.out).mono ?_
    rintro e w3 ⟨rfl, b3⟩
    have HB3 := hidden (HB2.out.trans (b3.mono HB2.out.size))
    clear b3 HA2
    go_wp2_with fail
    refine (S3.out _).mono ?_
    rintro e w4 ⟨B4, c4, rfl, hl4, b4⟩
    have HB4 := hidden (HB3.out.trans (b4.mono HB3.out.size))
    have HL4 := hidden hl4
    clear b4 hl4
    go_wp2_with fail
    refine (S4.out _).mono ?_
    rintro e w5 ⟨B5, c5, rfl, hl5, b5⟩
    have HB5 := hidden (HB4.out.trans (b5.mono HB4.out.size))
    have HL5 := hidden (HL4.out.on b5)
    have HR5 := hidden hl5
    clear b5 hl5 HL4
    go_wp2_with (first
      | (go_at_call 5; refine (postWakes_any _).mono ?_; rintro e w6 ⟨rfl, b6⟩; have HB6 := hidden (HB5.out.trans (b6.mono HB5.out.size)); have HL6 := hidden (HL5.out.on b6); have HR6 := hidden (HR5.out.on b6); clear b6)
      | (go_at_call 12; refine (sameI_yes _ _ _ _ _ _ _ HL6.out HR6.out).mono ?_; rintro e w8 ⟨rfl, b8⟩; have HB8 := hidden (HB6.out.trans (b8.mono HB6.out.size)); have HL8 := hidden (HL6.out.on b8); clear b8))
    go_wp2_with fail
    refine (S5.out _ _ _ HL8.out).mono ?_
    rintro e w9 ⟨rfl, b9⟩
    have HB9 := hidden (HB8.out.trans (b9.mono HB8.out.size))
    clear b9
    go_wp2_with fail
    go_ret
    exact ⟨rfl, HB9.out⟩
  · have hgg : (g == 0) = false := by simpa using hg
    have hgn : (g != g) = false := by simp
    have hbb : (b != b) = false := by simp
    clear hD hX hXs hdl hg
    go_enter Try.func4, Try.ntmps4
    go_wp2_with fail
    refine (twinI_any _ _ _ _ _ H.out).mono ?_
    rintro e w1 ⟨B1, c1, rfl, hl1, b1⟩
    have HB1 := hidden b1
    have HT1 := hidden hl1
    have HA1 := hidden (H.out.on b1)
    clear b1 hl1
    go_wp2_with fail
    refine (S1.out _ _ _ HT1.out).mono ?_
    rintro e w2 ⟨rfl, b2⟩
    have HB2 := hidden (HB1.out.trans (b2.mono HB1.out.size))
    have HA2 := hidden (HA1.out.on b2)
    clear b2 HT1 HA1
    go_wp2_with fail
    refine (S2.out _ _ _ HA2.out).mono ?_
    rintro e w3 ⟨rfl, b3⟩
    have HB3 := hidden (HB2.out.trans (b3.mono HB2.out.size))
    clear b3 HA2
    go_wp2_with fail
    refine (S3.out _).mono ?_
    rintro e w4 ⟨B4, c4, rfl, hl4, b4⟩
    have HB4 := hidden (HB3.out.trans (b4.mono HB3.out.size))
    have HL4 := hidden hl4
    clear b4 hl4
    go_wp2_with fail
    refine (S4.out _).mono ?_
    rintro e w5 ⟨B5, c5, rfl, hl5, b5⟩
    have HB5 := hidden (HB4.out.trans (b5.mono HB4.out.size))
    have HL5 := hidden (HL4.out.on b5)
    have HR5 := hidden hl5
    clear b5 hl5 HL4
    go_wp2_with (first
      | (go_at_call 5; refine (postWakes_any _).mono ?_; rintro e w6 ⟨rfl, b6⟩; have HB6 := hidden (HB5.out.trans (b6.mono HB5.out.size)); have HL6 := hidden (HL5.out.on b6); have HR6 := hidden (HR5.out.on b6); clear b6)
      | (go_at_call 12; refine (sameI_yes _ _ _ _ _ _ _ HL6.out HR6.out).mono ?_; rintro e w8 ⟨rfl, b8⟩; have HB8 := hidden (HB6.out.trans (b8.mono HB6.out.size)); have HL8 := hidden (HL6.out.on b8); clear b8))
    go_wp2_with fail
    go_ret
    exact ⟨rfl, HB8.out⟩

theorem fm_ints : ∀ l : List Int, l.flatMap (fun x : Int => [Value.int .i64 x]) = l.map (Value.int .i64)
  | [] => rfl
  | x :: l => by rw [List.flatMap_cons, fm_ints l]; rfl
section
variable {H : Type} {enc : TypeId × Value → H} {W : World} {b : Nat}
theorem open_ints {base : Nat} {v : Value} {d : DataW H} {ps : List MemPlace} (hv : Value.okWide Try.prog W .any base 22 v) (h : DataW.Trod enc Try.prog W 0 (fun _ => true) true 22 v d ps) (hF : Fits Try.prog W b 22 (d, ps)) :
    ∃ s : Sl Int, v = s.val ∧ IntF W s.A s.n s.l ∧ s.n ≤ b := by
  obtain ⟨s, rfl, hs, hok, hn, hb⟩ := open_arg_slice (k := 1) (f := fun x : Int => [Value.int .i64 x]) Try.underlying22 (by kernel_rfl) (by decide) (fun _ => rfl) (opens_int Try.underlying3) hv h hF
  rw [show Try.prog.bytesOf 3 = 8 from by kernel_rfl] at hn
  simp only [reachBytes] at hn
  have hr := hs.2.2
  rw [show s.l.flatMap (fun x : Int => [Value.int .i64 x]) = s.l.map (Value.int .i64) from fm_ints s.l] at hr
  exact ⟨s, rfl, ⟨hr, hs.2.1, hn, fun x hx => by have := wf_i64 (hok x hx); unfold inI; omega⟩, hb⟩
end

theorem postBytes_walk {H : Type} (enc : TypeId × Value → H) : LawWalk enc Try.prog 4 Try.f4 (fun ds => Rows.uptoBulkAll ds ≤ 1048576) := by
  intro W base args ds p hval hA hlt hsz hcond
  rw [Try.params4] at hval hA hsz
  obtain ⟨v0, vs0, d0, ds0, p0, q0, hargs, rfl, rfl, h0, r0⟩ := trodAll_cons hA
  obtain ⟨v1, vs1, d1, ds1, p1, q1, rfl, rfl, rfl, h1, r1⟩ := trodAll_cons r0
  obtain ⟨v2, vs2, d2, ds2, p2, q2, rfl, rfl, rfl, h2, r2⟩ := trodAll_cons r1
  obtain ⟨rfl, rfl, rfl⟩ := trodAll_nil r2
  obtain rfl : args = #[v0, v1, v2] := by cases args; simp_all
  obtain ⟨t, rfl, ht⟩ := open_arg_int Try.underlying3 (hval 2 3 v2 rfl rfl) h2
  obtain ⟨l, rfl, hl, hln⟩ := open_ints (hval 0 22 v0 rfl rfl) h0 (arg_fits (b := Rows.uptoBulkAll [d0, d1, d2]) (j := 0) rfl rfl (fun x hx => hlt x (by simp [hx])) hsz (Nat.le_refl _))
  obtain ⟨r, rfl, hr⟩ := open_text_n Try.underlying9 (hval 1 9 v1 rfl rfl) h1 (arg_fits (b := Rows.uptoBulkAll [d0, d1, d2]) (j := 1) rfl rfl (fun x hx => hlt x (by simp [hx])) hsz (Nat.le_refl _))
  have wt := wf_i64 ht
  exact postBytes_any l.A l.n l.c l.l r t W hl (Nat.le_trans hln hcond) (Nat.le_trans hr hcond) wt.1 wt.2

namespace postBytesUpto
set_option maxRecDepth 100000 in
theorem lifted (os : Os) (started : os.Started) (H : Type) (enc : TypeId × Value → H) (F : Stop.Interp) :
    ReturnsInHanded {} Try.checked os 4 .any ((Rows.OpenSpec.upto Rows.postBytesSpec).pre6 enc Try.prog Try.f4 Rows.postBytesUptoRow.domain false) (((Rows.OpenSpec.upto Rows.postBytesSpec).at F).post enc Try.prog Try.f4 false true false false) :=
  law_upto (C := Try.checked) (s := Rows.postBytesSpec) (tb := 4) own_prog started (by kernel_rfl) Try.func4
    (OpenSpec.witness (enc := enc) (C := Try.checked) (s := Rows.OpenSpec.upto Rows.postBytesSpec) (k := Rows.uptoSmall) rfl false ⟨#[], #[.slice none 0 0, .string ⟨#[]⟩, .int .i64 0], []⟩ 8 (by kernel_rfl) (by kernel_rfl) (by kernel_rfl)
      (x := ([.nil, .lit (.string []), .lit (.int .i64 0)], [], [])) (by kernel_rfl) rfl (by kernel_rfl))
    laidOut (by kernel_rfl) rfl Try.underlying4 ⟨rfl, fun H ds h => match ds, h with | [_, _, _], _ => ⟨rfl, rfl, rfl⟩⟩ (postBytes_walk enc)

theorem proved : Rows.PostBytesUptoSaid :=
  OpenClaim.holds_of_cond 4 Try.f4 rfl rfl rfl rfl rfl rfl rfl ⟨rfl, rfl, rfl, rfl, rfl⟩ rfl rfl rfl rfl rfl (by kernel_rfl) Try.func4 (by kernel_rfl)
    (of_decide_eq_true (by kernel_rfl)) (by unfold Func.isWrapper; first | (rw [if_pos (by decide +kernel)]; kernel_rfl) | (rw [if_neg (by decide +kernel)]; exact ⟨rfl, rfl⟩))
    (fun os started H enc _ F => lifted os started H enc F)
#print axioms proved
end postBytesUpto

end Go.Proofs.Ytnedgjdhpdejdaa
