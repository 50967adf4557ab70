/- SpansBack: without the document's answer: a list is read back from its bytes as its one list; bytes that are taken are the one form of their spans. Condition: the arguments are within the bulk that the statement names. -/
import Derived.Test.YtjklonfheenfbaaSpansBytes
import Derived.Lib.QuietBelow
namespace Go.Proofs.Ytjklonfheenfbaa
set_option maxRecDepth 100000
open Go.RowKit Go.WideShapes Go.ChangeShapes Go.Shelf

theorem take_text {s l : List UInt8} {k : Nat} (h : s.take k = l) : (l == ((⟨s.toArray⟩ : ByteArray).extract 0 k).toList) = true := by
  rw [← h, ByteArray.extract_mk]
  simp
theorem ofRes_len {R l : List Spn} (ho : OneS R) (h : ∀ z ∈ R, ∃ x ∈ l, x.frm = z.frm) : R.length ≤ l.length := by
  induction R generalizing l with
  | nil => simp
  | cons z R ih =>
    obtain ⟨x, hx, hxz⟩ := h z (by simp)
    obtain ⟨l1, l2, rfl⟩ := List.append_of_mem hx
    obtain ⟨h1, h2, h3⟩ := oneS_cons ho
    have := ih (l := l1 ++ l2) h2 fun y hy => by
      obtain ⟨u, hu, huy⟩ := h y (by simp [hy])
      have hne := h3 y hy
      have hn : u ≠ x := fun e => by rw [e, hxz] at huy; omega
      refine ⟨u, ?_, huy⟩
      rcases List.mem_append.1 hu with hu | hu
      · exact List.mem_append_left _ hu
      · rcases List.mem_cons.1 hu with hu | hu
        · exact absurd hu hn
        · exact List.mem_append_right _ hu
    simp only [List.length_append, List.length_cons] at this ⊢
    omega
theorem encL_len {R : List Spn} {m : Nat} (hok : ∀ x ∈ R, x.ok) (hl : R.length ≤ m) (hm : m ≤ 1048576) : (encL R).length ≤ 20971530 := by
  have h1 := encS_len R hok
  have h2 := uintL_ten (v := R.length) (by omega)
  rw [encL, List.length_append]
  omega

set_option maxHeartbeats 6400000 in
theorem spansBack_any (A : Option Addr) (n c : Nat) (l : List Spn) (s : List UInt8) (w : World) (h : SpF w A n l) (hn : n ≤ 1048576) (hs : s.length ≤ 1048576) :
    Calls Try.prog 9 #[.slice A n c, .string ⟨s.toArray⟩] w fun e w' => e = .returned (.bool true) ∧ Below w.heap.size w w' := by
  have H0 := hidden h
  have hsz : (⟨s.toArray⟩ : ByteArray).size = s.length := by simp [ByteArray.size]
  clear h
  go_enter Try.func9, Try.ntmps9
  go_wp2_with fail
  refine (spnWakes_any _).mono ?_
  rintro e w1 ⟨rfl, hb1⟩
  have HB1 := hidden hb1
  have S1 := hidden (twinF c (H0.out.on hb1))
  clear hb1
  go_wp2_with fail
  refine S1.out.mono ?_
  rintro e w2 ⟨A2, c2, l2, rfl, h2, rfl, hb2⟩
  have HB2 := hidden (HB1.out.trans (hb2.mono HB1.out.size))
  have hln := hidden (show l2.length = n from H0.out.len)
  have S2 := hidden (encode_any A2 l2.length c2 l2 w2 h2.row h2.len h2.fit (by have := hln.out; omega) h2.ok)
  clear h2 hb2 HB1 S1
  go_wp2_with fail
  refine S2.out.mono ?_
  rintro e w3 ⟨R, hR, rfl, hb3⟩
  have HB3 := hidden (HB2.out.trans (hb3.mono HB2.out.size))
  have HR := hidden hR
  have HOK := hidden (hR.ok H0.out.ok)
  have HRL := hidden (show R.length ≤ n from by rw [← H0.out.len]; exact ofRes_len hR.one fun z hz => (hR.ends z hz).1)
  have hEL := encL_len HOK.out HRL.out hn
  have hxx : (⟨(encL R).toArray⟩ : ByteArray) ++ (⟨#[120]⟩ : ByteArray) = ⟨(encL R ++ [120]).toArray⟩ := cat_bytes (encL R) [120]
  have hsz2 : (⟨(encL R).toArray⟩ : ByteArray).size = (encL R).length := by simp [ByteArray.size]
  have hsz3 : (⟨#[120]⟩ : ByteArray).size = 1 := rfl
  have S3 := hidden (decode_any (encL R ++ [120]) 0 w3 (by rw [List.length_append, List.length_singleton]; omega) (by decide) (by decide))
  rw [decR_enc hR.one HOK.out (by have := HRL.out; omega)] at S3
  clear hR hb3 HB2 S2
  have hne : (((encL R).length : Int) != ((encL R).length : Int)) = false := by simp
  go_wp2_with fail
  refine S3.out.mono ?_
  rintro e w4 ⟨v4, rfl, ho4, hb4⟩
  obtain ⟨A4, c4, rfl, _, hr4⟩ := own_shape ho4
  have HB4 := hidden (HB3.out.trans (hb4.mono HB3.out.size))
  have HR4 := hidden hr4
  have S4 := hidden (twinF c (H0.out.on HB4.out))
  clear ho4 hr4 hb4 HB3 S3 hxx
  go_wp2_with fail
  refine S4.out.mono ?_
  rintro e w5 ⟨A5, c5, l5, rfl, h5, rfl, hb5⟩
  have HB5 := hidden (HB4.out.trans (hb5.mono HB4.out.size))
  have HR5 := hidden ((HR4.out.below hb5).more hb5.size)
  have S5 := hidden (ofF c5 h5)
  clear h5 hb5 HB4 HR4 S4
  go_wp2_with fail
  refine S5.out.mono ?_
  rintro e w6 ⟨A6, c6, R6, rfl, h6, hR6, hb6⟩
  obtain rfl : R6 = R := hR6.uniq HR.out fun _ => rfl
  have HB6 := hidden (HB5.out.trans (hb6.mono HB5.out.size))
  have HR6 := hidden ((HR5.out.below hb6).more hb6.size)
  have S6 := hidden (refSF c6 h6)
  clear h6 hb6 hR6 HB5 HR5 S5
  go_wp2_with fail
  refine S6.out.mono ?_
  rintro e w7 ⟨A7, c7, l7, rfl, h7, rfl, hb7⟩
  have HB7 := hidden (HB6.out.trans (hb7.mono HB6.out.size))
  have HR7 := hidden ((HR6.out.below hb7).more hb7.size)
  have S7 := hidden (TwnSpn.alike_yes A4 A7 l7.length c4 c7 l7 w7 HR7.out h7.row rfl (by have := HRL.out; omega))
  clear h7 hb7 HB6 HR6 S6
  go_wp2_with fail
  refine S7.out.mono ?_
  rintro e w8 ⟨rfl, m, rfl⟩
  have HB8 := hidden (below_drewN HB7.out m)
  generalize w7.drewN m = w8 at *
  have S8 := hidden (decode_any s 0 w8 (by omega) (by decide) (by decide))
  clear S7 HB7 HR7 HRL HOK HR hEL hne hsz2 hsz3
  have hde := decR_err s 0
  have hdf := fun L n (h : decR s 0 = (L, n, 0)) => decR_form h
  obtain ⟨L, q, er, hD⟩ : ∃ L q er, decR s 0 = (L, q, er) := ⟨_, _, _, rfl⟩
  rw [hD] at S8 hde hdf
  have hdl := (decR_len s 0).1
  rw [hD] at hdl
  simp only at hde hdl
  clear hD
  by_cases he : er = 0
  · subst he
    obtain ⟨f1, f2, f3, f4, f5⟩ := hdf L q rfl
    clear hdf hde
    go_wp2_with fail
    refine S8.out.mono ?_
    rintro e w9 ⟨v9, rfl, ho9, hb9⟩
    obtain ⟨A9, c9, rfl, _, hr9⟩ := own_shape ho9
    have HB9 := hidden (HB8.out.trans (hb9.mono HB8.out.size))
    have S9 : Hid (∀ D os, Calls Try.prog 36 #[.slice A9 L.length c9] (Go.Sort.grow (redrawn w9 D) os) fun e w'' => e = .returned (.string ⟨(encL L).toArray⟩) ∧ ∃ p : Regrown, w'' = Go.Sort.grow (redrawn w9 p.d) p.os) :=
      hidden fun D os => Calls.regrown_of ((encode_any A9 L.length c9 L _ ((hr9.below (below_regrown w9 D os)).more (below_regrown w9 D os).size) rfl (by omega) (by omega) f2).mono fun e w' ⟨R2, h1, h2, h3⟩ => by
        obtain rfl : R2 = L := h1.uniq (OfRes.self f1) fun _ => rfl
        exact ⟨h2, h3⟩)
    clear ho9 hr9 hb9 HB8 S8
    have hbk := hidden (take_text f5)
    go_wp2_with fail
    refine wp_region_quiet_below (by kernel_rfl) (by kernel_rfl) ?_
    repeat (first | go_big_quiet_step (exact S9.out _ _) | quiet_step (exact S9.out _ _))
    refine wpQuiet_nil ?_
    intro _ hw'
    obtain ⟨⟨dq, osq⟩, hw''⟩ := hw'
    subst hw''
    have hb := below_regrown w9 (Regrown.mk dq osq).d (Regrown.mk dq osq).os
    have HBz := hidden (HB9.out.trans (hb.mono HB9.out.size))
    generalize Go.Sort.grow (redrawn w9 (Regrown.mk dq osq).d) (Regrown.mk dq osq).os = wz at *
    clear hb
    go_wp2_with fail
    go_ret
    exact ⟨ret_bool hbk.out, HBz.out⟩
  · obtain ⟨h1, h2⟩ := hde.resolve_left he
    subst h1 h2
    clear hdf hde hdl
    go_wp2_with fail
    refine S8.out.mono ?_
    rintro e w9 ⟨v9, rfl, ho9, hb9⟩
    obtain ⟨A9, c9, rfl, _, hr9⟩ := own_shape ho9
    have HB9 := hidden (HB8.out.trans (hb9.mono HB8.out.size))
    clear ho9 hr9 hb9 HB8 S8
    have hne : (er != 0) = true := by simpa using he
    go_wp2_with fail
    refine wp_region_quiet_below (by kernel_rfl) (by kernel_rfl) ?_
    repeat (first | go_big_quiet_step (fail) | quiet_step (fail))
    refine wpQuiet_nil ?_
    intro _ hw'
    obtain ⟨⟨dq, osq⟩, hw''⟩ := hw'
    subst hw''
    have hb := below_regrown w9 (Regrown.mk dq osq).d (Regrown.mk dq osq).os
    have HBz := hidden (HB9.out.trans (hb.mono HB9.out.size))
    generalize Go.Sort.grow (redrawn w9 (Regrown.mk dq osq).d) (Regrown.mk dq osq).os = wz at *
    clear hb
    go_wp2_with fail
    go_ret
    exact ⟨rfl, HBz.out⟩

theorem spansBack_walk {H : Type} (enc : TypeId × Value → H) : LawWalk enc Try.prog 9 Try.f9 (fun ds => Rows.uptoBulkAll ds ≤ 1048576) := by
  intro W base args ds p hval hA hlt hsz hcond
  rw [Try.params9] at hval hA hsz
  obtain ⟨v0, vs0, d0, ds0, p0, q0, hargs, rfl, rfl, h0, r0⟩ := trodAll_cons hA
  obtain ⟨v1, vs1, d1, ds1, p1, q1, rfl, rfl, rfl, h1, r1⟩ := trodAll_cons r0
  obtain ⟨rfl, rfl, rfl⟩ := trodAll_nil r1
  obtain rfl : args = #[v0, v1] := by cases args; simp_all
  obtain ⟨s, rfl, hs, hsn⟩ := open_spans_n (hval 0 30 v0 rfl rfl) h0 (arg_fits (b := Rows.uptoBulkAll [d0, d1]) (j := 0) rfl rfl (fun x hx => hlt x (by simp [hx])) hsz (Nat.le_refl _))
  obtain ⟨r, rfl, hr⟩ := open_text_n Try.underlying9 (hval 1 9 v1 rfl rfl) h1 (arg_fits (b := Rows.uptoBulkAll [d0, d1]) (j := 1) rfl rfl (fun x hx => hlt x (by simp [hx])) hsz (Nat.le_refl _))
  exact spansBack_any s.A s.n s.c s.l r W hs (Nat.le_trans hsn hcond) (Nat.le_trans hr hcond)

namespace spansBackUpto
set_option maxRecDepth 100000 in
theorem lifted (os : Os) (started : os.Started) (H : Type) (enc : TypeId × Value → H) (F : Stop.Interp) :
    ReturnsInHanded {} Try.checked os 9 .any ((Rows.OpenSpec.upto Rows.spansBackSpec).pre6 enc Try.prog Try.f9 Rows.spansBackUptoRow.domain false) (((Rows.OpenSpec.upto Rows.spansBackSpec).at F).post enc Try.prog Try.f9 false true false false) :=
  law_upto (C := Try.checked) (s := Rows.spansBackSpec) (tb := 4) own_prog started (by kernel_rfl) Try.func9
    (OpenSpec.witness (enc := enc) (C := Try.checked) (s := Rows.OpenSpec.upto Rows.spansBackSpec) (k := Rows.uptoSmall) rfl false ⟨#[], #[.slice none 0 0, .string ⟨#[]⟩], []⟩ 8 (by kernel_rfl) (by kernel_rfl) (by kernel_rfl)
      (x := ([.nil, .lit (.string [])], [], [])) (by kernel_rfl) rfl (by kernel_rfl))
    laidOut (by kernel_rfl) rfl Try.underlying4 ⟨rfl, fun H ds h => match ds, h with | [_, _], _ => ⟨rfl, rfl, rfl⟩⟩ (spansBack_walk enc)

theorem proved : Rows.SpansBackUptoSaid :=
  OpenClaim.holds_of_cond 9 Try.f9 rfl rfl rfl rfl rfl rfl rfl ⟨rfl, rfl, rfl, rfl, rfl⟩ rfl rfl rfl rfl rfl (by kernel_rfl) Try.func9 (by kernel_rfl)
    (of_decide_eq_true (by kernel_rfl)) (by unfold Func.isWrapper; first | (rw [if_pos (by decide +kernel)]; kernel_rfl) | (rw [if_neg (by decide +kernel)]; exact ⟨rfl, rfl⟩))
    (fun os started H enc _ F => lifted os started H enc F)
#print axioms proved
end spansBackUpto

end Go.Proofs.Ytjklonfheenfbaa
