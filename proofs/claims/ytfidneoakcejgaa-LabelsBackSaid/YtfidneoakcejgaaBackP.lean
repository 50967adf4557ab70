/- A set is read back from its bytes and its text, plainly. No condition. -/
import Derived.Test.YtfidneoakcejgaaOneP
namespace Go.Proofs.Ytfidneoakcejgaa
set_option maxRecDepth 100000
open Go.RowKit

theorem readT_at {s : List UInt8} {a : Int} {v : ByteArray} {rest : List UInt8} (h0 : 0 ≤ a) (h : s.drop a.toNat = textL v ++ rest) (hv : v.size < 18446744073709551616) : readT s a = (v, a + (textL v).length, 0) := by
  have hu := readU_at (rest := v.data.toList ++ rest) h0 (by rw [h, textL, List.append_assoc]) hv
  have hl := congrArg List.length h
  have ev : v.data.toList.length = v.size := rfl
  rw [List.length_drop, textL, List.length_append, List.length_append] at hl
  have hp := uintL_pos v.size
  rw [readT_ok hu (by omega)]
  have e1 : (a + ((uintL v.size).length : Int)).toNat = a.toNat + (uintL v.size).length := by omega
  have e2 : s.drop (a.toNat + (uintL v.size).length) = v.data.toList ++ rest := by
    rw [← List.drop_drop, h, textL, List.append_assoc, List.drop_left]
  have e3 : (⟨s.toArray⟩ : ByteArray).extract (a + ((uintL v.size).length : Int)).toNat ((a + ((uintL v.size).length : Int)).toNat + v.size) = v := bytes_eq (by
    rw [ext_list, e1]
    simp only [Nat.add_sub_cancel_left]
    rw [e2, ← ev, List.take_left])
  rw [e3]
  simp only [Prod.mk.injEq, and_true, true_and, textL, List.length_append]
  omega
theorem badN_up {out mid : List Lbl} {x : Lbl} (h : upN (out ++ x :: mid)) : badN out x = false := by
  rcases List.eq_nil_or_concat out with rfl | ⟨M, z, rfl⟩
  · rfl
  · rw [List.concat_eq_append] at *
    rw [badN_snoc]
    have := (List.pairwise_append.1 h).2.2 z (by simp) x (by simp)
    simpa using this
theorem decT_at (s rest : List UInt8) : ∀ (mid out : List Lbl) (a : Int), 0 ≤ a → s.drop a.toNat = encB mid ++ rest → (∀ x ∈ mid, fitN x.name = true ∧ fitV x.value = true) → (∀ x ∈ mid, x.name.size ≤ 32 ∧ x.value.size ≤ 64) → upN (out ++ mid) → decT s mid.length a out = (out ++ mid, a + (encB mid).length, 0) := by
  intro mid
  induction mid with
  | nil => intro out a _ _ _ _ _; simp [decT, encB]
  | cons x mid ih =>
    intro out a h0 h hf hz hu
    obtain ⟨f1, f2⟩ := hf x (by simp)
    obtain ⟨z1, z2⟩ := hz x (by simp)
    have e0 : encB (x :: mid) = textL x.name ++ (textL x.value ++ encB mid) := by simp [encB, labE]
    rw [e0] at h
    have r1 := readT_at (v := x.name) (rest := textL x.value ++ encB mid ++ rest) h0 (by rw [h]; simp) (by omega)
    have d1 : s.drop (a + ((textL x.name).length : Int)).toNat = textL x.value ++ (encB mid ++ rest) := by
      rw [show (a + ((textL x.name).length : Int)).toNat = a.toNat + (textL x.name).length by omega, ← List.drop_drop, h, List.append_assoc, List.drop_left, List.append_assoc]
    have r2 := readT_at (v := x.value) (rest := encB mid ++ rest) (by omega) d1 (by omega)
    have d2 : s.drop (a + ((textL x.name).length : Int) + ((textL x.value).length : Int)).toNat = encB mid ++ rest := by
      rw [show (a + ((textL x.name).length : Int) + ((textL x.value).length : Int)).toNat = (a + ((textL x.name).length : Int)).toNat + (textL x.value).length by omega, ← List.drop_drop, d1, List.drop_left]
    rw [List.length_cons, decT_go r1 r2 f1 f2 (badN_up hu), ih _ _ (by omega) d2 (fun y hy => hf y (by simp [hy])) (fun y hy => hz y (by simp [hy])) (by simpa using hu)]
    simp only [Prod.mk.injEq, and_true, e0, List.length_append, List.append_assoc, List.singleton_append, true_and]
    omega
/-- a set's bytes are read as the set -/
theorem decL_at {s rest : List UInt8} {L : List Lbl} {a : Int} (hv : validP L) (h0 : 0 ≤ a) (h : s.drop a.toNat = (uintL L.length ++ encB L) ++ rest) : decL s a = (L, a + (uintL L.length ++ encB L).length, 0) := by
  obtain ⟨h1, h2, h3⟩ := makeErr_ok hv.1
  have hz := (valid_small hv).2
  have hu := readU_at (rest := encB L ++ rest) h0 (by rw [h, List.append_assoc]) (by omega)
  rw [decL_go hu (by omega) (by omega), decT_at s rest L [] _ (by omega) (by
    rw [show (a + ((uintL L.length).length : Int)).toNat = a.toNat + (uintL L.length).length by omega, ← List.drop_drop, h, List.append_assoc, List.drop_left]) (make_fits h3) hz hv.2]
  simp only [List.nil_append, Prod.mk.injEq, and_true, true_and, List.length_append]
  omega

theorem name_no {nm : ByteArray} (h : fitN nm = true) (k : Nat) : nm.data.toList[k]? ≠ some 61 := by
  intro hk
  unfold fitN at h
  rw [Bool.and_eq_true] at h
  have := (nameAll_iff _).1 h.1 k 61 (List.getElem?_eq_some_iff.1 hk).1 hk
  simp [nameB, letterB, digitB] at this
theorem unqO_at {s : ByteArray} {k : Nat} {v t : List UInt8} (h : s.data.toList.drop k = quoteL v ++ t) : unqO s k = some (v, k + (quoteL v).length) := by
  have h34 : s.data.toList[k]? = some 34 := by
    have : (s.data.toList.drop k)[0]? = some 34 := by rw [h]; simp [quoteL]
    rwa [List.getElem?_drop, Nat.add_zero] at this
  have h2 : s.data.toList.drop (k + 1) = quoL v ++ 34 :: t := by
    rw [← List.drop_drop, h]; simp [quoteL]
  rw [unqO, if_pos h34, h2, parQ_quo]
  simp [quoteL]; omega
theorem join_cons (x : Lbl) (r : List Lbl) : joinL ((x :: r).map partB) = partL x ++ (r.map partB).flatMap (fun y => 44 :: y.data.toList) := by simp [joinL, partB]
theorem parR_at (s : ByteArray) : ∀ (mid : List Lbl) (f a : Nat) (out : List Lbl), mid ≠ [] → mid.length ≤ f → out.length + mid.length ≤ 8 → (∀ x ∈ mid, fitN x.name = true) → s.data.toList.drop a = joinL (mid.map partB) → parR s f a out = some (out ++ mid) := by
  intro mid
  induction mid with
  | nil => intro f a out h; exact absurd rfl h
  | cons x r ih =>
    intro f a out _ hf h8 hx h
    obtain ⟨f, rfl⟩ : ∃ g, f = g + 1 := ⟨f - 1, by simp at hf; omega⟩
    rw [join_cons] at h
    obtain ⟨T, hT⟩ : ∃ T, (r.map partB).flatMap (fun y => 44 :: y.data.toList) = T := ⟨_, rfl⟩
    rw [hT] at h
    simp only [List.length_cons] at hf h8
    have h' : s.data.toList.drop a = x.name.data.toList ++ (61 :: (quoteL x.value.data.toList ++ T)) := by rw [h, partL]; simp
    have en : x.name.data.toList.length = x.name.size := rfl
    have hj : Lib.indexByte (s.data.toList.drop a) 61 = (x.name.size : Nat) := ib_at (by rw [h', List.getElem?_append_right (by omega), en, Nat.sub_self]; rfl) (fun k hk => by
      rw [h', List.getElem?_append_left (by omega)]
      exact name_no (hx x (by simp)) k)
    have hd : s.data.toList.drop (a + x.name.size + 1) = quoteL x.value.data.toList ++ T := by
      rw [show a + x.name.size + 1 = a + (x.name.size + 1) by omega, ← List.drop_drop, h', ← List.drop_drop, ← en, List.drop_left]; rfl
    have hu := unqO_at hd
    have hE : s.extract a (a + x.name.size) = x.name := bytes_eq (by rw [ext_list, h', Nat.add_sub_cancel_left, ← en, List.take_left])
    have hn := (unqO_in hu).2.1
    have hdn : s.data.toList.drop (a + x.name.size + 1 + (quoteL x.value.data.toList).length) = T := by rw [← List.drop_drop, hd, List.drop_left]
    have hxe : (⟨s.extract a (a + x.name.size), ⟨x.value.data.toList.toArray⟩⟩ : Lbl) = x := by rw [hE]
    cases r with
    | nil =>
      have hT0 : T = [] := by rw [← hT]; rfl
      rw [hT0] at hdn
      have hlen := List.drop_eq_nil_iff.1 hdn
      have e2 : s.data.toList.length = s.size := rfl
      rw [parR_end hj hu (by omega) (by omega), hxe]
    | cons y r =>
      have hT1 : T = 44 :: joinL ((y :: r).map partB) := by rw [← hT]; simp [joinL, partB]
      rw [hT1] at hdn
      have h44 : s.data.toList[a + x.name.size + 1 + (quoteL x.value.data.toList).length]? = some 44 := by
        have : (s.data.toList.drop (a + x.name.size + 1 + (quoteL x.value.data.toList).length))[0]? = some 44 := by rw [hdn]; rfl
        rwa [List.getElem?_drop, Nat.add_zero] at this
      have hlt := (List.getElem?_eq_some_iff.1 h44).1
      have e2 : s.data.toList.length = s.size := rfl
      rw [parR_more hj hu (by omega) (by omega) h44, hxe, ih f _ _ (by simp) (by omega) (by rw [List.length_append, List.length_singleton]; omega) (fun z hz => hx z (by simp [hz])) (by rw [← List.drop_drop, hdn]; rfl)]
      simp
/-- a set's text is read as the set -/
theorem readL_at {L : List Lbl} (hv : validP L) : readL ⟨(showL L).toArray⟩ = (L, 0) := by
  obtain ⟨h1, h2, h3⟩ := makeErr_ok hv.1
  have hp := parR_at ⟨(showL L).toArray⟩ L 9 0 [] (fun e => by rw [e] at h1; simp at h1) (by omega) (by simp; omega) (fun x hx => (make_fits h3 x hx).1) (by simp [showL, hv, showP])
  rw [List.nil_append] at hp
  exact readL_yes hp (decide_eq_true hv)
end Go.Proofs.Ytfidneoakcejgaa
