/- What is read of bytes and of texts is the one form of its set, plainly. No condition. -/
import Derived.Test.YtfidneoakcejgaaDecLP
import Derived.Test.YtfidneoakcejgaaShow
namespace Go.Proofs.Ytfidneoakcejgaa
set_option maxRecDepth 100000
open Go.RowKit

theorem valid_of {l : List Lbl} (h0 : 0 < l.length) (h8 : l.length ≤ 8) (hf : ∀ x ∈ l, fitN x.name = true ∧ fitV x.value = true) (hu : upN l) : validP l := by
  refine ⟨?_, hu⟩
  rw [makeErr, if_neg (by omega), if_neg (by omega)]
  exact errUpto_fit hf (up_apart hu) _
theorem up_more {out : List Lbl} {x : Lbl} (h : upN out) (hb : badN out x = false) : upN (out ++ [x]) := by
  rcases List.eq_nil_or_concat out with rfl | ⟨M, z, rfl⟩
  · exact List.pairwise_singleton _ _
  · rw [List.concat_eq_append] at *
    rw [badN_snoc] at hb
    have hzx : ltN z x := by simpa using hb
    unfold upN
    rw [List.pairwise_append]
    refine ⟨h, List.pairwise_singleton _ _, fun y hy x' hx' => ?_⟩
    obtain rfl := List.mem_singleton.1 hx'
    rcases List.mem_append.1 hy with hy | hy
    · exact ltN_trans ((List.pairwise_append.1 h).2.2 y hy z (by simp)) hzx
    · rw [List.mem_singleton.1 hy]; exact hzx
theorem readT_form {s : List UInt8} {a b : Int} {v : ByteArray} (h : readT s a = (v, b, 0)) : s.drop a.toNat = textL v ++ s.drop b.toNat := by
  obtain ⟨n, m, e, h1⟩ : ∃ n b e, readU s a = (n, b, e) := ⟨_, _, _, rfl⟩
  by_cases he : e = 0
  · subst he
    obtain ⟨p1, p2, p3, p4, p5⟩ := readU_ok h1
    have hp := uintL_pos n
    by_cases hl : (s.length : Int) - m < n
    · rw [readT_short h1 hl] at h
      simp at h
    · rw [readT_ok h1 hl] at h
      simp only [Prod.mk.injEq, and_true] at h
      obtain ⟨hv, rfl⟩ := h
      have hvl : v.data.toList = (s.drop m.toNat).take n := by
        rw [← hv, ext_list]
        simp
      have hvs : v.size = n := by
        have e1 : v.data.toList.length = v.size := rfl
        rw [← e1, hvl, List.length_take, List.length_drop]; omega
      have e1 : s.drop a.toNat = uintL n ++ s.drop m.toNat := by
        have := List.take_append_drop (uintL n).length (s.drop a.toNat)
        rw [p5, List.drop_drop, show a.toNat + (uintL n).length = m.toNat by omega] at this
        exact this.symm
      have e2 : s.drop m.toNat = v.data.toList ++ s.drop (m + n).toNat := by
        have := List.take_append_drop n (s.drop m.toNat)
        rw [← hvl, List.drop_drop, show m.toNat + n = (m + n).toNat by omega] at this
        exact this.symm
      rw [e1, e2, textL, hvs, List.append_assoc]
  · rw [readT_e h1 he] at h
    simp only [Prod.mk.injEq] at h
    exact absurd h.2.2 he
theorem decT_form (s : List UInt8) : ∀ (k : Nat) (a : Int) (out L : List Lbl) (b : Int), decT s k a out = (L, b, 0) → (∀ x ∈ out, fitN x.name = true ∧ fitV x.value = true) → upN out → 0 ≤ a → a ≤ s.length →
    (∀ x ∈ L, fitN x.name = true ∧ fitV x.value = true) ∧ upN L ∧ 0 ≤ b ∧ b ≤ s.length ∧ ∃ mid, L = out ++ mid ∧ mid.length = k ∧ s.drop a.toNat = encB mid ++ s.drop b.toNat := by
  intro k
  induction k with
  | zero =>
    intro a out L b h h1 h2 h3 h4
    simp only [decT, Prod.mk.injEq, and_true] at h
    obtain ⟨rfl, rfl⟩ := h
    exact ⟨h1, h2, h3, h4, [], by simp, rfl, by simp [encB]⟩
  | succ k ih =>
    intro a out L b h h1 h2 h3 h4
    obtain ⟨u, p, e, r1⟩ : ∃ u b e, readT s a = (u, b, e) := ⟨_, _, _, rfl⟩
    by_cases he : e = 0
    · subst he
      obtain ⟨v, q, e2, r2⟩ : ∃ v c e2, readT s p = (v, c, e2) := ⟨_, _, _, rfl⟩
      by_cases he2 : e2 = 0
      · subst he2
        cases hf : fitN u with
        | false => rw [decT_name r1 r2 hf] at h; simp at h
        | true =>
          cases hg : fitV v with
          | false => rw [decT_value r1 r2 hf hg] at h; simp at h
          | true =>
            cases hb : badN out ⟨u, v⟩ with
            | true => rw [decT_bad r1 r2 hf hg hb] at h; simp at h
            | false =>
              rw [decT_go r1 r2 hf hg hb] at h
              have k1 := readT_ok_at r1
              have k2 := readT_ok_at r2
              obtain ⟨g1, g2, g3, g4, mid, g5, g6, g7⟩ := ih q (out ++ [⟨u, v⟩]) L b h (fun x hx => by
                rcases List.mem_append.1 hx with hx | hx
                · exact h1 x hx
                · obtain rfl := List.mem_singleton.1 hx
                  exact ⟨hf, hg⟩) (up_more h2 hb) (by omega) (by omega)
              refine ⟨g1, g2, g3, g4, ⟨u, v⟩ :: mid, by rw [g5]; simp, by simp [g6], ?_⟩
              rw [readT_form r1, readT_form r2, g7]
              simp [encB, labE]
      · rw [decT_e2 r1 r2 he2] at h
        simp only [Prod.mk.injEq] at h
        exact absurd h.2.2 he2
    · rw [decT_e1 r1 he] at h
      simp only [Prod.mk.injEq] at h
      exact absurd h.2.2 he
/-- what is read is the one form of its set -/
theorem decL_form {s : List UInt8} {L : List Lbl} {b : Int} (h : decL s 0 = (L, b, 0)) : encL L = (⟨(s.take b.toNat).toArray⟩, 0) ∧ validP L ∧ 0 ≤ b ∧ b ≤ s.length := by
  obtain ⟨n, m, e, h1⟩ : ∃ n b e, readU s 0 = (n, b, e) := ⟨_, _, _, rfl⟩
  by_cases he : e = 0
  · subst he
    obtain ⟨p1, p2, p3, p4, p5⟩ := readU_ok h1
    by_cases h0 : n = 0
    · subst h0; rw [decL_zero h1] at h; simp at h
    · by_cases h8 : 8 < n
      · rw [decL_many h1 h8] at h; simp at h
      · rw [decL_go h1 h0 h8] at h
        obtain ⟨g1, g2, g3, g4, mid, g5, g6, g7⟩ := decT_form s n m [] L b h (fun x hx => by cases hx) List.Pairwise.nil (by omega) p3
        rw [List.nil_append] at g5
        subst g5
        have hv : validP L := valid_of (by omega) (by omega) g1 g2
        have e1 : s = uintL n ++ s.drop m.toNat := by
          have := List.take_append_drop (uintL n).length (s.drop (0 : Int).toNat)
          rw [p5, List.drop_drop, show (0 : Int).toNat + (uintL n).length = m.toNat by omega] at this
          simpa using this.symm
        have e2 : s = (uintL L.length ++ encB L) ++ s.drop b.toNat := by
          rw [g6, List.append_assoc, ← g7]; exact e1
        have hl := congrArg List.length e2
        rw [List.length_append, List.length_drop] at hl
        refine ⟨?_, hv, g3, g4⟩
        rw [encL_ok hv]
        have e3 : s.take b.toNat = uintL L.length ++ encB L := by
          have hbn : b.toNat = (uintL L.length ++ encB L).length := by omega
          have h9 := congrArg (List.take (uintL L.length ++ encB L).length) e2
          rw [List.take_left] at h9
          rw [hbn]; exact h9
        rw [e3]
  · rw [decL_e h1 he] at h
    simp only [Prod.mk.injEq] at h
    exact absurd h.2.2 he

theorem unqO_form {s : ByteArray} {k n : Nat} {v : List UInt8} (h : unqO s k = some (v, n)) : s.data.toList.drop k = quoteL v ++ s.data.toList.drop n := by
  unfold unqO at h
  split at h
  · rename_i h34
    cases hq : parQ (s.data.toList.drop (k + 1)) with
    | none => rw [hq] at h; cases h
    | some p =>
      obtain ⟨u, m⟩ := p
      rw [hq] at h
      simp only [Option.map_some, Option.some.injEq, Prod.mk.injEq] at h
      obtain ⟨rfl, rfl⟩ := h
      obtain ⟨t, h1, rfl⟩ := parQ_form _ _ _ hq
      have h2 : s.data.toList.drop (k + 1 + ((quoL u).length + 1)) = t := by
        rw [← List.drop_drop, h1]
        have : quoL u ++ 34 :: t = (quoL u ++ [34]) ++ t := by simp
        rw [this, show (quoL u).length + 1 = (quoL u ++ [34]).length by simp, List.drop_left]
      rw [h2, drop_at? h34, h1]
      simp [quoteL]
  · cases h
theorem parR_form (s : ByteArray) : ∀ (f a : Nat) (out L : List Lbl), parR s f a out = some L → ∃ mid, mid ≠ [] ∧ L = out ++ mid ∧ s.data.toList.drop a = joinL (mid.map partB) := by
  intro f
  induction f with
  | zero => intro a out L h; simp [parR] at h
  | succ f ih =>
    intro a out L h
    by_cases hno : Lib.indexByte (s.data.toList.drop a) 61 < 0 ∨ out.length = 8
    · rw [parR_no hno] at h; cases h
    · obtain ⟨j, hj⟩ : ∃ j : Nat, Lib.indexByte (s.data.toList.drop a) 61 = j := ⟨(Lib.indexByte (s.data.toList.drop a) 61).toNat, by omega⟩
      obtain ⟨hj1, _⟩ := Lib.indexByte_some hj
      rw [List.getElem?_drop] at hj1
      cases hu : unqO s (a + j + 1) with
      | none => rw [parR_bad hj hu] at h; cases h
      | some p =>
        obtain ⟨v, n⟩ := p
        have hq := unqO_form hu
        have hx : s.data.toList.drop a = partL ⟨s.extract a (a + j), ⟨v.toArray⟩⟩ ++ s.data.toList.drop n := by
          have e1 := List.take_append_drop j (s.data.toList.drop a)
          rw [List.drop_drop, drop_at? hj1, hq] at e1
          rw [← e1, partL]
          simp only [ext_list, show a + j - a = j by omega]
          simp
        by_cases hn : n = s.size
        · rw [parR_end hj hu (by omega) hn] at h
          injection h with h
          refine ⟨[⟨s.extract a (a + j), ⟨v.toArray⟩⟩], by simp, h.symm, ?_⟩
          rw [hx, hn, List.drop_of_length_le (show s.data.toList.length ≤ s.size from Nat.le_refl _)]
          simp [joinL, partB]
        · by_cases hc : s.data.toList[n]? = some 44
          · rw [parR_more hj hu (by omega) hn hc] at h
            obtain ⟨mid, m1, m2, m3⟩ := ih _ _ _ h
            refine ⟨⟨s.extract a (a + j), ⟨v.toArray⟩⟩ :: mid, by simp, by rw [m2]; simp, ?_⟩
            rw [hx, drop_at? hc, m3]
            cases mid with
            | nil => exact absurd rfl m1
            | cons y r => simp [joinL, partB]
          · rw [parR_stop hj hu hn hc] at h; cases h
/-- what is read is the one form of its set -/
theorem readL_form {s : ByteArray} {L : List Lbl} (h : readL s = (L, 0)) : (⟨(showL L).toArray⟩ : ByteArray) = s := by
  unfold readL at h
  cases hp : parR s 9 0 [] with
  | none => rw [hp] at h; simp at h
  | some l =>
    rw [hp] at h
    simp only at h
    split at h
    · rename_i hv
      injection h with h _
      subst h
      obtain ⟨mid, _, m2, m3⟩ := parR_form s 9 0 [] l hp
      rw [List.nil_append] at m2
      subst m2
      rw [showL, if_pos hv, showP, ← m3]
      exact bytes_eq (by simp)
    · simp at h
theorem readL_err (s : ByteArray) : (readL s).2 = 0 ∨ readL s = ([], 21) := by
  unfold readL
  split
  · split
    · exact .inl rfl
    · exact .inr rfl
  · exact .inr rfl
end Go.Proofs.Ytfidneoakcejgaa
