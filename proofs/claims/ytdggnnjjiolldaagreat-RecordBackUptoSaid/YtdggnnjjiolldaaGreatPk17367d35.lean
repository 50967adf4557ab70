/- Spans read from bytes, plainly: what is read, and that it is what was written. No program. -/
import Derived.Test.YtdggnnjjiolldaaGreatPka150b50f
import Derived.Test.YtdggnnjjiolldaaGreatPk12799087
import Derived.Test.YtdggnnjjiolldaaGreatPkfa4ebbd5
namespace Go.Proofs.YtdggnnjjiolldaaGreat
set_option maxRecDepth 100000

/-- is the next span none that may follow these? -/
def badS (out : List Spn) (x : Spn) : Bool := decide (x.til < x.frm) || match out.getLast? with | none => false | some z => joinB z x
theorem badS_nil (x : Spn) : badS [] x = decide (x.til < x.frm) := by simp [badS]
theorem badS_snoc (m : List Spn) (z x : Spn) : badS (m ++ [z]) x = (decide (x.til < x.frm) || joinB z x) := by simp [badS]
/-- the spans that are read: so many, from this place on, behind these -/
def decS (s : List UInt8) : Nat → Int → List Spn → List Spn × Int × Int
  | 0, a, out => (out, a, 0)
  | k + 1, a, out => if (readI s a).2.2 = 0 then
      if (readI s (readI s a).2.1).2.2 = 0 then
        if badS out ⟨(readI s a).1, (readI s (readI s a).2.1).1⟩ = true then ([], 0, 21)
        else decS s k (readI s (readI s a).2.1).2.1 (out ++ [⟨(readI s a).1, (readI s (readI s a).2.1).1⟩])
      else ([], 0, (readI s (readI s a).2.1).2.2)
    else ([], 0, (readI s a).2.2)
def decR (s : List UInt8) (a : Int) : List Spn × Int × Int := if (readU s a).2.2 = 0 then decS s (readU s a).1 (readU s a).2.1 [] else ([], 0, (readU s a).2.2)
theorem decS_zero (s : List UInt8) (a : Int) (out : List Spn) : decS s 0 a out = (out, a, 0) := rfl
theorem decS_e1 {s : List UInt8} {k : Nat} {a : Int} {out : List Spn} {u b e : Int} (h : readI s a = (u, b, e)) (he : e ≠ 0) : decS s (k + 1) a out = ([], 0, e) := by
  rw [decS, h]; exact if_neg he
theorem decS_e2 {s : List UInt8} {k : Nat} {a : Int} {out : List Spn} {u b v c e : Int} (h : readI s a = (u, b, 0)) (h2 : readI s b = (v, c, e)) (he : e ≠ 0) : decS s (k + 1) a out = ([], 0, e) := by
  rw [decS, h]; simp only [if_true]; rw [h2]; exact if_neg he
theorem decS_bad {s : List UInt8} {k : Nat} {a : Int} {out : List Spn} {u b v c : Int} (h : readI s a = (u, b, 0)) (h2 : readI s b = (v, c, 0)) (hb : badS out ⟨u, v⟩ = true) : decS s (k + 1) a out = ([], 0, 21) := by
  rw [decS, h]; simp only [if_true]; rw [h2]; simp only [if_true]; exact if_pos hb
theorem decS_go {s : List UInt8} {k : Nat} {a : Int} {out : List Spn} {u b v c : Int} (h : readI s a = (u, b, 0)) (h2 : readI s b = (v, c, 0)) (hb : badS out ⟨u, v⟩ = false) : decS s (k + 1) a out = decS s k c (out ++ [⟨u, v⟩]) := by
  rw [decS, h]; simp only [if_true]; rw [h2]; simp only [if_true]; exact if_neg (by rw [hb]; decide)
theorem decR_e {s : List UInt8} {a : Int} {n : Nat} {b e : Int} (h : readU s a = (n, b, e)) (he : e ≠ 0) : decR s a = ([], 0, e) := by
  rw [decR, h]; exact if_neg he
theorem decR_go {s : List UInt8} {a : Int} {n : Nat} {b : Int} (h : readU s a = (n, b, 0)) : decR s a = decS s n b [] := by
  rw [decR, h]; exact if_pos rfl

/-- what a read number with a sign tells -/
theorem readI_ok {s : List UInt8} {a : Int} {u b : Int} (h : readI s a = (u, b, 0)) : 0 ≤ a ∧ a < b ∧ b ≤ s.length ∧ -9223372036854775808 ≤ u ∧ u < 9223372036854775808 ∧ b = a + (intL u).length ∧ (s.drop a.toNat).take (intL u).length = intL u := by
  unfold readI at h
  split at h
  · rename_i he
    simp only [Prod.mk.injEq] at h
    obtain ⟨h1, h2, _⟩ := h
    obtain ⟨k1, k2, k3, k4, k5⟩ := readU_ok (s := s) (at_ := a) (v := (readU s a).1) (n := (readU s a).2.1) (by rw [← he])
    have hu := unzz_in k4
    have hp := uintL_pos (readU s a).1
    rw [h1] at hu
    have hz : zz u = (readU s a).1 := by rw [← h1, zz_unzz]
    unfold intL
    rw [hz]
    refine ⟨k1, by omega, by omega, hu.1, hu.2, by omega, k5⟩
  · rename_i he
    simp only [Prod.mk.injEq] at h
    exact absurd h.2.2 he
theorem readI_at {s : List UInt8} {a : Int} {u : Int} {rest : List UInt8} (h0 : 0 ≤ a) (h : s.drop a.toNat = intL u ++ rest) (h1 : -9223372036854775808 ≤ u) (h2 : u < 9223372036854775808) : readI s a = (u, a + (intL u).length, 0) := by
  have := readU_at h0 h (zz_lt h1 h2)
  unfold readI
  rw [this]
  simp only [if_true]
  rw [unzz_zz]
  rfl
theorem badS_not {out : List Spn} {x : Spn} (h : badS out x = false) (ho : OneS out) : OneS (out ++ [x]) := by
  rcases List.eq_nil_or_concat out with rfl | ⟨m, z, rfl⟩
  · rw [badS_nil, decide_eq_false_iff_not] at h
    exact ⟨by simp; omega, by simp⟩
  · rw [List.concat_eq_append] at h ho ⊢
    rw [badS_snoc, Bool.or_eq_false_iff, decide_eq_false_iff_not, joinB_not] at h
    obtain ⟨h1, h2, h3⟩ := h
    obtain ⟨f, g⟩ := ho
    refine ⟨fun y hy => ?_, ?_⟩
    · rcases List.mem_append.1 hy with hy | hy
      · exact f y hy
      · simp only [List.mem_singleton] at hy; subst hy; omega
    · rw [List.pairwise_append]
      refine ⟨g, by simp, fun p hp q hq => ?_⟩
      simp only [List.mem_singleton] at hq
      subst hq
      rcases List.mem_append.1 hp with hp | hp
      · have := (List.pairwise_append.1 g).2.2 p hp z (by simp)
        have hz := f z (by simp)
        omega
      · simp only [List.mem_singleton] at hp; subst hp; omega
theorem badS_j1 {M : List Spn} {z : Spn} {u v : Int} (h : u ≤ z.til) : badS (M ++ [z]) ⟨u, v⟩ = true := by
  rw [badS_snoc]; simp [joinB, h]
theorem badS_j2 {M : List Spn} {z : Spn} {u v : Int} (h : ¬ u ≤ z.til) (h2 : u - 1 ≤ z.til) : badS (M ++ [z]) ⟨u, v⟩ = true := by
  have e : u - 1 = z.til := by have := h; omega
  rw [badS_snoc]; simp [joinB, e]
theorem badS_j3 {M : List Spn} {z : Spn} {u v : Int} (h0 : ¬ v < u) (h : ¬ u ≤ z.til) (h2 : ¬ u - 1 ≤ z.til) : badS (M ++ [z]) ⟨u, v⟩ = false := by
  rw [badS_snoc, Bool.or_eq_false_iff, decide_eq_false_iff_not, joinB_not]
  exact ⟨h0, by have := h; simp only; omega, by have := h2; simp only; omega⟩
theorem badS_of {out : List Spn} {x : Spn} (ho : OneS (out ++ [x])) : badS out x = false := by
  obtain ⟨f, g⟩ := ho
  have hx := f x (by simp)
  rcases List.eq_nil_or_concat out with rfl | ⟨m, z, rfl⟩
  · rw [badS_nil, decide_eq_false_iff_not]; omega
  · rw [List.concat_eq_append] at f g ⊢
    rw [badS_snoc, Bool.or_eq_false_iff, decide_eq_false_iff_not, joinB_not]
    have := (List.pairwise_append.1 g).2.2 z (by simp) x (by simp)
    omega
theorem encS_cons (x : Spn) (l : List Spn) : encS (x :: l) = intL x.frm ++ (intL x.til ++ encS l) := by simp [encS]
theorem encS_app (a b : List Spn) : encS (a ++ b) = encS a ++ encS b := by simp [encS]
/-- what was written is read -/
theorem decS_enc (s rest : List UInt8) : ∀ (ys out : List Spn) (a : Int), 0 ≤ a → s.drop a.toNat = encS ys ++ rest → OneS (out ++ ys) → (∀ x ∈ ys, x.ok) → decS s ys.length a out = (out ++ ys, a + (encS ys).length, 0) := by
  intro ys
  induction ys with
  | nil => intro out a _ _ _ _; simp [decS, encS]
  | cons y ys ih =>
    intro out a h0 hd ho hok
    obtain ⟨y1, y2, y3, y4⟩ := hok y (by simp)
    rw [encS_cons, List.append_assoc, List.append_assoc] at hd
    have e1 := readI_at h0 hd y1 y2
    have hd2 : s.drop (a + (intL y.frm).length).toNat = intL y.til ++ (encS ys ++ rest) := by
      have : (a + (intL y.frm).length).toNat = a.toNat + (intL y.frm).length := by omega
      rw [this, ← List.drop_drop, hd, List.drop_left]
    have e2 := readI_at (by omega) hd2 y3 y4
    have hd3 : s.drop (a + (intL y.frm).length + (intL y.til).length).toNat = encS ys ++ rest := by
      have : (a + (intL y.frm).length + (intL y.til).length).toNat = (a + (intL y.frm).length).toNat + (intL y.til).length := by omega
      rw [this, ← List.drop_drop, hd2, List.drop_left]
    have ho2 : OneS (out ++ [y]) := by
      obtain ⟨f, g⟩ := ho
      refine ⟨fun x hx => f x ?_, ?_⟩
      · rcases List.mem_append.1 hx with h | h
        · exact List.mem_append_left _ h
        · simp only [List.mem_singleton] at h; subst h; simp
      · rw [show out ++ y :: ys = (out ++ [y]) ++ ys by simp] at g
        exact (List.pairwise_append.1 g).1
    rw [List.length_cons, decS_go e1 e2 (badS_of ho2), ih (out ++ [y]) _ (by omega) hd3 (by simpa using ho) (fun x hx => hok x (by simp [hx]))]
    rw [encS_cons, List.length_append, List.length_append]
    simp only [List.append_assoc, List.singleton_append, Prod.mk.injEq, true_and, and_true]
    omega
/-- what is read was written so -/
theorem decS_form (s : List UInt8) : ∀ (k : Nat) (out : List Spn) (a : Int) (L : List Spn) (n : Int), 0 ≤ a → a ≤ s.length → OneS out → (∀ x ∈ out, x.ok) → decS s k a out = (L, n, 0) →
    ∃ ys, L = out ++ ys ∧ ys.length = k ∧ OneS L ∧ (∀ x ∈ L, x.ok) ∧ n = a + (encS ys).length ∧ n ≤ s.length ∧ (s.drop a.toNat).take (encS ys).length = encS ys := by
  intro k
  induction k with
  | zero =>
    intro out a L n h0 hl ho hok h
    simp only [decS, Prod.mk.injEq] at h
    obtain ⟨rfl, rfl, _⟩ := h
    exact ⟨[], by simp, rfl, ho, hok, by simp [encS], hl, by simp [encS]⟩
  | succ k ih =>
    intro out a L n h0 hl ho hok h
    obtain ⟨u, b, e, h1⟩ : ∃ u b e, readI s a = (u, b, e) := ⟨_, _, _, rfl⟩
    by_cases he : e = 0
    · subst he
      obtain ⟨v, c, e2, h2⟩ : ∃ v c e2, readI s b = (v, c, e2) := ⟨_, _, _, rfl⟩
      by_cases he2 : e2 = 0
      · subst he2
        obtain ⟨p1, p2, p3, p4, p5, p6, p7⟩ := readI_ok h1
        obtain ⟨q1, q2, q3, q4, q5, q6, q7⟩ := readI_ok h2
        cases hb : badS out ⟨u, v⟩ with
        | true => rw [decS_bad h1 h2 hb] at h; simp at h
        | false =>
          rw [decS_go h1 h2 hb] at h
          obtain ⟨ys, r1, r2, r3, r4, r5, r6, r7⟩ := ih (out ++ [⟨u, v⟩]) c L n (by omega) q3 (badS_not hb ho) (fun x hx => by
            rcases List.mem_append.1 hx with h | h
            · exact hok x h
            · simp only [List.mem_singleton] at h; subst h; exact ⟨p4, p5, q4, q5⟩) h
          refine ⟨⟨u, v⟩ :: ys, by rw [r1]; simp, by simp [r2], r3, r4, ?_, r6, ?_⟩
          · rw [encS_cons, List.length_append, List.length_append]; simp only; omega
          · rw [encS_cons]
            simp only
            have hb1 : b.toNat = a.toNat + (intL u).length := by omega
            have hc1 : c.toNat = a.toNat + (intL u).length + (intL v).length := by omega
            rw [hb1, ← List.drop_drop] at q7
            rw [hc1, ← List.drop_drop, ← List.drop_drop] at r7
            rw [List.length_append, List.length_append, List.take_add, List.take_add, p7, q7, r7]
      · rw [decS_e2 h1 h2 he2] at h; simp only [Prod.mk.injEq] at h; exact absurd h.2.2 he2
    · rw [decS_e1 h1 he] at h; simp only [Prod.mk.injEq] at h; exact absurd h.2.2 he
theorem decR_enc {R : List Spn} {rest : List UInt8} (ho : OneS R) (hok : ∀ x ∈ R, x.ok) (hl : R.length < 18446744073709551616) : decR (encL R ++ rest) 0 = (R, ((encL R).length : Int), 0) := by
  have hu : readU (encL R ++ rest) 0 = (R.length, 0 + ((uintL R.length).length : Int), 0) := readU_at (rest := encS R ++ rest) (by decide) (by simp [encL]) hl
  rw [decR_go hu, decS_enc (encL R ++ rest) rest R [] _ (by omega) (by
    have : ((0 : Int) + ((uintL R.length).length : Int)).toNat = (uintL R.length).length := by omega
    rw [this]; simp [encL]) ho hok]
  simp [encL]
theorem decR_form {s : List UInt8} {L : List Spn} {n : Int} (h : decR s 0 = (L, n, 0)) : OneS L ∧ (∀ x ∈ L, x.ok) ∧ 0 ≤ n ∧ n ≤ s.length ∧ s.take n.toNat = encL L := by
  obtain ⟨k, b, e, h1⟩ : ∃ k b e, readU s 0 = (k, b, e) := ⟨_, _, _, rfl⟩
  by_cases he : e = 0
  · subst he
    rw [decR_go h1] at h
    obtain ⟨p1, p2, p3, p4, p5⟩ := readU_ok h1
    obtain ⟨ys, r1, r2, r3, r4, r5, r6, r7⟩ := decS_form s k [] b L n (by omega) p3 OneS.nil (by simp) h
    rw [List.nil_append] at r1
    subst r1
    refine ⟨r3, r4, by omega, r6, ?_⟩
    have hb : b.toNat = (uintL k).length := by omega
    rw [hb] at r7
    have hn : n.toNat = (uintL k).length + (encS L).length := by omega
    rw [hn, List.take_add, encL, r2, r7]
    simp only [Int.toNat_zero, List.drop_zero] at p5
    rw [p5]
  · rw [decR_e h1 he] at h; simp only [Prod.mk.injEq] at h; exact absurd h.2.2 he
theorem decS_err (s : List UInt8) : ∀ (k : Nat) (out : List Spn) (a : Int), (decS s k a out).2.2 = 0 ∨ ((decS s k a out).1 = [] ∧ (decS s k a out).2.1 = 0) := by
  intro k
  induction k with
  | zero => intro out a; exact .inl rfl
  | succ k ih =>
    intro out a
    rw [decS]
    split
    · split
      · split
        · exact .inr ⟨rfl, rfl⟩
        · exact ih _ _
      · exact .inr ⟨rfl, rfl⟩
    · exact .inr ⟨rfl, rfl⟩
theorem decR_err (s : List UInt8) (a : Int) : (decR s a).2.2 = 0 ∨ ((decR s a).1 = [] ∧ (decR s a).2.1 = 0) := by
  unfold decR
  split
  · exact decS_err _ _ _ _
  · exact .inr ⟨rfl, rfl⟩
end Go.Proofs.YtdggnnjjiolldaaGreat
