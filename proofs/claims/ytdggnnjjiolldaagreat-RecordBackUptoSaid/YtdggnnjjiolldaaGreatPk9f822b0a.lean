/- A record is read back from its bytes, plainly. No condition. -/
import Derived.Test.YtdggnnjjiolldaaGreatPk2a42a290
namespace Go.Proofs.YtdggnnjjiolldaaGreat
set_option maxRecDepth 100000
open Go.RowKit Go.Shelf

/-- what stands from a place on -/
def Pos (s : List UInt8) (a : Int) (t : List UInt8) : Prop := 0 ≤ a ∧ s.drop a.toNat = t
theorem Pos.next {s x t : List UInt8} {a : Int} (h : Pos s a (x ++ t)) : Pos s (a + x.length) t := by
  obtain ⟨h0, h⟩ := h
  refine ⟨by omega, ?_⟩
  rw [show (a + (x.length : Int)).toNat = a.toNat + x.length by omega, ← List.drop_drop, h, List.drop_left]
theorem Pos.len {s t : List UInt8} {a : Int} (h : Pos s a t) : t.length ≤ s.length := by
  rw [← h.2, List.length_drop]; omega
theorem numP_at {s t : List UInt8} {a : Int} {n : Nat} (h : Pos s a (uintL n ++ t)) (hn : n ≤ 4611686018427387904) : numP s a = some (n, a + (uintL n).length) := by
  have := readU_at h.1 h.2 (by omega)
  rw [numP, this, if_pos rfl, Nat.min_eq_left hn]
theorem u64P_at {s t : List UInt8} {a : Int} {n : Nat} (h : Pos s a (uintL n ++ t)) (hn : n < 18446744073709551616) : u64P s a = some (n, a + (uintL n).length) := by
  have := readU_at h.1 h.2 hn
  rw [u64P, this, if_pos rfl]
theorem intP_at {s t : List UInt8} {a u : Int} (h : Pos s a (intL u ++ t)) (h1 : -9223372036854775808 ≤ u) (h2 : u < 9223372036854775808) : intP s a = some (u, a + (intL u).length) := by
  have := readI_at h.1 h.2 h1 h2
  rw [intP, this, if_pos rfl]
theorem decR_at {s t : List UInt8} {a : Int} {R : List Spn} (h : Pos s a (encL R ++ t)) (ho : OneS R) (hok : ∀ x ∈ R, x.ok) (hl : R.length < 18446744073709551616) : decR s a = (R, a + (encL R).length, 0) := by
  rw [encL, List.append_assoc] at h
  have hu := readU_at h.1 h.2 hl
  have h2 := h.next
  rw [decR_go hu, decS_enc s t R [] _ h2.1 h2.2 ho hok]
  simp only [List.nil_append, encL, List.length_append, Prod.mk.injEq, true_and, and_true]
  omega

/-- what a series that gets a number tells -/
def newV (x : NewR) : Int × List Lbl := (x.ref, x.lab.l)
def gonV (x : GonR) : Int × Int × List Spn := (x.ref, x.res, x.sp.l)
theorem newB_pos (x : NewR) : 1 ≤ (newB x).length := by
  have := uintL_pos x.ref.toNat
  rw [newB, List.length_append]; omega
theorem pntB_pos (p x : PntR) : 1 ≤ (pntB p x).length := by
  have := uintL_pos (zz (x.ref - p.ref))
  rw [pntB, List.length_append, intL]; omega
theorem gonB_pos (x : GonR) : 1 ≤ (gonB x).length := by
  have := uintL_pos x.ref.toNat
  rw [gonB, List.length_append]; omega
theorem newsB_least (l : List NewR) : l.length ≤ (newsB l).length := by
  induction l with
  | nil => simp
  | cons x l ih => have := newB_pos x; simp only [newsB, List.flatMap_cons, List.length_append, List.length_cons] at *; omega
theorem pntsB_least (p : PntR) (l : List PntR) : l.length ≤ (pntsB p l).length := by
  induction l generalizing p with
  | nil => simp
  | cons x l ih => have := pntB_pos p x; have := ih x; simp only [pntsB, List.length_append, List.length_cons] at *; omega
theorem gonsB_least (l : List GonR) : l.length ≤ (gonsB l).length := by
  induction l with
  | nil => simp
  | cons x l ih => have := gonB_pos x; simp only [gonsB, List.flatMap_cons, List.length_append, List.length_cons] at *; omega

theorem stepN_at {s t : List UInt8} {σ : PS} {x : NewR} (h : Pos s σ.a (newB x ++ t)) (hf : fitNew x) : stepN s σ = some { σ with a := σ.a + (newB x).length, news := σ.news ++ [newV x] } := by
  obtain ⟨⟨f1, f2⟩, f3⟩ := hf
  rw [newB, List.append_assoc] at h
  have h1 := numP_at h (by omega)
  have h2 := decL_at f3 h.next.1 h.next.2
  rw [stepN, h1]
  simp only [Option.bind_some]
  rw [h2, if_pos rfl]
  have e : ((x.ref.toNat : Nat) : Int) = x.ref := by omega
  simp only [newB, List.length_append, newV, e, Option.some.injEq, PS.mk.injEq, and_true]
  omega
theorem stepG_at {s t : List UInt8} {σ : PS} {x : GonR} (h : Pos s σ.a (gonB x ++ t)) (hf : fitGon x) (hok : ∀ y ∈ x.sp.l, y.ok) (hl : x.sp.l.length < 18446744073709551616) : stepG s σ = some { σ with a := σ.a + (gonB x).length, gones := σ.gones ++ [gonV x] } := by
  obtain ⟨⟨f1, f2⟩, f3, f4, f5, f6⟩ := hf
  rw [gonB, List.append_assoc, List.append_assoc] at h
  have h1 := numP_at h (by omega)
  have h2 := numP_at h.next (by omega)
  have h3 := decR_at h.next.next f6 hok hl
  rw [stepG, h1]
  simp only [Option.bind_some]
  rw [h2]
  simp only [Option.bind_some]
  rw [h3, if_pos rfl]
  have e : ((x.ref.toNat : Nat) : Int) = x.ref := by omega
  have e2 : ((x.res.toNat : Nat) : Int) = x.res := by omega
  simp only [gonB, List.length_append, gonV, e, e2, Option.some.injEq, PS.mk.injEq, and_true]
  omega
theorem wrap64_at {x : Int} (h1 : -9223372036854775808 ≤ x) (h2 : x < 9223372036854775808) : wrap64 x = x := by
  unfold wrap64; omega
theorem stepP_at {s t : List UInt8} {σ : PS} {x : PntR} (h : Pos s σ.a (pntB σ.last x ++ t)) (hf : fitPnt x) (hv : x.v < 18446744073709551616) (kf : fitPnt σ.last) (kv : σ.last.v < 18446744073709551616) : stepP s σ = some { σ with a := σ.a + (pntB σ.last x).length, last := x, pts := σ.pts ++ [x] } := by
  obtain ⟨⟨f1, f2⟩, f3, f4⟩ := hf
  obtain ⟨⟨k1, k2⟩, k3, k4⟩ := kf
  rw [pntB, List.append_assoc, List.append_assoc] at h
  have h1 := intP_at h (by omega) (by omega)
  have h2 := intP_at h.next (by omega) (by omega)
  have h3 := u64P_at h.next.next (xor_lt64 kv hv)
  have e1 : wrap64 (σ.last.ref + (x.ref - σ.last.ref)) = x.ref := by rw [wrap64_at (by omega) (by omega)]; omega
  have e2 : wrap64 (σ.last.t + (x.t - σ.last.t)) = x.t := by rw [wrap64_at (by omega) (by omega)]; omega
  have e3 : σ.last.v ^^^ (σ.last.v ^^^ x.v) = x.v := by rw [← Nat.xor_assoc, Nat.xor_self, Nat.zero_xor]
  rw [stepP, h1]
  simp only [Option.bind_some]
  rw [h2]
  simp only [Option.bind_some]
  rw [h3]
  simp only [Option.bind_some, e1, e2, e3, Option.some.injEq, PS.mk.injEq, and_true, pntB, List.length_append]
  omega
theorem iterN_at {s : List UInt8} : ∀ (l : List NewR) (t : List UInt8) (σ : PS), Pos s σ.a (newsB l ++ t) → (∀ x ∈ l, fitNew x) → iter (stepN s) l.length σ = some { σ with a := σ.a + (newsB l).length, news := σ.news ++ l.map newV } := by
  intro l
  induction l with
  | nil => intro t σ h hf; simp [iter, newsB]
  | cons x l ih =>
    intro t σ h hf
    have e : newsB (x :: l) = newB x ++ newsB l := by simp [newsB]
    rw [e, List.append_assoc] at h
    rw [List.length_cons, iter, stepN_at h (hf x (by simp)), Option.bind_some, ih t _ h.next fun y hy => hf y (by simp [hy])]
    simp only [e, List.length_append, List.map_cons, List.append_assoc, List.singleton_append, Option.some.injEq, PS.mk.injEq, and_true]
    omega
theorem iterG_at {s : List UInt8} : ∀ (l : List GonR) (t : List UInt8) (σ : PS), Pos s σ.a (gonsB l ++ t) → (∀ x ∈ l, fitGon x ∧ (∀ y ∈ x.sp.l, y.ok) ∧ x.sp.l.length < 18446744073709551616) → iter (stepG s) l.length σ = some { σ with a := σ.a + (gonsB l).length, gones := σ.gones ++ l.map gonV } := by
  intro l
  induction l with
  | nil => intro t σ h hf; simp [iter, gonsB]
  | cons x l ih =>
    intro t σ h hf
    have e : gonsB (x :: l) = gonB x ++ gonsB l := by simp [gonsB]
    rw [e, List.append_assoc] at h
    obtain ⟨k1, k2, k3⟩ := hf x (by simp)
    rw [List.length_cons, iter, stepG_at h k1 k2 k3, Option.bind_some, ih t _ h.next fun y hy => hf y (by simp [hy])]
    simp only [e, List.length_append, List.map_cons, List.append_assoc, List.singleton_append, Option.some.injEq, PS.mk.injEq, and_true]
    omega
theorem iterP_at {s : List UInt8} : ∀ (l : List PntR) (t : List UInt8) (σ : PS), Pos s σ.a (pntsB σ.last l ++ t) → (∀ x ∈ l, fitPnt x ∧ x.v < 18446744073709551616) → fitPnt σ.last → σ.last.v < 18446744073709551616 → iter (stepP s) l.length σ = some { σ with a := σ.a + (pntsB σ.last l).length, last := lastP σ.last l, pts := σ.pts ++ l } := by
  intro l
  induction l with
  | nil => intro t σ h hf _ _; simp [iter, pntsB, lastP]
  | cons x l ih =>
    intro t σ h hf kf kv
    have e : pntsB σ.last (x :: l) = pntB σ.last x ++ pntsB x l := rfl
    rw [e, List.append_assoc] at h
    obtain ⟨k1, k2⟩ := hf x (by simp)
    rw [List.length_cons, iter, stepP_at h k1 k2 kf kv, Option.bind_some, ih t _ h.next (fun y hy => hf y (by simp [hy])) k1 k2]
    simp only [e, lastP, List.length_append, List.append_assoc, List.singleton_append, Option.some.injEq, PS.mk.injEq, and_true]
    omega
theorem times_at {s u t : List UInt8} {f : PS → Option PS} {σ : PS} {k : Nat} (h : Pos s σ.a (uintL k ++ (u ++ t))) (hk : k ≤ u.length) (hs : s.length ≤ 4294967296) : timesP s f σ = iter f k { σ with a := σ.a + (uintL k).length } := by
  have hl := h.next.len
  rw [List.length_append] at hl
  rw [timesP, numP_at h (by omega), Option.bind_some, Nat.min_eq_left (by simp only; omega)]
/-- a record is read back -/
theorem decP_at {nl : List NewR} {pl : List PntR} {gl : List GonR} (h1 : ∀ x ∈ nl, fitNew x) (h2 : ∀ x ∈ pl, fitPnt x ∧ x.v < 18446744073709551616) (h3 : ∀ x ∈ gl, fitGon x ∧ (∀ y ∈ x.sp.l, y.ok) ∧ x.sp.l.length < 18446744073709551616)
    {s : List UInt8} (hs : s = uintL nl.length ++ newsB nl ++ uintL pl.length ++ pntsB pnt0 pl ++ uintL gl.length ++ gonsB gl) (hl : s.length ≤ 4294967296) :
    decP s = some ⟨s.length, nl.map newV, pl, lastP pnt0 pl, gl.map gonV⟩ := by
  have p0 : Pos s ps0.a (uintL nl.length ++ (newsB nl ++ (uintL pl.length ++ (pntsB pnt0 pl ++ (uintL gl.length ++ (gonsB gl ++ [])))))) := ⟨by decide, by rw [hs]; simp [ps0]⟩
  have t1 := times_at (f := stepN s) p0 (newsB_least nl) hl
  have i1 := iterN_at nl _ { ps0 with a := ps0.a + (uintL nl.length).length } p0.next h1
  have p1 := p0.next.next
  have t2 := times_at (f := stepP s) (σ := { ps0 with a := ps0.a + (uintL nl.length).length + (newsB nl).length, news := ps0.news ++ nl.map newV }) p1 (pntsB_least pnt0 pl) hl
  have i2 := iterP_at pl _ { ps0 with a := ps0.a + (uintL nl.length).length + (newsB nl).length + (uintL pl.length).length, news := ps0.news ++ nl.map newV } p1.next h2 pnt0_fit (show (0 : Nat) < 18446744073709551616 by decide)
  have p2 := p1.next.next
  have t3 := times_at (f := stepG s) (σ := { ps0 with a := ps0.a + (uintL nl.length).length + (newsB nl).length + (uintL pl.length).length + (pntsB pnt0 pl).length, news := ps0.news ++ nl.map newV, last := lastP pnt0 pl, pts := ps0.pts ++ pl }) p2 (gonsB_least gl) hl
  have i3 := iterG_at gl _ { ps0 with a := ps0.a + (uintL nl.length).length + (newsB nl).length + (uintL pl.length).length + (pntsB pnt0 pl).length + (uintL gl.length).length, news := ps0.news ++ nl.map newV, last := lastP pnt0 pl, pts := ps0.pts ++ pl } p2.next h3
  rw [decP, t1, i1, Option.bind_some, t2]
  refine Eq.trans (congrArg (fun x => Option.bind x _) i2) ?_
  rw [Option.bind_some]
  refine t3.trans (i3.trans ?_)
  have hz := congrArg List.length hs
  simp only [List.length_append] at hz
  simp only [ps0, List.nil_append, Option.some.injEq, PS.mk.injEq, and_true]
  omega
end Go.Proofs.YtdggnnjjiolldaaGreat
