/- Batches of entries, and calls that hold them, opened (almanaclaw18). No condition. -/
import Derived.Test.YthncochjhbmceaaGreatHedM
import Derived.Test.YthncochjhbmceaaGreatPk5edf48dd
import Derived.Test.YthncochjhbmceaaGreatPk6485189d
import Derived.Laws.IdiomArrays
namespace Go.Proofs.YthncochjhbmceaaGreat
set_option maxRecDepth 100000
open Go.RowKit Go.WideShapes

instance : Inhabited EntR := ⟨⟨Sl.nil, 0, 0⟩⟩
/-- a slice's value alone -/
structure SlV where
  A : Option Addr
  n : Nat
  c : Nat
def SlV.val (s : SlV) : Value := .slice s.A s.n s.c
/-- a call of a script, as it lies: its kind, its batch, and what else it holds -/
structure OpR where
  kind : Int
  bat : Sl EntR
  s2 : SlV
  s3 : SlV
  s4 : SlV
  i5 : Int
  i6 : Int
  i7 : Int
  i8 : Int
  i9 : Int
  i10 : Int
  i11 : Int
  i12 : Int
  s13 : SlV
def OpR.cells (x : OpR) : List Value := [.int .i64 x.kind, x.bat.val, x.s2.val, x.s3.val, x.s4.val, .int .i64 x.i5, .int .i64 x.i6, .int .i64 x.i7, .int .i64 x.i8, .int .i64 x.i9, .int .i64 x.i10, .int .i64 x.i11, .int .i64 x.i12, x.s13.val]
instance : Inhabited OpR := ⟨⟨0, Sl.nil, ⟨none, 0, 0⟩, ⟨none, 0, 0⟩, ⟨none, 0, 0⟩, 0, 0, 0, 0, 0, 0, 0, 0, ⟨none, 0, 0⟩⟩⟩
def EntR.fit (w : World) (x : EntR) : Prop := (LbF w x.lab.A x.lab.n x.lab.l ∧ x.lab.n ≤ x.lab.c) ∧ -9223372036854775808 ≤ x.t ∧ x.t < 9223372036854775808 ∧ x.v < 18446744073709551616
/-- a script's calls -/
structure OpsF (w : World) (A : Option Addr) (n : Nat) (os : List OpR) : Prop where
  row : Row w w.heap.size 14 A n (os.flatMap OpR.cells)
  len : os.length = n
  few : n ≤ 1048576
  ent : ∀ o ∈ os, EntF w o.bat.A o.bat.n o.bat.l
theorem OpsF.on {w w' : World} {A : Option Addr} {n : Nat} {os : List OpR} (h : OpsF w A n os) (hb : Below w.heap.size w w') : OpsF w' A n os :=
  ⟨(h.row.below hb).more hb.size, h.len, h.few, fun o ho => (h.ent o ho).on hb⟩

section
variable {H : Type} {enc : TypeId × Value → H} {W : World} {b : Nat}
theorem opens_ent : Opens enc Tryz.prog W b 93 EntR.cells (fun x => x.fit W) := by
  intro fuel cs x h hf
  obtain ⟨n, hl, hp⟩ := open_ones Tryz.underlying93 (by kernel_rfl) (by kernel_rfl) h hf
  obtain ⟨u0, y0, c0, t0, f0⟩ := hp 0 _ rfl
  obtain ⟨u1, y1, c1, t1, f1⟩ := hp 1 _ rfl
  obtain ⟨u2, y2, c2, t2, f2⟩ := hp 2 _ rfl
  obtain ⟨s0, e0, ⟨h1, h2, h3⟩, h4, h5, _⟩ := opens_slice (k := 2) (f := Lbl.cells) Tryz.underlying61 (by kernel_rfl) (by decide) (fun _ => rfl) opens_lblS _ _ _ t0 f0
  obtain ⟨s1, e1, g1⟩ := opens_int Tryz.underlying2 _ _ _ t1 f1
  obtain ⟨s2, e2, g2⟩ := opens_int Tryz.underlying66 _ _ _ t2 f2
  simp only [List.cons.injEq, and_true] at e0 e1 e2
  subst e0 e1 e2
  rw [show Tryz.prog.bytesOf 70 = 32 from by kernel_rfl] at h5
  unfold reachBytes at h5
  have w1 := wf_i64 g1
  have w2 := wf_u64 g2
  match cs, hl with
  | [a, c, d], _ =>
    simp only [List.getElem?_cons_zero, List.getElem?_cons_succ, Option.some.injEq] at c0 c1 c2
    refine ⟨⟨s0, s1, s2.toNat⟩, ?_, ⟨⟨h3, h2, by simp only; omega, h4⟩, h1⟩, w1.1, w1.2, ?_⟩
    · have : ((s2.toNat : Nat) : Int) = s2 := by omega
      rw [c0, c1, c2]
      show _ = [s0.val, Value.int .i64 s1, Value.int .u64 ((s2.toNat : Nat) : Int)]
      rw [this]
    · show s2.toNat < _
      omega
/-- a batch, with its bulk -/
theorem opens_bat : OpensB enc Tryz.prog W b 23 (fun s : Sl EntR => [s.val]) (fun s => s.At W W.heap.size 3 EntR.cells ∧ (∀ a ∈ s.l, a.fit W) ∧ s.n * Tryz.prog.bytesOf 93 ≤ reachBytes ∧ s.n ≤ b) (fun s => (s.l.map fun _ => 1).sum) :=
  opens_slice_b (k := 3) (f := EntR.cells) Tryz.underlying23 (by kernel_rfl) (by decide) (fun _ => rfl) opens_ent.one
theorem ones_sum {α : Type} (l : List α) : (l.map fun _ => 1).sum = l.length := by
  induction l with
  | nil => rfl
  | cons a l ih => simp only [List.map_cons, List.sum_cons, List.length_cons, ih]; omega
theorem entF_of {s : Sl EntR} (h : s.At W W.heap.size 3 EntR.cells) (hf : ∀ a ∈ s.l, a.fit W) (hn : s.n ≤ 1048576) : EntF W s.A s.n s.l :=
  ⟨h.2.2, h.2.1, hn, fun x hx => (hf x hx).1, fun x hx => (hf x hx).2⟩
theorem open_shape {P : Program} {t e : TypeId} {fuel : Nat} {cs : List Value} {x : DataW H × List MemPlace} (ht : P.underlying t = some (.slice e)) (h : DataW.trod enc P W 0 (fun _ => true) true fuel t cs = some x) : ∃ s : SlV, cs = [s.val] := by
  rcases Deep.open_slice ht h with ⟨hcs, _⟩ | ⟨a, len, cap, _, _, _, _, hcs, _⟩
  · exact ⟨⟨none, 0, 0⟩, hcs⟩
  · exact ⟨⟨some a, len, cap⟩, hcs⟩
/-- three numbers in a row -/
theorem open_three {fuel : Nat} {c0 c1 c2 : Value} {x : DataW H × List MemPlace} (h : DataW.trod enc Tryz.prog W 0 (fun _ => true) true fuel 34 [c0, c1, c2] = some x) :
    ∃ x0 x1 x2 : Int, c0 = .int .i64 x0 ∧ c1 = .int .i64 x1 ∧ c2 = .int .i64 x2 := by
  obtain ⟨y0, y1, y2, n, rfl, h0, h1, h2⟩ := Go.ChangeShapes.trod_array3 Tryz.underlying34 (by kernel_rfl) h
  obtain ⟨s0, e0, _⟩ := DataW.trod_int Tryz.underlying2 h0
  obtain ⟨s1, e1, _⟩ := DataW.trod_int Tryz.underlying2 h1
  obtain ⟨s2, e2, _⟩ := DataW.trod_int Tryz.underlying2 h2
  simp only [List.cons.injEq, and_true] at e0 e1 e2
  exact ⟨s0, s1, s2, e0, e1, e2⟩
theorem opens_op (hb : b ≤ 1048576) : OpensB enc Tryz.prog W b 37 OpR.cells (fun o => EntF W o.bat.A o.bat.n o.bat.l) (fun o => o.bat.n) := by
  intro fuel cs x h hf
  obtain ⟨n, hl, hp⟩ := open_parts (b := Rows.uptoBulk x.1) Tryz.underlying37 h ⟨hf.old, hf.light, Nat.le_refl _⟩
  obtain ⟨y0, t0, f0⟩ := hp 0 _ rfl
  obtain ⟨y1, t1, f1⟩ := hp 1 _ rfl
  obtain ⟨y2, t2, f2⟩ := hp 2 _ rfl
  obtain ⟨y3, t3, f3⟩ := hp 3 _ rfl
  obtain ⟨y4, t4, f4⟩ := hp 4 _ rfl
  obtain ⟨y5, t5, f5⟩ := hp 5 _ rfl
  obtain ⟨y6, t6, f6⟩ := hp 6 _ rfl
  rw [show Tryz.prog.cellsOf 37 = 14 from by kernel_rfl] at hl
  match cs, hl with
  | [a0, a1, a2, a3, a4, a5, a6, a7, a8, a9, a10, a11, a12, a13], _ =>
    have k0 : DataW.trod enc Tryz.prog W 0 (fun _ => true) true n 3 (([a0, a1, a2, a3, a4, a5, a6, a7, a8, a9, a10, a11, a12, a13].drop 0).take (Tryz.prog.cellsOf 3)) = some y0 := t0
    have k1 : DataW.trod enc Tryz.prog W 0 (fun _ => true) true n 23 (([a0, a1, a2, a3, a4, a5, a6, a7, a8, a9, a10, a11, a12, a13].drop 1).take (Tryz.prog.cellsOf 23)) = some y1 := t1
    have k2 : DataW.trod enc Tryz.prog W 0 (fun _ => true) true n 31 (([a0, a1, a2, a3, a4, a5, a6, a7, a8, a9, a10, a11, a12, a13].drop 2).take (Tryz.prog.cellsOf 31)) = some y2 := t2
    have k3 : DataW.trod enc Tryz.prog W 0 (fun _ => true) true n 33 (([a0, a1, a2, a3, a4, a5, a6, a7, a8, a9, a10, a11, a12, a13].drop 5).take (Tryz.prog.cellsOf 33)) = some y3 := t3
    have k4 : DataW.trod enc Tryz.prog W 0 (fun _ => true) true n 34 (([a0, a1, a2, a3, a4, a5, a6, a7, a8, a9, a10, a11, a12, a13].drop 7).take (Tryz.prog.cellsOf 34)) = some y4 := t4
    have k5 : DataW.trod enc Tryz.prog W 0 (fun _ => true) true n 34 (([a0, a1, a2, a3, a4, a5, a6, a7, a8, a9, a10, a11, a12, a13].drop 10).take (Tryz.prog.cellsOf 34)) = some y5 := t5
    have k6 : DataW.trod enc Tryz.prog W 0 (fun _ => true) true n 35 (([a0, a1, a2, a3, a4, a5, a6, a7, a8, a9, a10, a11, a12, a13].drop 13).take (Tryz.prog.cellsOf 35)) = some y6 := t6
    rw [show Tryz.prog.cellsOf 3 = 1 from by kernel_rfl] at k0
    rw [show Tryz.prog.cellsOf 23 = 1 from by kernel_rfl] at k1
    rw [show Tryz.prog.cellsOf 31 = 3 from by kernel_rfl] at k2
    rw [show Tryz.prog.cellsOf 33 = 2 from by kernel_rfl] at k3
    rw [show Tryz.prog.cellsOf 34 = 3 from by kernel_rfl] at k4 k5
    rw [show Tryz.prog.cellsOf 35 = 1 from by kernel_rfl] at k6
    simp only [List.drop_zero, List.drop_succ_cons, List.take_succ_cons, List.take_zero] at k0 k1 k2 k3 k4 k5 k6
    clear t0 t1 t2 t3 t4 t5 t6
    obtain ⟨s0, e0, _⟩ := opens_int Tryz.underlying3 _ _ _ k0 f0
    obtain ⟨s1, e1, ⟨h1, h2, _, h4⟩, hw⟩ := opens_bat _ _ _ k1 f1
    obtain ⟨m, hlm, hq⟩ := open_ones Tryz.underlying31 (by kernel_rfl) (by kernel_rfl) k2 f2
    obtain ⟨u0, z0, c0, q0, _⟩ := hq 0 _ rfl
    obtain ⟨u1, z1, c1, q1, _⟩ := hq 1 _ rfl
    obtain ⟨u2, z2, c2, q2, _⟩ := hq 2 _ rfl
    obtain ⟨r0, j0⟩ := open_shape Tryz.underlying27 q0
    obtain ⟨r1, j1⟩ := open_shape Tryz.underlying28 q1
    obtain ⟨r2, j2⟩ := open_shape Tryz.underlying29 q2
    obtain ⟨m2, hlm2, hq2⟩ := open_ones Tryz.underlying33 (by kernel_rfl) (by kernel_rfl) k3 f3
    obtain ⟨u3, z3, c3, q3, m3⟩ := hq2 0 _ rfl
    obtain ⟨u4, z4, c4, q4, m4⟩ := hq2 1 _ rfl
    obtain ⟨p3, j3, _⟩ := opens_int Tryz.underlying2 _ _ _ q3 m3
    obtain ⟨p4, j4, _⟩ := opens_int Tryz.underlying2 _ _ _ q4 m4
    obtain ⟨l0, l1, l2, rfl, rfl, rfl⟩ := open_three k4
    obtain ⟨d0, d1, d2, rfl, rfl, rfl⟩ := open_three k5
    obtain ⟨r6, j6⟩ := open_shape Tryz.underlying35 k6
    simp only [List.cons.injEq, and_true] at e0 e1 j0 j1 j2 j3 j4 j6
    simp only [List.getElem?_cons_zero, List.getElem?_cons_succ, Option.some.injEq] at c0 c1 c2 c3 c4
    subst e0 e1 j6
    have hw2 : (s1.l.map fun _ => 1).sum ≤ Rows.uptoBulk y1.1 := hw
    rw [ones_sum, h1.2.1] at hw2
    have h5 := f1.small
    have h6 := hf.small
    refine ⟨⟨s0, s1, r0, r1, r2, p3, p4, l0, l1, l2, d0, d1, d2, r6⟩, ?_, entF_of h1 h2 (by simp only at *; omega), Nat.le_trans hw2 h5⟩
    rw [c0, c1, c2, c3, c4, j0, j1, j2, j3, j4]
    rfl
theorem open_ops {base : Nat} {v : Value} {d : DataW H} {ps : List MemPlace} (hd : Rows.uptoBulk d ≤ 1048576) (hv : Value.okWide Tryz.prog W .any base 22 v) (h : DataW.Trod enc Tryz.prog W 0 (fun _ => true) true 22 v d ps) (hF : Fits Tryz.prog W b 22 (d, ps)) :
    ∃ (A : Option Addr) (n c : Nat) (os : List OpR), v = .slice A n c ∧ OpsF W A n os ∧ (os.map fun o => o.bat.n).sum ≤ Rows.uptoBulk d := by
  have hF2 : Fits Tryz.prog W (Rows.uptoBulk d) 22 (d, ps) := ⟨hF.old, hF.light, Nat.le_refl _⟩
  obtain ⟨s, rfl, ⟨⟨h1, h2, h3⟩, h4, h5, h6⟩, hw⟩ := open_arg_slice_b (k := 14) (f := OpR.cells) Tryz.underlying22 (by kernel_rfl) (by decide) (fun _ => rfl) (opens_op hd) hv h hF2
  exact ⟨s.A, s.n, s.c, s.l, rfl, ⟨h3, h2, by omega, h4⟩, hw⟩
theorem open_batch {base : Nat} {v : Value} {d : DataW H} {ps : List MemPlace} (hd : Rows.uptoBulk d ≤ 1048576) (hv : Value.okWide Tryz.prog W .any base 23 v) (h : DataW.Trod enc Tryz.prog W 0 (fun _ => true) true 23 v d ps) (hF : Fits Tryz.prog W b 23 (d, ps)) :
    ∃ (A : Option Addr) (n c : Nat) (xs : List EntR), v = .slice A n c ∧ EntF W A n xs ∧ n ≤ Rows.uptoBulk d := by
  have hF2 : Fits Tryz.prog W (Rows.uptoBulk d) 23 (d, ps) := ⟨hF.old, hF.light, Nat.le_refl _⟩
  obtain ⟨s, rfl, ⟨h1, h4, h5, h6⟩, hw⟩ := open_arg_slice_b (k := 3) (f := EntR.cells) Tryz.underlying23 (by kernel_rfl) (by decide) (fun _ => rfl) opens_ent.one hv h hF2
  exact ⟨s.A, s.n, s.c, s.l, rfl, entF_of h1 h4 (by omega), h6⟩
end
end Go.Proofs.YthncochjhbmceaaGreat
