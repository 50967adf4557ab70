/- What the laws of cursors made of cursors share: nodes that came in; a list that stays while a cursor goes on. Condition: the nodes are within the reach. -/
import Derived.Test.YtjklonfheenfbaaBuiltW
import Derived.Test.YtjklonfheenfbaaRefSeek
import Derived.Test.YtjklonfheenfbaaOpenB
namespace Go.Proofs.Ytjklonfheenfbaa
set_option maxRecDepth 100000
open Go.RowKit Go.Shelf Go.WideShapes Go.ChangeShapes

theorem IntF.kp {w w' : World} {A : Option Addr} {n : Nat} {l : List Int} {F : Nat → Prop} (h : IntF w A n l) (hk : Kp F w w') (hF : ∀ k, F k → ¬ (0 < n ∧ blockOf A k)) : IntF w' A n l :=
  ⟨h.row.keep1 hk.size fun hn g o e => by
    obtain ⟨g', o', e', hg, _⟩ := h.row.at_ hn
    rw [e] at e'
    simp only [Option.some.injEq, Addr.mk.injEq] at e'
    exact hk.block g (by omega) fun hf => hF g hf ⟨hn, o, e⟩, h.len, h.fit, h.ints⟩
theorem FC.kp {ws w w' : World} {p : Value} {E E' : List Int} {F : Nat → Prop} (h : FC ws w p E F) (hc : IsCur w' p E' F) (hk : Kp F w w') : FC ws w' p E' F :=
  ⟨hc, h.2.1, h.2.2.trans (hk.below h.2.1 h.2.2.size)⟩
theorem FC.on {ws w w' : World} {p : Value} {E : List Int} {F : Nat → Prop} (h : FC ws w p E F) (hb : Below w.heap.size w w') : FC ws w' p E F :=
  ⟨isCur_on h.1 hb, h.2.1, h.2.2.trans (hb.mono h.2.2.size)⟩
theorem FC.base {ws w1 w2 : World} {p : Value} {E : List Int} {F : Nat → Prop} (hb : Below ws.heap.size ws w1) (h : FC w1 w2 p E F) : FC ws w2 p E F :=
  ⟨h.1, fun k hk => by have := h.2.1 k hk; have := hb.size; omega, hb.trans (h.2.2.mono hb.size)⟩
theorem FC.other {ws w w' : World} {p : Value} {E : List Int} {F G : Nat → Prop} (h : FC ws w p E F) (hk : Kp G w w') (hG : ∀ k, G k → ws.heap.size ≤ k) (hd : ∀ k, ¬ (F k ∧ G k)) : FC ws w' p E F :=
  ⟨isCur_kp h.1 hk hd, h.2.1, h.2.2.trans (hk.below hG h.2.2.size)⟩
theorem FC.ptr {ws w : World} {p : Value} {E : List Int} {F : Nat → Prop} (h : FC ws w p E F) : ∃ a, p = .pointer a := isCur_ptr h.1
theorem FC.ints {ws w : World} {p : Value} {E : List Int} {F : Nat → Prop} (h : FC ws w p E F) : ∀ x ∈ E, inI x := (isCur_rise _ _ _ _ h.1).2
/-- all that is left, and the cursor stands at its end -/
theorem restK {ws w : World} {a : Option Addr} {E : List Int} {F : Nat → Prop} (h : FC ws w (.pointer a) E F) (hl : E.length ≤ 1048576) :
    Calls Try.prog 44 #[.pointer a] w fun e w' => ∃ A c, e = .returned (.slice A E.length c) ∧ w'.ownsRow w.heap.size 3 1 (.slice A E.length c) E.length (E.map (Value.int .i64)) ∧ IntF w' A E.length E ∧ (∀ k, 0 < E.length → blockOf A k → w.heap.size ≤ k) ∧ FC ws w' (.pointer a) [] F ∧ Kp F w w' := by
  refine (rest_cur _ E F w h.1 (by omega)).mono ?_
  rintro e w' ⟨v, rfl, ho, hc, hk⟩
  obtain ⟨A, c, rfl, _, hr⟩ := own_shape ho
  exact ⟨A, c, rfl, ho, ⟨hr, rfl, by omega, h.ints⟩, fun k _ ⟨o, e⟩ => by
    subst e
    exact (ho.lt k rfl).1, h.kp hc hk, hk⟩
theorem topOf_le (l : List Nd) : (topOf l).length ≤ ndSum l := by
  have h := (stack_tot l).1
  have h2 : topOf l = [] ∨ topOf l ∈ stackOf l := by
    unfold topOf
    rw [List.getLastD_eq_getLast?]
    cases hg : (stackOf l).getLast? with
    | none => exact .inl rfl
    | some e => exact .inr (List.mem_of_getLast? hg)
  rcases h2 with h2 | h2
  · rw [h2]; exact Nat.zero_le _
  · have := totL_mem h2; omega

section
variable {H : Type} {enc : TypeId × Value → H} {W : World} {b : Nat}
theorem fm_ints : ∀ l : List Int, l.flatMap (fun x : Int => [Value.int .i64 x]) = l.map (Value.int .i64)
  | [] => rfl
  | x :: l => by rw [List.flatMap_cons, fm_ints l]; rfl
theorem ints_of_sl {s : Sl Int} (h : s.At W W.heap.size 1 (fun x : Int => [Value.int .i64 x])) (hok : ∀ x ∈ s.l, (Lit.int .i64 x).wf = true) (hn : s.n * Try.prog.bytesOf 3 ≤ reachBytes) : IntF W s.A s.n s.l := by
  rw [show Try.prog.bytesOf 3 = 8 from by kernel_rfl] at hn
  simp only [reachBytes] at hn
  have hr := h.2.2
  rw [show s.l.flatMap (fun x : Int => [Value.int .i64 x]) = s.l.map (Value.int .i64) from fm_ints s.l] at hr
  exact ⟨hr, h.2.1, hn, fun x hx => by have := wf_i64 (hok x hx); unfold inI; omega⟩
theorem open_ints {base : Nat} {v : Value} {d : DataW H} {ps : List MemPlace} (hv : Value.okWide Try.prog W .any base 69 v) (h : DataW.Trod enc Try.prog W 0 (fun _ => true) true 69 v d ps) (hF : Fits Try.prog W b 69 (d, ps)) :
    ∃ s : Sl Int, v = s.val ∧ IntF W s.A s.n s.l ∧ s.n ≤ b := by
  obtain ⟨s, rfl, hs, hok, hn, hb⟩ := open_arg_slice (k := 1) (f := fun x : Int => [Value.int .i64 x]) Try.underlying69 (by kernel_rfl) (by decide) (fun _ => rfl) (opens_int Try.underlying3) hv h hF
  exact ⟨s, rfl, ints_of_sl hs hok hn, hb⟩
theorem ones_sum {α : Type} (l : List α) : (l.map fun _ => 1).sum = l.length := by
  induction l with
  | nil => rfl
  | cons a l ih => simp only [List.map_cons, List.sum_cons, List.length_cons, ih]; omega
instance : Inhabited Nd := ⟨⟨0, 0, Sl.nil⟩⟩
set_option maxRecDepth 100000 in
theorem opens_nd : OpensB enc Try.prog W b 141 Nd.cells (fun x => IntF W x.s.A x.s.n x.s.l ∧ x.s.n ≤ x.s.c ∧ inI x.kind ∧ inI x.take) (fun x => x.s.l.length) := by
  intro fuel cs x h hf
  obtain ⟨n, ys, hl, hyl, hsum, hp⟩ := open_ones_b Try.underlying141 (by kernel_rfl) (by kernel_rfl) h hf
  obtain ⟨u0, y0, c0, z0, t0, f0⟩ := hp 0 _ rfl
  obtain ⟨u1, y1, c1, z1, t1, f1⟩ := hp 1 _ rfl
  obtain ⟨u2, y2, c2, z2, t2, f2⟩ := hp 2 _ rfl
  obtain ⟨k0, e0, g0⟩ := opens_int (k := .i64) Try.underlying3 _ _ _ t0 f0
  obtain ⟨k1, e1, g1⟩ := opens_int (k := .i64) Try.underlying3 _ _ _ t1 f1
  obtain ⟨s2, e2, g2, w2⟩ := opens_slice_b (k := 1) (f := fun x : Int => [Value.int .i64 x]) Try.underlying69 (by kernel_rfl) (by decide) (fun _ => rfl) (opens_int Try.underlying3).one _ _ _ t2 f2
  simp only [List.cons.injEq, and_true] at e0 e1 e2
  subst e0 e1 e2
  simp only [ones_sum] at w2
  match cs, hl, ys, hyl with
  | [a, c, d], _, [p, q, r], _ =>
    simp only [List.getElem?_cons_zero, List.getElem?_cons_succ, Option.some.injEq] at c0 c1 c2 z0 z1 z2
    subst z0 z1 z2
    simp only [List.map_cons, List.map_nil, Rows.uptoBulkAll] at hsum
    have i0 : inI k0 := by have := wf_i64 g0; unfold inI; omega
    have i1 : inI k1 := by have := wf_i64 g1; unfold inI; omega
    refine ⟨⟨k0, k1, s2⟩, by rw [c0, c1, c2]; rfl, ⟨ints_of_sl g2.1 g2.2.1 g2.2.2.1, g2.1.1, i0, i1⟩, ?_⟩
    show s2.l.length ≤ _
    omega
theorem open_nodes {base : Nat} {v : Value} {d : DataW H} {ps : List MemPlace} (hv : Value.okWide Try.prog W .any base 66 v) (h : DataW.Trod enc Try.prog W 0 (fun _ => true) true 66 v d ps) (hF : Fits Try.prog W b 66 (d, ps)) (hb : b ≤ 1048576) :
    ∃ s : Sl Nd, v = s.val ∧ NdF W s.A s.n s.l := by
  obtain ⟨s, rfl, ⟨hs, hok, hn, hb1⟩, hw⟩ := open_arg_slice_b (k := 3) (f := Nd.cells) Try.underlying66 (by kernel_rfl) (by decide) (fun _ => rfl) opens_nd hv h hF
  refine ⟨s, rfl, ⟨hs.2.2, hs.2.1, hok, by omega, ?_⟩⟩
  unfold ndSum; omega
end
end Go.Proofs.Ytjklonfheenfbaa
