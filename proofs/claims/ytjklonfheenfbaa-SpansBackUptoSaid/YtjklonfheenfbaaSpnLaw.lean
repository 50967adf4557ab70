/- What the laws of spans call: each as it tells of the plain list. Condition: the rows are within the reach. -/
import Derived.Test.YtjklonfheenfbaaSpnWakes
import Derived.Test.YtjklonfheenfbaaSpnWide
import Derived.Test.YtjklonfheenfbaaSpnAsk
import Derived.Test.YtjklonfheenfbaaArgs
namespace Go.Proofs.Ytjklonfheenfbaa
set_option maxRecDepth 100000
open Go.RowKit Go.WideShapes Go.ChangeShapes Go.Shelf

structure SpF (w : World) (A : Option Addr) (n : Nat) (l : List Spn) : Prop where
  row : Row w w.heap.size 2 A n (l.flatMap Spn.cells)
  len : l.length = n
  fit : n * 16 ≤ 140737488351232
  ok : ∀ x ∈ l, x.ok
theorem SpF.on {w w' : World} {A : Option Addr} {n : Nat} {l : List Spn} (h : SpF w A n l) (hb : Below w.heap.size w w') : SpF w' A n l := ⟨(h.row.below hb).more hb.size, h.len, h.fit, h.ok⟩
/-- a call returned a list of spans -/
def SpRes (w : World) (Q : List Spn → Prop) (e : Ending) (w' : World) : Prop := ∃ A c R, e = .returned (.slice A R.length c) ∧ SpF w' A R.length R ∧ Q R ∧ Below w.heap.size w w'
theorem spRes_own {w w' : World} {B : Nat} {t : TypeId} {v : Value} {R : List Spn} {Q : List Spn → Prop} (ho : w'.ownsRow B t 2 v R.length (R.flatMap Spn.cells)) (hf : R.length * 16 ≤ 140737488351232) (hok : ∀ x ∈ R, x.ok) (hq : Q R) (hb : Below w.heap.size w w') : SpRes w Q (.returned v) w' := by
  obtain ⟨A, c, rfl, _, hr⟩ := own_shape ho
  exact ⟨A, c, R, rfl, ⟨hr, rfl, hf, hok⟩, hq, hb⟩
theorem clipS_ok {a b : Int} {R : List Spn} (h : ∀ x ∈ R, x.ok) (ha : -9223372036854775808 ≤ a ∧ a < 9223372036854775808) (hb : -9223372036854775808 ≤ b ∧ b < 9223372036854775808) : ∀ x ∈ clipS a b R, x.ok := fun x hx => by
  obtain ⟨y, hy, rfl⟩ := List.mem_map.1 (List.mem_filter.1 hx).1
  obtain ⟨h1, h2, h3, h4⟩ := h y hy
  unfold clip1S Spn.ok
  simp only
  split <;> split <;> omega
section
variable {A : Option Addr} {n : Nat} (c : Nat) {l : List Spn} {w : World} (h : SpF w A n l)
include h
theorem twinF : Calls Try.prog 21 #[.slice A n c] w (SpRes w (· = l)) := by
  refine (TwnSpn.twin_any A n c l w h.row h.fit).mono ?_
  rintro e w' ⟨v, rfl, ho, hb⟩
  exact spRes_own (by rw [h.len]; exact ho) (by have := h.len; have := h.fit; omega) h.ok rfl hb
theorem refSF : Calls Try.prog 23 #[.slice A n c] w (SpRes w (· = l)) := by
  refine (TwnSpn.ref_any A n c l w h.row h.len h.fit).mono ?_
  rintro e w' ⟨v, rfl, ho, hb⟩
  exact spRes_own (by rw [h.len]; exact ho) (by have := h.len; have := h.fit; omega) h.ok rfl hb
theorem ofF : Calls Try.prog 20 #[.slice A n c] w (SpRes w (OfRes l)) := by
  refine (spnOf_any A n c l w h.row h.len h.fit h.ok).mono ?_
  rintro e w' ⟨v, R, rfl, ho, hR, hl, hb⟩
  exact spRes_own ho (by have := h.fit; omega) (hR.ok h.ok) hR hb
theorem rofF : Calls Try.prog 22 #[.slice A n c] w (SpRes w (OfRes l)) := by
  refine (rOf_any A n c l w h.row h.len h.fit h.ok).mono ?_
  rintro e w' ⟨v, R, rfl, ho, hR, hl, hb⟩
  exact spRes_own ho (by have := h.fit; omega) (hR.ok h.ok) hR hb
theorem hasF (t : Int) : Calls Try.prog 24 #[.slice A n c, .int .i64 t] w fun e w' => e = .returned (.bool (hasP l t)) ∧ Below w.heap.size w w' :=
  has_any A n c l t w h.row h.len (by have := h.fit; omega)
theorem rhasF (t : Int) : Calls Try.prog 25 #[.slice A n c, .int .i64 t] w fun e w' => e = .returned (.bool (hasP l t)) ∧ Below w.heap.size w w' := by
  refine (rHas_any A n c l t w h.row h.len (by have := h.fit; omega)).mono ?_
  rintro e w' ⟨rfl, m, rfl⟩
  exact ⟨rfl, below_drewN (Below.refl _ _) m⟩
theorem clipF (a b : Int) (ha : -9223372036854775808 ≤ a ∧ a < 9223372036854775808) (hb : -9223372036854775808 ≤ b ∧ b < 9223372036854775808) :
    Calls Try.prog 30 #[.slice A n c, .int .i64 a, .int .i64 b] w (SpRes w fun C => ∃ R, OfRes l R ∧ C = clipS a b R) := by
  refine (clipSpn_any A n c l a b w h.row h.len h.fit h.ok ha hb).mono ?_
  rintro e w' ⟨v, R, rfl, ho, hR, hl, hb'⟩
  exact spRes_own ho (by have := h.fit; omega) (clipS_ok (hR.ok h.ok) ha hb) ⟨R, hR, rfl⟩ hb'
theorem coversF (a b : Int) : Calls Try.prog 26 #[.slice A n c, .int .i64 a, .int .i64 b] w fun e w' => (∃ R, e = .returned (.bool (coversB R a b)) ∧ OfRes l R) ∧ Below w.heap.size w w' :=
  covers_any A n c l a b w h.row h.len h.fit h.ok
theorem rcoversF (a b : Int) : Calls Try.prog 27 #[.slice A n c, .int .i64 a, .int .i64 b] w fun e w' => (∃ R, e = .returned (.bool (coversB R a b)) ∧ OfRes l R) ∧ Below w.heap.size w w' :=
  rCovers_any A n c l a b w h.row h.len h.fit h.ok
theorem rclipF (a b : Int) (ha : -9223372036854775808 ≤ a ∧ a < 9223372036854775808) (hb : -9223372036854775808 ≤ b ∧ b < 9223372036854775808) :
    Calls Try.prog 31 #[.slice A n c, .int .i64 a, .int .i64 b] w (SpRes w fun C => ∃ R, OfRes l R ∧ C = clipS a b R) := by
  refine (rClipSpn_any A n c l a b w h.row h.len h.fit h.ok).mono ?_
  rintro e w' ⟨v, R, rfl, ho, hR, hl, hb'⟩
  exact spRes_own ho (by have := h.fit; omega) (clipS_ok (hR.ok h.ok) ha hb) ⟨R, hR, rfl⟩ hb'
theorem widerF (d : Int) : Calls Try.prog 32 #[.slice A n c, .int .i64 d] w (SpRes w (WideRes l d)) := by
  refine (wider_any A n c l d w h.row h.len h.fit h.ok).mono ?_
  rintro e w' ⟨v, R, rfl, ho, hR, hl, hb'⟩
  obtain ⟨R0, h1, h2⟩ := id hR
  exact spRes_own ho (by have := h.fit; omega) (h2.ok widS_oks) hR hb'
theorem rwiderF (d : Int) : Calls Try.prog 33 #[.slice A n c, .int .i64 d] w (SpRes w (WideRes l d)) := by
  refine (rWider_any A n c l d w h.row h.len h.fit h.ok).mono ?_
  rintro e w' ⟨v, R, rfl, ho, hR, hl, hb'⟩
  obtain ⟨R0, h1, h2⟩ := id hR
  exact spRes_own ho (by have := h.fit; omega) (h2.ok widS_oks) hR hb'
end

section
variable {H : Type} {enc : TypeId × Value → H} {W : World} {b : Nat}
theorem opens_spn : Opens enc Try.prog W b 51 Spn.cells Spn.ok := by
  intro fuel cs x h hf
  obtain ⟨n, hl, hp⟩ := open_ones Try.underlying51 (by kernel_rfl) (by kernel_rfl) h hf
  obtain ⟨u0, y0, c0, t0, f0⟩ := hp 0 _ rfl
  obtain ⟨u1, y1, c1, t1, f1⟩ := hp 1 _ rfl
  obtain ⟨s0, e0, g0⟩ := opens_int Try.underlying2 _ _ _ t0 f0
  obtain ⟨s1, e1, g1⟩ := opens_int Try.underlying2 _ _ _ t1 f1
  simp only [List.cons.injEq, and_true] at e0 e1
  subst e0 e1
  have w0 := wf_i64 g0
  have w1 := wf_i64 g1
  match cs, hl with
  | [a, c], _ =>
    simp only [List.getElem?_cons_zero, List.getElem?_cons_succ, Option.some.injEq] at c0 c1
    exact ⟨⟨s0, s1⟩, by rw [c0, c1]; rfl, w0.1, w0.2, w1.1, w1.2⟩
theorem open_spans {base : Nat} {v : Value} {d : DataW H} {ps : List MemPlace} (hv : Value.okWide Try.prog W .any base 30 v) (h : DataW.Trod enc Try.prog W 0 (fun _ => true) true 30 v d ps) (hF : Fits Try.prog W b 30 (d, ps)) :
    ∃ s : Sl Spn, v = s.val ∧ SpF W s.A s.n s.l := by
  obtain ⟨s, rfl, hs, hok, hn, _⟩ := open_arg_slice (k := 2) (f := Spn.cells) Try.underlying30 (by kernel_rfl) (by decide) (fun _ => rfl) opens_spn hv h hF
  rw [show Try.prog.bytesOf 51 = 16 from by kernel_rfl] at hn
  simp only [reachBytes] at hn
  exact ⟨s, rfl, hs.2.2, hs.2.1, hn, hok⟩
end
end Go.Proofs.Ytjklonfheenfbaa
