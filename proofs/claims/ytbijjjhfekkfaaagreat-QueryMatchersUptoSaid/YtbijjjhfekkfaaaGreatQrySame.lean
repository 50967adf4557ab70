/- Lists of series, held against one another as the document does (almanaclaw26). Condition: they are within the reach. -/
import Derived.Test.YtbijjjhfekkfaaaGreatPkc02694b5
import Derived.Test.YtbijjjhfekkfaaaGreatPkf1d7150c
import Derived.Test.YtbijjjhfekkfaaaGreatPkc787b734
namespace Go.Proofs.YtbijjjhfekkfaaaGreat
set_option maxRecDepth 100000
open Go.RowKit Go.Shelf

/-- lists that tell the same, in the same words, are the same -/
theorem same_of_sk {L M : List Ser} (h : L.map Ser.sk = M.map Ser.sk) (i : Nat) (x y : Ser) (hx : L[i]? = some x) (hy : M[i]? = some y) : y.Same x := by
  have h1 : (L.map Ser.sk)[i]? = (M.map Ser.sk)[i]? := by rw [h]
  rw [List.getElem?_map, List.getElem?_map, hx, hy] at h1
  simp only [Option.map_some, Option.some.injEq, Ser.sk, Prod.mk.injEq] at h1
  exact ⟨h1.1.symm, h1.2.1.symm, h1.2.2.symm⟩
theorem len_of_sk {L M : List Ser} (h : L.map Ser.sk = M.map Ser.sk) : L.length = M.length := by
  have := congrArg List.length h
  simpa using this
theorem SersAs.sks {w : World} {base : Nat} {ss L : List Ser} (h : SersAs w base ss L) : L.map Ser.sk = ss.map Ser.sk := by
  apply List.ext_getElem?
  intro i
  rw [List.getElem?_map, List.getElem?_map]
  rcases Nat.lt_or_ge i ss.length with hi | hi
  · have hi' : i < L.length := by rw [h.len]; exact hi
    have := h.same i _ _ (List.getElem?_eq_getElem hi) (List.getElem?_eq_getElem hi')
    rw [List.getElem?_eq_getElem hi, List.getElem?_eq_getElem hi', Option.map_some, Option.map_some]
    unfold Ser.sk
    rw [this.lab, this.smp, this.win]
  · rw [List.getElem?_eq_none hi, List.getElem?_eq_none (by rw [h.len]; exact hi)]
/-- the law's seriesRef -/
def RefRes (w : World) (ss : List Ser) (e : Ending) (w' : World) : Prop :=
  ∃ (A : Option Addr) (c : Nat) (L : List Ser), e = .returned (.slice A ss.length c) ∧ SL w' A ss.length L ∧ L.map Ser.sk = ss.map Ser.sk ∧ Below w.heap.size w w'
theorem ref_law (A : Option Addr) (n c : Nat) (ss : List Ser) (w : World) (h : SL w A n ss) : Calls Tryz.prog 19 #[.slice A n c] w (RefRes w ss) := by
  refine (seriesRef26_any A n c ss w h.row h.len (by have := h.few; omega) h.at_ h.fit).mono ?_
  rintro e w' ⟨v, L, rfl, ho, hs, hb⟩
  have hsk := hs.sks
  have hl := hs.len
  obtain ⟨A', c', rfl, _, hr⟩ := own_shape ho
  refine ⟨A', c', L, by rw [h.len], ⟨by rw [h.len]; exact hr, hs.len, hs.at_, fun x hx => ?_, by rw [h.len]; exact h.few⟩, hsk, hb⟩
  obtain ⟨i, hi⟩ := List.getElem?_of_mem hx
  have hi' : i < ss.length := by rw [← hl]; exact (List.getElem?_eq_some_iff.1 hi).1
  have hsm := hs.same i _ _ (List.getElem?_eq_getElem hi') hi
  have hy := List.getElem_mem hi'
  generalize ss[i] = y at *
  have ha := hs.at_ x hx
  have hy2 := h.at_ y hy
  have hz := h.small y hy
  have s1 : x.lab.n = y.lab.n := by rw [← ha.lab.2.1, ← hy2.lab.2.1, hsm.lab]
  have s2 : x.smp.n = y.smp.n := by rw [← ha.smp.2.1, ← hy2.smp.2.1, hsm.smp]
  have s3 : x.win.n = y.win.n := by rw [← ha.win.2.1, ← hy2.win.2.1, hsm.win]
  omega
theorem allOf_two (a b : Sl Ser) : MR.allOf [a, b] = a.l.map Ser.sk ++ b.l.map Ser.sk := by simp [MR.allOf]
theorem mem_two {w : World} {a b : Sl Ser} (ha : SS w a) (hb : SS w b) : ∀ s ∈ [a, b], SS w s := by
  intro s hs
  simp only [List.mem_cons, List.not_mem_nil, or_false] at hs
  rcases hs with rfl | rfl
  · exact ha
  · exact hb
theorem same19 (A B : Option Addr) (n m c c2 : Nat) (L M : List Ser) (w : World) (h : SL w A n L) (k : SL w B m M) (hs : L.map Ser.sk = M.map Ser.sk) :
    Calls Tryz.prog 18 #[.slice A n c, .slice B m c2] w fun e w' => e = .returned (.bool true) ∧ Below w.heap.size w w' := by
  obtain rfl : n = m := by have := len_of_sk hs; rw [h.len, k.len] at this; exact this
  refine (rseries_yes A B n c c2 L M w _ _ h.row k.row h.len k.len (by have := h.few; omega) h.at_ k.at_ (same_of_sk hs) (fun x hx => by have := h.small x hx; omega)).mono ?_
  rintro e w' ⟨rfl, q, rfl⟩
  exact ⟨rfl, below_drewN (Below.refl _ _) q⟩
end Go.Proofs.YtbijjjhfekkfaaaGreat
