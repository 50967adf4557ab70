/- Spans, plainly: the one list of some times; joined, clipped, covered. No program. slices.Clone at spans: a copy of the call's own. Condition: the row is within the reach. -/
import Derived.Test.YtdggnnjjiolldaaGreatPke792ef58
import Derived.Test.YtdggnnjjiolldaaGreatPkd7a12640
namespace Go.Proofs.YtdggnnjjiolldaaGreat
set_option maxRecDepth 100000

theorem inSpn_iff {s : Spn} {t : Int} : inSpn s t = true ↔ s.frm ≤ t ∧ t ≤ s.til := by simp [inSpn]
theorem hasP_iff {l : List Spn} {t : Int} : hasP l t = true ↔ ∃ s ∈ l, s.frm ≤ t ∧ t ≤ s.til := by simp [hasP, inSpn_iff]
theorem hasP_app (a b : List Spn) (t : Int) : hasP (a ++ b) t = (hasP a t || hasP b t) := by simp [hasP]
theorem hasP_cons (a : Spn) (b : List Spn) (t : Int) : hasP (a :: b) t = (inSpn a t || hasP b t) := by simp [hasP]
theorem hasP_nil (t : Int) : hasP [] t = false := rfl
/-- the one list: each span full, gaps between -/
structure OneS (l : List Spn) : Prop where
  full : ∀ s ∈ l, s.frm ≤ s.til
  gap : l.Pairwise fun a b => a.til + 1 < b.frm
theorem OneS.nil : OneS [] := ⟨by simp, List.Pairwise.nil⟩
theorem oneS_cons {s : Spn} {l : List Spn} (h : OneS (s :: l)) : s.frm ≤ s.til ∧ OneS l ∧ ∀ x ∈ l, s.til + 1 < x.frm := by
  have h2 := List.pairwise_cons.1 h.gap
  exact ⟨h.full s (List.mem_cons_self ..), ⟨fun x hx => h.full x (List.mem_cons_of_mem _ hx), h2.2⟩, h2.1⟩
theorem oneS_not {l : List Spn} {b t : Int} (h : ∀ x ∈ l, b < x.frm) (ht : t ≤ b) : hasP l t = false := by
  cases hh : hasP l t with
  | false => rfl
  | true =>
    obtain ⟨s, hs, h1, _⟩ := hasP_iff.1 hh
    have := h s hs
    omega
/-- two such lists of the same times are the same -/
theorem oneS_unique : ∀ {a b : List Spn}, OneS a → OneS b → (∀ t, hasP a t = hasP b t) → a = b
  | [], [], _, _, _ => rfl
  | [], y :: b, _, hb, h => by
    have := h y.frm
    have hy := (oneS_cons hb).1
    rw [hasP_cons, inSpn_iff.2 ⟨by omega, hy⟩] at this
    cases this
  | x :: a, [], ha, _, h => by
    have := h x.frm
    have hx := (oneS_cons ha).1
    rw [hasP_cons, inSpn_iff.2 ⟨by omega, hx⟩] at this
    cases this
  | x :: a, y :: b, ha, hb, h => by
    obtain ⟨x1, x2, x3⟩ := oneS_cons ha
    obtain ⟨y1, y2, y3⟩ := oneS_cons hb
    have key : ∀ {x y : Spn} {a b : List Spn}, x.frm ≤ x.til → (∀ z ∈ a, x.til + 1 < z.frm) → y.frm ≤ y.til → (∀ z ∈ b, y.til + 1 < z.frm) → (∀ t, hasP (x :: a) t = hasP (y :: b) t) → y.frm ≤ x.frm := by
      intro x y a b x1 x3 y1 y3 h
      have h1 := h x.frm
      rw [hasP_cons, inSpn_iff.2 ⟨by omega, x1⟩, Bool.true_or] at h1
      obtain ⟨s, hs, h2, _⟩ := hasP_iff.1 h1.symm
      rcases List.mem_cons.1 hs with rfl | hs
      · exact h2
      · have := y3 s hs; omega
    have e1 : x.frm = y.frm := by
      have := key x1 x3 y1 y3 h
      have := key y1 y3 x1 x3 (fun t => (h t).symm)
      omega
    have key2 : ∀ {x y : Spn} {a b : List Spn}, x.frm = y.frm → x.frm ≤ x.til → (∀ z ∈ a, x.til + 1 < z.frm) → y.frm ≤ y.til → (∀ z ∈ b, y.til + 1 < z.frm) → (∀ t, hasP (x :: a) t = hasP (y :: b) t) → x.til ≤ y.til := by
      intro x y a b e x1 x3 y1 y3 h
      rcases Int.lt_or_le y.til x.til with hl | hl
      · have h1 := h (y.til + 1)
        rw [hasP_cons, inSpn_iff.2 ⟨by omega, by omega⟩, Bool.true_or] at h1
        obtain ⟨s, hs, h2, h3⟩ := hasP_iff.1 h1.symm
        rcases List.mem_cons.1 hs with rfl | hs
        · omega
        · have := y3 s hs; omega
      · exact hl
    have e2 : x.til = y.til := by
      have := key2 e1 x1 x3 y1 y3 h
      have := key2 e1.symm y1 y3 x1 x3 (fun t => (h t).symm)
      omega
    have e : x = y := by
      obtain ⟨p, q⟩ := x
      obtain ⟨r, s⟩ := y
      simp only at e1 e2
      rw [e1, e2]
    subst e
    rw [oneS_unique x2 y2 fun t => ?_]
    have h1 := h t
    rw [hasP_cons, hasP_cons] at h1
    rcases Int.lt_or_le x.til t with hl | hl
    · have : inSpn x t = false := by
        cases hh : inSpn x t with
        | false => rfl
        | true => have := (inSpn_iff.1 hh).2; omega
      rw [this] at h1
      simpa using h1
    · rw [oneS_not (fun z hz => by have := x3 z hz; omega : ∀ z ∈ a, x.til < z.frm) hl, oneS_not (fun z hz => by have := y3 z hz; omega : ∀ z ∈ b, x.til < z.frm) hl]

/-- a span more, begun no earlier than all that there are -/
def joinStep (out : List Spn) (s : Spn) : List Spn :=
  match out.getLast? with
  | none => [s]
  | some z => if z.til < s.frm ∧ z.til < s.frm - 1 then out ++ [s] else out.dropLast ++ [⟨z.frm, if z.til < s.til then s.til else z.til⟩]
theorem joinStep_nil (s : Spn) : joinStep [] s = [s] := rfl
theorem joinStep_snoc (m : List Spn) (z s : Spn) : joinStep (m ++ [z]) s = if z.til < s.frm ∧ z.til < s.frm - 1 then m ++ [z] ++ [s] else m ++ [⟨z.frm, if z.til < s.til then s.til else z.til⟩] := by
  unfold joinStep
  rw [List.getLast?_concat]
  simp only [List.dropLast_concat]
def joinAll (l : List Spn) : List Spn := l.foldl joinStep []
theorem joinAll_snoc (l : List Spn) (s : Spn) : joinAll (l ++ [s]) = joinStep (joinAll l) s := by simp [joinAll]
/-- what joining keeps: all spans begun by b -/
structure JoinI (l out : List Spn) : Prop where
  one : OneS out
  has : ∀ t, hasP out t = hasP l t
  from_ : ∀ z ∈ out, ∃ s ∈ l, s.frm = z.frm
  to_ : ∀ z ∈ out, ∃ s ∈ l, s.til = z.til
  len : out.length ≤ l.length
theorem joinI_step {l out : List Spn} {s : Spn} (h : JoinI l out) (hs : s.frm ≤ s.til) (hle : ∀ x ∈ l, x.frm ≤ s.frm) : JoinI (l ++ [s]) (joinStep out s) := by
  obtain ⟨ho, hh, hf, ht, hl⟩ := h
  rcases List.eq_nil_or_concat out with rfl | ⟨m, z, rfl⟩
  · rw [joinStep_nil]
    refine ⟨⟨by simpa using hs, List.pairwise_singleton _ _⟩, fun t => ?_, fun z hz => ⟨s, by simp, by rw [List.mem_singleton.1 hz]⟩, fun z hz => ⟨s, by simp, by rw [List.mem_singleton.1 hz]⟩, by simp⟩
    rw [hasP_app, ← hh t, hasP_nil, Bool.false_or]
  · rw [List.concat_eq_append] at *
    rw [joinStep_snoc]
    have hg := List.pairwise_append.1 ho.gap
    have hzf := ho.full z (by simp)
    obtain ⟨q, hq, hqz⟩ := hf z (by simp)
    have hzs := hle q hq
    have hz2 : ∀ x ∈ m, x.til + 1 < z.frm := fun x hx => hg.2.2 x hx z (by simp)
    by_cases hc : z.til < s.frm ∧ z.til < s.frm - 1
    · rw [if_pos hc]
      refine ⟨⟨fun x hx => ?_, ?_⟩, fun t => ?_, fun x hx => ?_, fun x hx => ?_, by simp at hl ⊢; omega⟩
      · rcases List.mem_append.1 hx with hx | hx
        · exact ho.full x hx
        · rw [List.mem_singleton.1 hx]; exact hs
      · rw [List.pairwise_append]
        refine ⟨ho.gap, List.pairwise_singleton _ _, fun x hx y hy => ?_⟩
        rw [List.mem_singleton.1 hy]
        rcases List.mem_append.1 hx with hx | hx
        · have := hz2 x hx; omega
        · rw [List.mem_singleton.1 hx]; omega
      · rw [hasP_app, hh t, hasP_app]
      · rcases List.mem_append.1 hx with hx | hx
        · obtain ⟨s', hs', e⟩ := hf x hx
          exact ⟨s', List.mem_append_left _ hs', e⟩
        · exact ⟨s, by simp, by rw [List.mem_singleton.1 hx]⟩
      · rcases List.mem_append.1 hx with hx | hx
        · obtain ⟨s', hs', e⟩ := ht x hx
          exact ⟨s', List.mem_append_left _ hs', e⟩
        · exact ⟨s, by simp, by rw [List.mem_singleton.1 hx]⟩
    · rw [if_neg hc]
      have hmx : (if z.til < s.til then s.til else z.til) = max z.til s.til := by split <;> omega
      rw [hmx]
      refine ⟨⟨fun x hx => ?_, ?_⟩, fun t => ?_, fun x hx => ?_, fun x hx => ?_, by simp at hl ⊢; omega⟩
      · rcases List.mem_append.1 hx with hx | hx
        · exact ho.full x (List.mem_append_left _ hx)
        · rw [List.mem_singleton.1 hx]; show z.frm ≤ max z.til s.til; omega
      · rw [List.pairwise_append]
        refine ⟨hg.1, List.pairwise_singleton _ _, fun x hx y hy => ?_⟩
        rw [List.mem_singleton.1 hy]
        exact hz2 x hx
      · rw [hasP_app, hasP_app, ← hh t, hasP_app, Bool.or_assoc]
        congr 1
        rw [Bool.eq_iff_iff, hasP_cons, hasP_cons, hasP_cons, hasP_nil, Bool.or_false, Bool.or_false, Bool.or_false, Bool.or_eq_true, inSpn_iff, inSpn_iff, inSpn_iff]
        simp only
        omega
      · rcases List.mem_append.1 hx with hx | hx
        · obtain ⟨s', hs', e⟩ := hf x (List.mem_append_left _ hx)
          exact ⟨s', List.mem_append_left _ hs', e⟩
        · rw [List.mem_singleton.1 hx]
          exact ⟨q, List.mem_append_left _ hq, hqz⟩
      · rcases List.mem_append.1 hx with hx | hx
        · obtain ⟨s', hs', e⟩ := ht x (List.mem_append_left _ hx)
          exact ⟨s', List.mem_append_left _ hs', e⟩
        · rw [List.mem_singleton.1 hx]
          show ∃ s_1 ∈ l ++ [s], s_1.til = max z.til s.til
          obtain ⟨q2, hq2, e2⟩ := ht z (by simp)
          rcases Int.lt_or_le z.til s.til with hz3 | hz3
          · exact ⟨s, by simp, by omega⟩
          · exact ⟨q2, List.mem_append_left _ hq2, by omega⟩
/-- sorted, full spans joined: the one list of their times -/
theorem joinI_all : ∀ {l : List Spn}, (∀ s ∈ l, s.frm ≤ s.til) → (l.Pairwise fun a b => a.frm ≤ b.frm) → JoinI l (joinAll l) := by
  intro l
  generalize hn : l.length = n
  induction n generalizing l with
  | zero =>
    intro _ _
    obtain rfl := List.eq_nil_of_length_eq_zero hn
    exact ⟨OneS.nil, fun _ => rfl, by simp [joinAll], by simp [joinAll], by simp [joinAll]⟩
  | succ n ih =>
    intro h1 h2
    rcases List.eq_nil_or_concat l with rfl | ⟨m, s, rfl⟩
    · simp at hn
    · rw [List.concat_eq_append] at *
      rw [joinAll_snoc]
      have hp := List.pairwise_append.1 h2
      exact joinI_step (ih (by simpa using hn) (fun s hs => h1 s (List.mem_append_left _ hs)) hp.1) (h1 s (by simp)) fun x hx => hp.2.2 x hx s (by simp)
/-- what spans.Of answers -/
structure OfRes (l out : List Spn) : Prop where
  one : OneS out
  has : ∀ t, hasP out t = hasP l t
  ends : ∀ z ∈ out, (∃ s ∈ l, s.frm = z.frm) ∧ ∃ s ∈ l, s.til = z.til
theorem OfRes.uniq {l l' a b : List Spn} (h : OfRes l a) (k : OfRes l' b) (e : ∀ t, hasP l t = hasP l' t) : a = b := oneS_unique h.one k.one fun t => by rw [h.has, k.has, e]
def fullS (l : List Spn) : List Spn := l.filter fun s => !decide (s.til < s.frm)
theorem hasP_full (l : List Spn) (t : Int) : hasP (fullS l) t = hasP l t := by
  rw [Bool.eq_iff_iff, hasP_iff, hasP_iff]
  constructor
  · rintro ⟨s, hs, h⟩
    exact ⟨s, (List.mem_filter.1 hs).1, h⟩
  · rintro ⟨s, hs, h⟩
    exact ⟨s, List.mem_filter.2 ⟨hs, by simp; omega⟩, h⟩
theorem fullS_full (l : List Spn) : ∀ s ∈ fullS l, s.frm ≤ s.til := fun s hs => by
  have := (List.mem_filter.1 hs).2
  simp at this; omega
theorem hasP_perm {a b : List Spn} (h : a.Perm b) (t : Int) : hasP a t = hasP b t := by
  rw [Bool.eq_iff_iff, hasP_iff, hasP_iff]
  exact ⟨fun ⟨s, hs, k⟩ => ⟨s, h.mem_iff.1 hs, k⟩, fun ⟨s, hs, k⟩ => ⟨s, h.mem_iff.2 hs, k⟩⟩
theorem ofRes_join {l S : List Spn} (hp : S.Perm (fullS l)) (hs : S.Pairwise fun a b => a.frm ≤ b.frm) : OfRes l (joinAll S) := by
  have h := joinI_all (fun s hm => fullS_full l s (hp.mem_iff.1 hm)) hs
  refine ⟨h.one, fun t => by rw [h.has, hasP_perm hp, hasP_full], fun z hz => ⟨?_, ?_⟩⟩
  · obtain ⟨s, hs, e⟩ := h.from_ z hz
    exact ⟨s, (List.mem_filter.1 (hp.mem_iff.1 hs)).1, e⟩
  · obtain ⟨s, hs, e⟩ := h.to_ z hz
    exact ⟨s, (List.mem_filter.1 (hp.mem_iff.1 hs)).1, e⟩
theorem OfRes.self {l : List Spn} (h : OneS l) : OfRes l l := ⟨h, fun _ => rfl, fun z hz => ⟨⟨z, hz, rfl⟩, z, hz, rfl⟩⟩
theorem OfRes.ok {l out : List Spn} (h : OfRes l out) (k : ∀ x ∈ l, x.ok) : ∀ x ∈ out, x.ok := fun x hx => by
  obtain ⟨⟨a, ha, e1⟩, b, hb, e2⟩ := h.ends x hx
  have h1 := k a ha
  have h2 := k b hb
  unfold Spn.ok at *
  omega

/-! clipped -/
def clip1S (a b : Int) (s : Spn) : Spn := ⟨if s.frm < a then a else s.frm, if b < s.til then b else s.til⟩
theorem clip1_in (a b : Int) (s : Spn) (t : Int) : inSpn (clip1S a b s) t = (inSpn s t && inSpn ⟨a, b⟩ t) := by
  rw [Bool.eq_iff_iff, Bool.and_eq_true, inSpn_iff, inSpn_iff, inSpn_iff]
  unfold clip1S
  simp only
  constructor
  · rintro ⟨h1, h2⟩
    split at h1 <;> split at h2 <;> omega
  · rintro ⟨⟨h1, h2⟩, h3, h4⟩
    constructor <;> split <;> omega
theorem clip_has (a b : Int) (l : List Spn) (t : Int) : hasP (l.map (clip1S a b)) t = (hasP l t && inSpn ⟨a, b⟩ t) := by
  induction l with
  | nil => rfl
  | cons x l ih => rw [List.map_cons, hasP_cons, hasP_cons, ih, clip1_in, Bool.and_or_distrib_right]
def clipS (a b : Int) (l : List Spn) : List Spn := fullS (l.map (clip1S a b))
theorem clipS_one {l : List Spn} (h : OneS l) (a b : Int) : OneS (clipS a b l) := by
  refine ⟨fullS_full _, ?_⟩
  have : (l.map (clip1S a b)).Pairwise fun x y => x.til + 1 < y.frm := by
    rw [List.pairwise_map]
    refine h.gap.imp fun {x y} hxy => ?_
    unfold clip1S
    simp only
    split <;> split <;> omega
  exact this.sublist List.filter_sublist
theorem clipS_has (a b : Int) (l : List Spn) (t : Int) : hasP (clipS a b l) t = (hasP l t && inSpn ⟨a, b⟩ t) := by rw [clipS, hasP_full, clip_has]
theorem clipS_of {l out : List Spn} {a b : Int} (h : OneS l) (ho : OfRes (l.map (clip1S a b)) out) : out = clipS a b l :=
  ho.uniq (OfRes.self (clipS_one h a b)) fun t => by rw [clip_has, clipS_has]
/-- times that all lie in the list lie in one of its spans -/
theorem oneS_covers {l : List Spn} (h : OneS l) {a b : Int} (hab : a ≤ b) (hall : ∀ t, a ≤ t → t ≤ b → hasP l t = true) : ∃ x ∈ l, x.frm ≤ a ∧ b ≤ x.til := by
  obtain ⟨x, hx, h1, h2⟩ := hasP_iff.1 (hall a (Int.le_refl _) hab)
  refine ⟨x, hx, h1, ?_⟩
  rcases Int.lt_or_le x.til b with hl | hl
  · obtain ⟨y, hy, h3, h4⟩ := hasP_iff.1 (hall (x.til + 1) (by omega) (by omega))
    obtain ⟨i, hi, rfl⟩ := List.getElem_of_mem hx
    obtain ⟨j, hj, rfl⟩ := List.getElem_of_mem hy
    have hp := List.pairwise_iff_getElem.1 h.gap
    rcases Nat.lt_trichotomy i j with hij | hij | hij
    · have := hp i j hi hj hij; omega
    · subst hij; omega
    · have := hp j i hj hi hij
      have := h.full l[j] hy
      omega
  · exact hl
def coversP (l : List Spn) (a b : Int) : Bool := l.any fun s => decide (s.frm ≤ a) && decide (b ≤ s.til)
end Go.Proofs.YtdggnnjjiolldaaGreat

namespace Go.Proofs.YtdggnnjjiolldaaGreat.ClnSpn
set_option maxRecDepth 100000
open Go.RowKit

theorem info : (Tryz.prog.info? 101).map (fun i => (i.zero, i.size, i.bytes)) = some (some (.agg #[.int .i64 0, .int .i64 0]), 2, 16) := by kernel_rfl
theorem cells_one (l : List Spn) : ∀ u ∈ l.flatMap Spn.cells, u.oneCell' = true := by
  intro u hu
  simp only [Spn.cells, List.mem_flatMap, List.mem_cons, List.not_mem_nil, or_false] at hu
  obtain ⟨s, _, rfl | rfl⟩ := hu <;> rfl

set_option maxHeartbeats 1600000 in
theorem cloneO_any (A : Option Addr) (n c : Nat) (l : List Spn) (w : World) (hr : Row w w.heap.size 2 A n (l.flatMap Spn.cells)) (hl : l.length = n) (hn : n * 16 ≤ 140737488351232) :
    Calls Tryz.prog 57 #[.slice A n c] w fun e w' => ∃ s : Sl Spn, e = .returned s.val ∧ s.l = l ∧ s.n = n ∧ s.At w' w'.heap.size 2 Spn.cells ∧ (∀ j, j < w.heap.size → s.Off (some j)) ∧ Below w.heap.size w w' ∧ (0 < n → w'.ownsRow w.heap.size 101 2 s.val n (l.flatMap Spn.cells)) := by
  obtain ⟨i0, hi, hz0, hz1, hz2⟩ := info_parts info
  have hL := hidden hl
  clear hl
  cases A with
  | none =>
    have hn0 : n = 0 := by
      rcases Nat.eq_zero_or_pos n with h | h
      · exact h
      · obtain ⟨_, _, h', _⟩ := hr.at_ h
        cases h'
    subst hn0
    have h1 := fun w : World => Lib.run_eql_slice_nil (P := Tryz.prog) w 64 101 none 0 c 0 0 Tryz.underlying64
    go_enter Tryz.func57, Tryz.ntmps57
    go_wp2
    go_ret
    exact ⟨⟨none, 0, 0, l⟩, rfl, rfl, rfl, ⟨Nat.le_refl _, hL.out, hr⟩, fun j _ hn => by simp at hn, Below.refl _ _, fun h => absurd h (by omega)⟩
  | some a =>
    have h1 := fun w : World => Lib.run_eql_slice_nil (P := Tryz.prog) w 64 101 (some a) n c 0 0 Tryz.underlying64
    go_enter Tryz.func57, Tryz.ntmps57
    go_wp2_with (at_builtin; refine wpList_clone _ rfl _ _ 64 rfl 101 i0 _ 2 16 Tryz.underlying64 hi hz0 hz1 hz2 rfl (by decide) _ rfl w.heap.size _ _ _ _ rfl (hr.alloc (Nat.le_refl _) _) (cells_one l) (by unfold maxLen; omega) (by omega) ?_; intro v1 w1 hg1 hown1)
    go_ret
    have hb1 : Below w.heap.size w w1 := ((Below.refl _ _).alloc (Nat.le_refl _) _).grown hg1 (by simp) (fun j hj => by cases hj)
    rcases hown1 with ⟨rfl, rfl⟩ | hown1
    · have hl0 : l = [] := List.eq_nil_of_length_eq_zero hL.out
      subst hl0
      exact ⟨⟨_, 0, 0, []⟩, rfl, rfl, rfl, ⟨Nat.le_refl _, rfl, ⟨rfl, fun h => absurd h (by simp)⟩⟩, fun j _ hn => by simp at hn, hb1, fun h => absurd h (by omega)⟩
    · obtain ⟨A1, c1, rfl, hc1, hr1⟩ := own_shape hown1
      exact ⟨⟨A1, n, c1, l⟩, rfl, rfl, rfl, ⟨hc1, hL.out, hr1⟩, fun j hj => Sl.off_own hown1 (by simp; omega), hb1, fun _ => ⟨hown1.1, hown1.2.imp id fun ⟨g, cap, cur, h1, h2, h3⟩ => ⟨g, cap, cur, h1, by simp at h2; omega, h3⟩⟩⟩
theorem clone_any (A : Option Addr) (n c : Nat) (l : List Spn) (w : World) (hr : Row w w.heap.size 2 A n (l.flatMap Spn.cells)) (hl : l.length = n) (hn : n * 16 ≤ 140737488351232) :
    Calls Tryz.prog 57 #[.slice A n c] w fun e w' => ∃ s : Sl Spn, e = .returned s.val ∧ s.l = l ∧ s.n = n ∧ s.At w' w'.heap.size 2 Spn.cells ∧ (∀ j, j < w.heap.size → s.Off (some j)) ∧ Below w.heap.size w w' := by
  refine (cloneO_any A n c l w hr hl hn).mono ?_
  rintro e w' ⟨s, h1, h2, h3, h4, h5, h6, _⟩
  exact ⟨s, h1, h2, h3, h4, h5, h6⟩
end Go.Proofs.YtdggnnjjiolldaaGreat.ClnSpn
