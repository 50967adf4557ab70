/- The laws of merging, plainly: pieces, once more with itself, clipped before and behind, halves. No condition. -/
import Derived.Test.YtohocdbneopooaaMrgWakes
import Derived.Test.YtohocdbneopooaaOpenW
namespace Go.Proofs.Ytohocdbneopooaa
set_option maxRecDepth 100000
open Go.RowKit

def clip1 (a b : Int) (s : SK) : SK := (s.1, s.2.1.filter (fun y => inR a b y.t), s.2.2.filter (fun y => inR a b y.start))
theorem clip1_of (a b : Int) (k : List Lbl) : ∀ l : List SK, smpsOf k (l.map (clip1 a b)) = (smpsOf k l).filter (fun y => inR a b y.t) ∧ winsOf k (l.map (clip1 a b)) = (winsOf k l).filter (fun y => inR a b y.start)
  | [] => ⟨rfl, rfl⟩
  | x :: l => by
    obtain ⟨h1, h2⟩ := clip1_of a b k l
    have e : x :: l = [x] ++ l := rfl
    have e2 : (x :: l).map (clip1 a b) = [clip1 a b x] ++ l.map (clip1 a b) := rfl
    rw [e2, e, smpsOf_app, smpsOf_app, winsOf_app, winsOf_app, h1, h2, smpsOf_one, smpsOf_one, winsOf_one, winsOf_one, List.filter_append, List.filter_append]
    have hk : (clip1 a b x).1 = x.1 := rfl
    rw [hk]
    by_cases h : x.1 = k
    · rw [if_pos h, if_pos h, if_pos h, if_pos h]; exact ⟨rfl, rfl⟩
    · rw [if_neg h, if_neg h, if_neg h, if_neg h]; exact ⟨rfl, rfl⟩
theorem find_filter {α : Type} (tt : α → Int) (q : Int → Bool) (t : Int) (l : List α) : (l.filter fun x => q (tt x)).find? (fun x => tt x == t) = if q t = true then l.find? (fun x => tt x == t) else none := by
  induction l with
  | nil => simp
  | cons x l ih =>
    rw [List.filter_cons]
    by_cases ht : tt x = t
    · subst ht
      by_cases hq : q (tt x) = true
      · rw [if_pos hq, if_pos hq, List.find?_cons_of_pos (by simp), List.find?_cons_of_pos (by simp)]
      · rw [if_neg hq, ih, if_neg hq, if_neg hq]
    · have hb : ∀ r : List α, (x :: r).find? (fun x => tt x == t) = r.find? (fun x => tt x == t) := fun r => List.find?_cons_of_neg (by simpa using ht)
      by_cases hq : q (tt x) = true
      · rw [if_pos hq, hb, hb, ih]
      · rw [if_neg hq, hb, ih]
theorem sem_clip (a b : Int) (l : List SK) (k : List Lbl) (t : Int) : semS (clipSK a b l) k t = (if inR a b t = true then semS l k t else none) ∧ semW (clipSK a b l) k t = (if inR a b t = true then semW l k t else none) := by
  have he := eqv_fulls (l.map (clip1 a b)) k t
  have h1 : semS (clipSK a b l) k t = semS (l.map (clip1 a b)) k t := he.1
  have h2 : semW (clipSK a b l) k t = semW (l.map (clip1 a b)) k t := he.2
  rw [h1, h2]
  unfold semS semW
  rw [(clip1_of a b k l).1, (clip1_of a b k l).2]
  exact ⟨find_filter Smp.t (inR a b) t _, find_filter Win.start (inR a b) t _⟩
theorem canon_clip (a b : Int) {l : List SK} (h : Canon l) : Canon (clipSK a b l) := by
  have hmem : ∀ e ∈ clipSK a b l, ∃ s ∈ l, e = clip1 a b s := fun e he => by
    obtain ⟨s, hs, rfl⟩ := List.mem_map.1 (List.mem_filter.1 he).1
    exact ⟨s, hs, rfl⟩
  refine ⟨?_, fun e he => ?_, fun e he => ?_, fun e he => fulls_full _ e he⟩
  · have : (l.map (clip1 a b)).Pairwise fun x y => cmpLs x.1 y.1 < 0 := List.pairwise_map.2 h.order
    exact this.sublist List.filter_sublist
  · obtain ⟨s, hs, rfl⟩ := hmem e he
    exact (h.smps s hs).sublist List.filter_sublist
  · obtain ⟨s, hs, rfl⟩ := hmem e he
    exact (h.wins s hs).sublist List.filter_sublist
theorem clip_len (a b : Int) (l : List SK) : (clipSK a b l).length ≤ l.length ∧ MR.ssum (clipSK a b l) ≤ MR.ssum l := by
  constructor
  · refine Nat.le_trans (List.length_filter_le _ _) ?_
    rw [List.length_map]; exact Nat.le_refl _
  · refine Nat.le_trans (MR.ssum_fulls _) ?_
    induction l with
    | nil => exact Nat.le_refl _
    | cons x l ih =>
      have e : ∀ (x : SK) (l : List SK), MR.ssum (x :: l) = x.2.1.length + x.2.2.length + MR.ssum l := fun x l => by simp [MR.ssum]
      rw [List.map_cons, e, e]
      have h1 := List.length_filter_le (fun y : Smp => inR a b y.t) x.2.1
      have h2 := List.length_filter_le (fun y : Win => inR a b y.start) x.2.2
      have := ih
      simp only at *
      omega
/-- all times within the machine's integers -/
def InI (l : List SK) : Prop := ∀ s ∈ l, (∀ x ∈ s.2.1, -9223372036854775808 ≤ x.t ∧ x.t < 9223372036854775808) ∧ ∀ x ∈ s.2.2, -9223372036854775808 ≤ x.start ∧ x.start < 9223372036854775808
theorem sem_in {l : List SK} (h : InI l) (k : List Lbl) (t : Int) (ht : ¬ (-9223372036854775808 ≤ t ∧ t ≤ 9223372036854775807)) : semS l k t = none ∧ semW l k t = none := by
  constructor
  · refine List.find?_eq_none.2 fun x hx => ?_
    obtain ⟨s, hs, hxs⟩ := List.mem_flatMap.1 hx
    have := (h s (List.mem_filter.1 hs).1).1 x hxs
    simp only [beq_iff_eq]
    omega
  · refine List.find?_eq_none.2 fun x hx => ?_
    obtain ⟨s, hs, hxs⟩ := List.mem_flatMap.1 hx
    have := (h s (List.mem_filter.1 hs).1).2 x hxs
    simp only [beq_iff_eq]
    omega
theorem InI.app {a b : List SK} (h : InI a) (g : InI b) : InI (a ++ b) := fun s hs => by
  rcases List.mem_append.1 hs with hs | hs
  · exact h s hs
  · exact g s hs
theorem sem_none_of_eqv {W L : List SK} (h : Eqv W L) (hi : InI L) (k : List Lbl) (t : Int) (ht : ¬ (-9223372036854775808 ≤ t ∧ t ≤ 9223372036854775807)) : semS W k t = none ∧ semW W k t = none := by
  rw [(h k t).1, (h k t).2]
  exact sem_in hi k t ht
theorem inR_yes {a b t : Int} (h : a ≤ t ∧ t ≤ b) : inR a b t = true := by simp [inR, h.1, h.2]
theorem inR_no {a b t : Int} (h : ¬ (a ≤ t ∧ t ≤ b)) : inR a b t = false := by
  unfold inR
  by_cases h1 : a ≤ t
  · have : ¬ t ≤ b := fun h2 => h ⟨h1, h2⟩
    simp [this]
  · simp [h1]
/-- the whole range clips nothing away -/
theorem clip_whole {W L : List SK} (h : Eqv W L) (hi : InI L) (hc : Canon W) : clipSK (-9223372036854775808) 9223372036854775807 W = W := by
  refine canon_unique (canon_clip _ _ hc) hc fun k t => ?_
  rw [(sem_clip _ _ W k t).1, (sem_clip _ _ W k t).2]
  by_cases ht : -9223372036854775808 ≤ t ∧ t ≤ 9223372036854775807
  · rw [inR_yes ht, if_pos rfl, if_pos rfl]; exact ⟨rfl, rfl⟩
  · rw [inR_no ht, if_neg (by decide), if_neg (by decide), (sem_none_of_eqv h hi k t ht).1, (sem_none_of_eqv h hi k t ht).2]
    exact ⟨rfl, rfl⟩
/-- the halves make the whole -/
theorem eqv_halves {W L : List SK} (h : Eqv W L) (hi : InI L) (cut : Int) (_h1 : -9223372036854775808 ≤ cut) (_h2 : cut < 9223372036854775807) : Eqv (clipSK (cut + 1) 9223372036854775807 W ++ clipSK (-9223372036854775808) cut W) W := fun k t => by
  rw [semS_app, semW_app, (sem_clip _ _ W k t).1, (sem_clip _ _ W k t).2, (sem_clip _ _ W k t).1, (sem_clip _ _ W k t).2]
  by_cases ht : -9223372036854775808 ≤ t ∧ t ≤ 9223372036854775807
  · by_cases hc : t ≤ cut
    · rw [inR_no (by omega : ¬ (cut + 1 ≤ t ∧ t ≤ 9223372036854775807)), inR_yes ⟨ht.1, hc⟩]
      simp
    · rw [inR_yes (by omega : cut + 1 ≤ t ∧ t ≤ 9223372036854775807), inR_no (by omega : ¬ (-9223372036854775808 ≤ t ∧ t ≤ cut))]
      simp
  · obtain ⟨n1, n2⟩ := sem_none_of_eqv h hi k t ht
    rw [n1, n2]
    simp
theorem eqv_clip_app {W A B : List SK} (h : Eqv W (A ++ B)) (a b : Int) : Eqv (clipSK a b A ++ clipSK a b B) (clipSK a b W) := fun k t => by
  rw [semS_app, semW_app]
  simp only [(sem_clip _ _ _ k t).1, (sem_clip _ _ _ k t).2, (h k t).1, (h k t).2, semS_app, semW_app]
  by_cases hi : inR a b t = true
  · simp [hi]
  · simp [hi]
theorem eqv_again {W A B : List SK} (h : Eqv W (A ++ B)) : Eqv (W ++ (A ++ (B ++ W))) W := fun k t => by
  simp only [semS_app, semW_app, (h k t).1, (h k t).2]
  constructor
  · cases semS A k t <;> cases semS B k t <;> rfl
  · cases semW A k t <;> cases semW B k t <;> rfl

/-- a list of lists that has just been laid -/
theorem wsum_sk {w : World} {A : Option Addr} {n : Nat} {L : List Ser} (h : SL w A n L) : wsum L = MR.ssum (L.map Ser.sk) := (MR.ssum_ser L fun x hx => ⟨(h.at_ x hx).smp.2.1, (h.at_ x hx).win.2.1⟩).symm
theorem wsum_flat : ∀ (LL : List (Sl Ser)), wsum (LL.flatMap Sl.l) = (LL.map fun s => wsum s.l).sum
  | [] => rfl
  | s :: LL => by
    have ih := wsum_flat LL
    rw [List.flatMap_cons, List.map_cons, List.sum_cons, ← ih]
    unfold wsum
    rw [List.map_append, List.sum_append]
theorem sll_mk {w : World} {A : Option Addr} {n : Nat} {LL : List (Sl Ser)} (hr : Row w w.heap.size 1 A n (LL.map Sl.val)) (hl : LL.length = n) (h : ∀ s ∈ LL, SL w s.A s.n s.l ∧ s.n ≤ s.c) (ht : total LL ≤ 1099511627776) (hs : (LL.map fun s => wsum s.l).sum ≤ 1099511627776) (hn : n ≤ 1099511627776) : SLL w A n LL :=
  ⟨hr, hl, fun s hs => ⟨(h s hs).2, (h s hs).1.len, (h s hs).1.row⟩, fun s hs x hx => ⟨(h s hs).1.at_ x hx, ((h s hs).1.small x hx).1⟩, ht, by rw [wsum_flat]; exact hs, hn⟩
end Go.Proofs.Ytohocdbneopooaa
