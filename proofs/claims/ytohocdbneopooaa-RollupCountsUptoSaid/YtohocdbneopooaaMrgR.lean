/- almanacref21.Merge: what it returns. Condition: the lists together are within the reach. -/
import Derived.Test.YtohocdbneopooaaMrgP
import Derived.Test.YtohocdbneopooaaRFind
import Derived.Deep.RegionLaw
namespace Go.Proofs.Ytohocdbneopooaa.MR
set_option maxRecDepth 100000
open Go.RowKit Go.Shelf

/-- the state between two steps -/
structure RSt (b0 : Nat) (w wr : World) (v : Value) (L : List Ser) (P : List SK) : Prop where
  out : MOut wr w.heap.size v L
  tells : RM P (L.map Ser.sk)
  lab : ∀ y ∈ L, y.lab.At w w.heap.size 2 Lbl.cells
  labn : ∀ y ∈ L, y.lab.n ≤ 1048576
  labo : ∀ y ∈ L, y.lab.At w b0 2 Lbl.cells
  few : L.length ≤ P.length
  below : Below w.heap.size w wr
theorem RSt.nil (b0 : Nat) (w : World) : RSt b0 w w (.slice none 0 0) [] [] := ⟨MOut.nil _ _, RM.nil, by simp, by simp, by simp, Nat.le_refl _, Below.refl _ _⟩
theorem RSt.on {b0 : Nat} {w wr wx : World} {v : Value} {L : List Ser} {P : List SK} (h : RSt b0 w wr v L P) (hb : Below wr.heap.size wr wx) : RSt b0 w wx v L P :=
  ⟨h.out.below hb, h.tells, h.lab, h.labn, h.labo, h.few, h.below.trans (hb.mono h.below.size)⟩

def allOf (LL : List (Sl Ser)) : List SK := (LL.flatMap Sl.l).map Ser.sk
theorem tot_mem {α : Type} {S : List (Sl α)} {s : Sl α} (h : s ∈ S) : s.n ≤ total S := by
  unfold total
  induction S with
  | nil => cases h
  | cons a S ih =>
    rw [List.map_cons, List.sum_cons]
    rcases List.mem_cons.1 h with rfl | h
    · omega
    · have := ih h; omega
theorem wsum_mem {l : List Ser} {x : Ser} (h : x ∈ l) : x.smp.n + x.win.n ≤ wsum l := by
  unfold wsum
  induction l with
  | nil => cases h
  | cons a S ih =>
    rw [List.map_cons, List.sum_cons]
    rcases List.mem_cons.1 h with rfl | h
    · omega
    · have := ih h; omega
theorem fulls_step (A : List SK) (l : List Ser) (x : Ser) : fulls (A ++ (l ++ [x]).map Ser.sk) = fulls (A ++ l.map Ser.sk) ++ if x.smp.l = [] ∧ x.win.l = [] then [] else [x.sk] := by
  rw [List.map_append, ← List.append_assoc, List.map_singleton, fulls_snoc]
  rfl
theorem mem_put {L : List Ser} {k : Nat} {x y : Ser} (h : y ∈ L.take k ++ x :: L.drop k) : y = x ∨ y ∈ L := by
  rcases List.mem_append.1 h with h | h
  · exact .inr (List.mem_of_mem_take h)
  · exact (List.mem_cons.1 h).imp id List.mem_of_mem_drop
theorem RSt.pend_found {b0 : Nat} {w wr : World} {v : Value} {L : List Ser} {P : List SK} {k : List Lbl} (h : RSt b0 w wr v L P) (hk : ∃ y ∈ L, y.lab.l = k) : RSt b0 w wr v L (pend P k [] []) := by
  obtain ⟨y, hy, e⟩ := hk
  exact ⟨h.out, h.tells.found ⟨y.sk, List.mem_map.2 ⟨y, hy, rfl⟩, e⟩, h.lab, h.labn, h.labo, by unfold pend; rw [List.length_append]; have := h.few; omega, h.below⟩
theorem RSt.pend_fresh {b0 : Nat} {w wr wx : World} {v v' : Value} {L : List Ser} {P : List SK} {s : Sl Lbl} {k : Nat} (h : RSt b0 w wr v L P) (hno : ∀ y ∈ L, y.lab.l ≠ s.l) (hs : s.At w w.heap.size 2 Lbl.cells) (hs0 : s.At w b0 2 Lbl.cells) (hsn : s.n ≤ 1048576) (hM : MOut wx w.heap.size v' (L.take k ++ ⟨s, Sl.nil, Sl.nil⟩ :: L.drop k))
    (hord : (L.take k ++ ⟨s, Sl.nil, Sl.nil⟩ :: L.drop k).Pairwise fun a b => cmpLs a.lab.l b.lab.l < 0) (hg : wr.grownBy wx v.ownBlock) : RSt b0 w wx v' (L.take k ++ ⟨s, Sl.nil, Sl.nil⟩ :: L.drop k) (pend P s.l [] []) := by
  have hmap : (L.take k ++ (⟨s, Sl.nil, Sl.nil⟩ : Ser) :: L.drop k).map Ser.sk = (L.map Ser.sk).take k ++ (s.l, [], []) :: (L.map Ser.sk).drop k := by
    rw [List.map_append, List.map_cons, List.map_take, List.map_drop]; rfl
  refine ⟨hM, ?_, fun y hy => ?_, fun y hy => ?_, fun y hy => ?_, ?_, h.below.grown hg h.below.size (fun q hq => (h.out.row.lt q hq).1)⟩
  · rw [hmap]
    refine h.tells.fresh (fun z hz => ?_) ?_
    · obtain ⟨y, hy, rfl⟩ := List.mem_map.1 hz
      exact hno y hy
    · rw [← hmap]
      exact List.pairwise_map.2 hord
  · rcases mem_put hy with rfl | hy
    · exact hs
    · exact h.lab y hy
  · rcases mem_put hy with rfl | hy
    · exact hsn
    · exact h.labn y hy
  · rcases mem_put hy with rfl | hy
    · exact hs0
    · exact h.labo y hy
  · unfold pend
    have := h.few
    rw [List.length_append, List.length_append, List.length_cons, List.length_take, List.length_drop, List.length_singleton]
    omega
theorem fulls_len (l : List SK) : (fulls l).length ≤ l.length := List.length_filter_le _ _
theorem allOf_len {w : World} {B : Nat} (LL : List (Sl Ser)) (h : ∀ s ∈ LL, s.At w B 3 Ser.cells) : (allOf LL).length = total LL := by
  unfold allOf
  rw [List.length_map]
  exact total_len LL fun s hs => (h s hs).2.1
theorem pre_len {LL : List (Sl Ser)} {i : Nat} {s : Sl Ser} {l : List Ser} (h : LL[i]? = some s) (hl : l.Sublist s.l) : (fulls (allOf (LL.take i) ++ l.map Ser.sk)).length ≤ (allOf LL).length := by
  refine Nat.le_trans (fulls_len _) ?_
  have h1 : (LL.take (i + 1)) = LL.take i ++ [s] := take_snoc? h
  have h2 : (allOf (LL.take (i + 1))).length ≤ (allOf LL).length := by
    unfold allOf
    rw [List.length_map, List.length_map]
    have : LL.flatMap Sl.l = (LL.take (i + 1)).flatMap Sl.l ++ (LL.drop (i + 1)).flatMap Sl.l := by rw [← List.flatMap_append, List.take_append_drop]
    rw [this, List.length_append]
    omega
  refine Nat.le_trans ?_ h2
  rw [h1]
  unfold allOf
  rw [List.flatMap_append, List.map_append, List.length_append, List.length_append, List.length_map, List.length_map, List.length_map]
  have := hl.length_le
  simp only [List.flatMap_cons, List.flatMap_nil, List.append_nil]
  omega
theorem mout_whole {w : World} {base g n cap : Nat} {L : List Ser} (h : MOut w base (.slice (some ⟨g, 0, none⟩) n cap) L) (hn : L.length = n) (h0 : 0 < n) : ∃ rest, base ≤ g ∧ Whole1 w g serT (serCells L ++ rest).toArray ∧ n ≤ cap ∧ cap ≤ maxLen ∧ (serCells L ++ rest).length = cap * 3 := by
  have hr := h.row
  rw [hn] at hr
  obtain ⟨g', cap', rest, hv, h1, h2, h3, h4, _, h5⟩ := own_whole_g (enc := Ser.cells) SrtSer.hk hr h0
  injection hv with a b c
  injection a with a
  injection a with a
  subst a c
  exact ⟨rest, h1, h2, h3, h4, h5⟩
theorem RSt.put_smp {b0 : Nat} {w wr w8 : World} {g n cap idx n8 c8 : Nat} {A8 : Option Addr} {L : List Ser} {P : List SK} {k : List Lbl} {S R : List Smp} {W : List Win} {z : Smp} {y : Ser} (h : RSt b0 w wr (.slice (some ⟨g, 0, none⟩) n cap) L (pend P k S W)) (hn : L.length = n) (hi : L[idx]? = some y) (hk : y.lab.l = k)
    (hR : OncSmp.Once (y.smp.l ++ [z]) R) (ho : w8.ownsRow w.heap.size smpT 2 (.slice A8 n8 c8) n8 (R.flatMap Smp.cells)) (hn8 : R.length = n8) (hg : wr.grownBy w8 y.smp.val.ownBlock) (hat : ∀ q, (Value.slice A8 n8 c8).ownBlock = some q → y.smp.val.ownBlock = some q ∨ wr.heap.size ≤ q) :
    RSt b0 w (w8.setCell ⟨g, idx * 3 + 1, none⟩ (.slice A8 n8 c8)) (.slice (some ⟨g, 0, none⟩) n cap) (L.set idx ⟨y.lab, ⟨A8, n8, c8, R⟩, y.win⟩) (pend P k (S ++ [z]) W) := by
  have hil := (List.getElem?_eq_some_iff.1 hi).1
  have hym := List.mem_of_getElem? hi
  obtain ⟨rest, hgb, hW, hnc, hc, hs⟩ := mout_whole h.out hn (by omega)
  obtain ⟨hy, hb⟩ := (h.out.own y hym).app_smp hg hat ho hn8
  have hM := h.out.put hn hi hW hgb hnc hc hs hg (fun q hq => .inl hq) hy rfl hb (q := 1) (by decide) rfl
  have hyi : (L.map Ser.sk)[idx]? = some y.sk := by rw [List.getElem?_map, hi]; rfl
  have ht := h.tells.smp hyi hk hR
  have hset : (L.set idx ⟨y.lab, ⟨A8, n8, c8, R⟩, y.win⟩).map Ser.sk = (L.map Ser.sk).set idx (k, R, y.sk.2.2) := by rw [List.map_set, ← hk]; rfl
  refine ⟨hM, by rw [hset]; exact ht, fun a ha => ?_, fun a ha => ?_, fun a ha => ?_, by rw [List.length_set]; have := h.few; unfold pend at this ⊢; simpa using this, ?_⟩
  · rcases set_cases ha with rfl | ⟨j, _, hj⟩
    · exact h.lab y hym
    · exact h.lab a (List.mem_of_getElem? hj)
  · rcases set_cases ha with rfl | ⟨j, _, hj⟩
    · exact h.labn y hym
    · exact h.labn a (List.mem_of_getElem? hj)
  · rcases set_cases ha with rfl | ⟨j, _, hj⟩
    · exact h.labo y hym
    · exact h.labo a (List.mem_of_getElem? hj)
  · have hs := h.below.size
    exact (h.below.grown hg hs (fun q hq => ((h.out.own y hym).smp.lt q hq).1)).grown (gb_put (gb_refl w8 _) _ _) (by have := hg.size; omega) (fun q hq => by injection hq with hq; omega)
theorem RSt.put_win {b0 : Nat} {w wr w8 : World} {g n cap idx n8 c8 : Nat} {A8 : Option Addr} {L : List Ser} {P : List SK} {k : List Lbl} {S : List Smp} {W R : List Win} {z : Win} {y : Ser} (h : RSt b0 w wr (.slice (some ⟨g, 0, none⟩) n cap) L (pend P k S W)) (hn : L.length = n) (hi : L[idx]? = some y) (hk : y.lab.l = k)
    (hR : OncWin.Once (y.win.l ++ [z]) R) (ho : w8.ownsRow w.heap.size winT 6 (.slice A8 n8 c8) n8 (R.flatMap Win.cells)) (hn8 : R.length = n8) (hg : wr.grownBy w8 y.win.val.ownBlock) (hat : ∀ q, (Value.slice A8 n8 c8).ownBlock = some q → y.win.val.ownBlock = some q ∨ wr.heap.size ≤ q) :
    RSt b0 w (w8.setCell ⟨g, idx * 3 + 2, none⟩ (.slice A8 n8 c8)) (.slice (some ⟨g, 0, none⟩) n cap) (L.set idx ⟨y.lab, y.smp, ⟨A8, n8, c8, R⟩⟩) (pend P k S (W ++ [z])) := by
  have hil := (List.getElem?_eq_some_iff.1 hi).1
  have hym := List.mem_of_getElem? hi
  obtain ⟨rest, hgb, hW, hnc, hc, hs⟩ := mout_whole h.out hn (by omega)
  obtain ⟨hy, hb⟩ := (h.out.own y hym).app_win hg hat ho hn8
  have hM := h.out.put hn hi hW hgb hnc hc hs hg (fun q hq => .inr hq) hy rfl hb (q := 2) (by decide) rfl
  have hyi : (L.map Ser.sk)[idx]? = some y.sk := by rw [List.getElem?_map, hi]; rfl
  have ht := h.tells.win hyi hk hR
  have hset : (L.set idx ⟨y.lab, y.smp, ⟨A8, n8, c8, R⟩⟩).map Ser.sk = (L.map Ser.sk).set idx (k, y.sk.2.1, R) := by rw [List.map_set, ← hk]; rfl
  refine ⟨hM, by rw [hset]; exact ht, fun a ha => ?_, fun a ha => ?_, fun a ha => ?_, by rw [List.length_set]; have := h.few; unfold pend at this ⊢; simpa using this, ?_⟩
  · rcases set_cases ha with rfl | ⟨j, _, hj⟩
    · exact h.lab y hym
    · exact h.lab a (List.mem_of_getElem? hj)
  · rcases set_cases ha with rfl | ⟨j, _, hj⟩
    · exact h.labn y hym
    · exact h.labn a (List.mem_of_getElem? hj)
  · rcases set_cases ha with rfl | ⟨j, _, hj⟩
    · exact h.labo y hym
    · exact h.labo a (List.mem_of_getElem? hj)
  · have hs := h.below.size
    exact (h.below.grown hg hs (fun q hq => ((h.out.own y hym).win.lt q hq).1)).grown (gb_put (gb_refl w8 _) _ _) (by have := hg.size; omega) (fun q hq => by injection hq with hq; omega)
/-- how many samples and windows -/
def ssum (P : List SK) : Nat := (P.map fun s => s.2.1.length + s.2.2.length).sum
theorem ssum_app (a b : List SK) : ssum (a ++ b) = ssum a + ssum b := by simp [ssum]
theorem of_len (k : List Lbl) : ∀ P : List SK, (smpsOf k P).length + (winsOf k P).length ≤ ssum P
  | [] => by simp [smpsOf, winsOf, ssum]
  | x :: P => by
    have ih := of_len k P
    have h : x :: P = [x] ++ P := rfl
    rw [h, smpsOf_app, winsOf_app, ssum_app, smpsOf_one, winsOf_one, List.length_append, List.length_append]
    have : ssum [x] = x.2.1.length + x.2.2.length := by simp [ssum]
    split <;> simp <;> omega
theorem ssum_fulls (l : List SK) : ssum (fulls l) ≤ ssum l := by
  unfold fulls
  induction l with
  | nil => exact Nat.le_refl _
  | cons a l ih =>
    rw [List.filter_cons]
    have h1 : ssum (a :: l) = a.2.1.length + a.2.2.length + ssum l := by simp [ssum]
    split
    · have h2 : ∀ r, ssum (a :: r) = a.2.1.length + a.2.2.length + ssum r := fun r => by simp [ssum]
      rw [h2, h1]; omega
    · omega
theorem ssum_ser : ∀ (l : List Ser), (∀ x ∈ l, x.smp.l.length = x.smp.n ∧ x.win.l.length = x.win.n) → ssum (l.map Ser.sk) = wsum l
  | [], _ => rfl
  | x :: l, h => by
    have ih := ssum_ser l fun y hy => h y (List.mem_cons_of_mem _ hy)
    obtain ⟨h1, h2⟩ := h x (List.mem_cons_self ..)
    have e1 : ssum ((x :: l).map Ser.sk) = x.smp.l.length + x.win.l.length + ssum (l.map Ser.sk) := by simp [ssum, Ser.sk]
    have e2 : wsum (x :: l) = x.smp.n + x.win.n + wsum l := by simp [wsum]
    rw [e1, e2, h1, h2, ih]
theorem ssum_pre {LL : List (Sl Ser)} {i : Nat} {s : Sl Ser} {k : Nat} (h : LL[i]? = some s) : ssum (allOf (LL.take i) ++ (s.l.take k).map Ser.sk) ≤ ssum (allOf LL) := by
  have h1 : allOf LL = allOf (LL.take i) ++ (s.l.map Ser.sk ++ allOf (LL.drop (i + 1))) := by
    unfold allOf
    rw [← List.map_append, ← List.map_append]
    congr 1
    rw [← List.flatMap_cons, ← InsSmp.dropAt h, ← List.flatMap_append, List.take_append_drop]
  have h2 : s.l.map Ser.sk = (s.l.take k).map Ser.sk ++ (s.l.drop k).map Ser.sk := by rw [← List.map_append, List.take_append_drop]
  rw [h1, h2, ssum_app, ssum_app, ssum_app, ssum_app]
  omega
theorem apart_set {L : List Ser} {v : Value} {X idx : Nat} {y y' : Ser} {w : World} (h : ∀ q, (v.ownBlock = some q ∨ ∃ a ∈ L, a.blk q) → q ≠ X) (hX : X < w.heap.size) (hb : ∀ q, y'.blk q → (y.smp.val.ownBlock = some q ∨ w.heap.size ≤ q) ∨ y.win.val.ownBlock = some q) (hy : L[idx]? = some y) : ∀ q, (v.ownBlock = some q ∨ ∃ a ∈ L.set idx y', a.blk q) → q ≠ X := by
  rintro q (hq | ⟨a, ha, hq⟩)
  · exact h q (.inl hq)
  · rcases set_cases ha with rfl | ⟨j, _, hj⟩
    · rcases hb q hq with (e | e) | e
      · exact h q (.inr ⟨y, List.mem_of_getElem? hy, .inl e⟩)
      · omega
      · exact h q (.inr ⟨y, List.mem_of_getElem? hy, .inr e⟩)
    · exact h q (.inr ⟨a, List.mem_of_getElem? hj, hq⟩)
theorem apart_set2 {L : List Ser} {v : Value} {X idx : Nat} {y y' : Ser} {w : World} (h : ∀ q, (v.ownBlock = some q ∨ ∃ a ∈ L, a.blk q) → q ≠ X) (hX : X < w.heap.size) (hb : ∀ q, y'.blk q → y.smp.val.ownBlock = some q ∨ (y.win.val.ownBlock = some q ∨ w.heap.size ≤ q)) (hy : L[idx]? = some y) : ∀ q, (v.ownBlock = some q ∨ ∃ a ∈ L.set idx y', a.blk q) → q ≠ X := by
  rintro q (hq | ⟨a, ha, hq⟩)
  · exact h q (.inl hq)
  · rcases set_cases ha with rfl | ⟨j, _, hj⟩
    · rcases hb q hq with e | e | e
      · exact h q (.inr ⟨y, List.mem_of_getElem? hy, .inl e⟩)
      · exact h q (.inr ⟨y, List.mem_of_getElem? hy, .inr e⟩)
      · omega
    · exact h q (.inr ⟨a, List.mem_of_getElem? hj, hq⟩)
def MergeR (b0 : Nat) (all : List SK) (w : World) (e : Ending) (w' : World) : Prop :=
  ∃ (v : Value) (L : List Ser), e = .returned v ∧ RSt b0 w w' v L (fulls all)

set_option maxHeartbeats 12800000 in
theorem mergeR_any (b0 : Nat) (A : Option Addr) (n c : Nat) (LL : List (Sl Ser)) (w : World) (hr : Row w w.heap.size 1 A n (LL.map Sl.val)) (hl : LL.length = n) (hat : ∀ s ∈ LL, s.At w w.heap.size 3 Ser.cells) (hse : ∀ s ∈ LL, ∀ x ∈ s.l, x.At w w.heap.size ∧ x.lab.n ≤ 1048576) (ht : total LL ≤ 1099511627776) (hws : wsum (LL.flatMap Sl.l) ≤ 1099511627776) (hn : n ≤ 4611686018427387904) (hlo : ∀ s ∈ LL, ∀ x ∈ s.l, x.lab.At w b0 2 Lbl.cells) :
    Calls Try.prog 27 #[.slice A n c] w (MergeR b0 (allOf LL) w) := by
  have HLO := hidden hlo
  clear hlo
  have HR := hidden hr
  have HL := hidden hl
  have HAT := hidden hat
  have HSE := hidden hse
  have HT := hidden ht
  have HWS := hidden hws
  clear hr hl hat hse ht hws
  go_enter Try.func27, Try.ntmps27
  go_wp2_with fail
  go_loopw [3, 4] (fun vo vi wr => ∃ (i : Nat) (v : Value) (L : List Ser), vo = v ∧ vi = .int .i64 i ∧ i ≤ n ∧ Hid (RSt b0 w wr v L (fulls (allOf (LL.take i))))) (fun _ vi _ => n - (intOf vi).toNat)
  case atStart => exact ⟨0, _, [], rfl, rfl, Nat.zero_le _, hidden (RSt.nil b0 w)⟩
  case round =>
    obtain ⟨i, v, L, rfl, rfl, hi, hst⟩ := hrel
    by_cases hlt : i < n
    · obtain ⟨g, o, s, hA, hg, hs, hc⟩ := sl_cell HR.out i hlt
      subst hA
      have HSAT := hidden (HAT.out s (List.mem_of_getElem? hs))
      have HSX := hidden (HSE.out s (List.mem_of_getElem? hs))
      have HS := hidden hs
      have HC := hidden hc
      have HG := hidden hg
      have b1 : (i : Int) < (n : Int) := by omega
      have b2 : (0 : Int) ≤ (i : Int) := by omega
      have b3 : i < n := hlt
      have hsn : s.n ≤ 1099511627776 := by have := tot_mem (List.mem_of_getElem? hs); have := HT.out; omega
      clear hs hc hg
      go_wp2_with fail
      go_loopw [3, 5] (fun vo vk wx => ∃ (k : Nat) (v : Value) (L : List Ser), vo = v ∧ vk = .int .i64 k ∧ k ≤ s.n ∧ Hid (RSt b0 w wx v L (fulls (allOf (LL.take i) ++ (s.l.take k).map Ser.sk)))) (fun _ vk _ => s.n - (intOf vk).toNat)
      case atStart => exact ⟨0, _, L, rfl, rfl, Nat.zero_le _, hidden (by simpa using hst.out)⟩
      case round =>
        obtain ⟨k, v, L, rfl, rfl, hk, hst⟩ := hrel
        have c0 : wr.cell? ⟨g, o + i, none⟩ = some (.slice s.A s.n s.c) := (hst.out.below.cell (p := ⟨g, o + i, none⟩) HG.out).trans HC.out
        by_cases hlk : k < s.n
        · obtain ⟨gs, o2, hsA, hgs, x, hx, d0, d1, d2⟩ := ser_cells_at HSAT.out.2.2 HSAT.out.2.1 hst.out.below k hlk
          rw [hsA] at c0
          simp only [Sl.val] at d0 d1 d2
          obtain ⟨hxat, hxn⟩ := HSX.out x (List.mem_of_getElem? hx)
          have hws : x.smp.n + x.win.n ≤ 1099511627776 := by
            have := wsum_mem (List.mem_flatMap.2 ⟨s, List.mem_of_getElem? HS.out, List.mem_of_getElem? hx⟩)
            have := HWS.out
            omega
          have HTK : Hid (s.l.take (k + 1) = s.l.take k ++ [x]) := hidden (take_snoc? hx)
          have HXA := hidden hxat
          have HXO := hidden (HLO.out s (List.mem_of_getElem? HS.out) x (List.mem_of_getElem? hx))
          have HSA := hidden hsA
          have b4 : (k : Int) < (s.n : Int) := by omega
          have b5 : (0 : Int) ≤ (k : Int) := by omega
          have hms : s.n - (k + 1) < s.n - k := by omega
          clear hx hgs hxat hsA
          go_upto_region 9 with (fail)
          have hX := Whole1.new wr 85 #[.slice x.lab.A x.lab.n x.lab.c, .slice x.smp.A x.smp.n x.smp.c, .slice x.win.A x.win.n x.win.c]
          have hbX : Below wr.heap.size wr (wr.alloc (.cells #[.slice x.lab.A x.lab.n x.lab.c, .slice x.smp.A x.smp.n x.smp.c, .slice x.win.A x.win.n x.win.c] 85)) := (Below.refl _ _).alloc (Nat.le_refl _) _
          have hsX := hst.out.on hbX
          have hltX := mout_lt hst.out.out
          generalize wr.alloc (.cells #[.slice x.lab.A x.lab.n x.lab.c, .slice x.smp.A x.smp.n x.smp.c, .slice x.win.A x.win.n x.win.c] 85) = wX at hX hbX hsX ⊢
          obtain ⟨X, hXe⟩ : ∃ X, wr.heap.size = X := ⟨_, rfl⟩
          rw [hXe] at hX hltX ⊢
          have HXX := hidden hX
          have HSTX := hidden hsX
          have HLX := hidden hltX
          have hXl := hX.lt
          have hwX : w.heap.size ≤ X := by rw [← hXe]; exact hst.out.below.size
          have x0 := hX.cell 0
          have x1 := hX.cell 1
          have x2 := hX.cell 2
          clear hX hbX hsX hltX hXe d0 d1 d2 c0 hst
          by_cases hz : x.smp.n + x.win.n = 0
          · have z1 : x.smp.n = 0 := by omega
            have z2 : x.win.n = 0 := by omega
            have HZ1 := hidden z1
            have HZ2 := hidden z2
            have b6 : (x.smp.n : Int) + (x.win.n : Int) = 0 := by omega
            have HF : Hid (RSt b0 w wX u3 L (fulls (allOf (LL.take i) ++ (s.l.take (k + 1)).map Ser.sk))) := hidden (by
              rw [HTK.out, fulls_step, if_pos ⟨List.eq_nil_of_length_eq_zero (by rw [HXA.out.smp.2.1]; exact z1), List.eq_nil_of_length_eq_zero (by rw [HXA.out.win.2.1]; exact z2)⟩, List.append_nil]
              exact HSTX.out)
            clear hz z1 z2
            go_wp2_with fail
            go_roundw
            case rel => exact ⟨k + 1, _, L, rfl, by go_num, hlk, HF⟩
            case measure => simp [intOf]; omega
          · have HFS : Hid (fulls (allOf (LL.take i) ++ (s.l.take (k + 1)).map Ser.sk) = fulls (allOf (LL.take i) ++ (s.l.take k).map Ser.sk) ++ [x.sk]) := hidden (by
              rw [HTK.out, fulls_step, if_neg]
              rintro ⟨h1, h2⟩
              have e1 := HXA.out.smp.2.1
              have e2 := HXA.out.win.2.1
              rw [h1] at e1
              rw [h2] at e2
              simp only [List.length_nil] at e1 e2
              omega)
            have b6 : ¬ (x.smp.n : Int) + (x.win.n : Int) = 0 := by omega
            have b7 : ((x.smp.n : Int) + (x.win.n : Int) == 0) = false := by simpa using b6
            obtain ⟨P, hP⟩ : ∃ P, fulls (allOf (LL.take i) ++ (s.l.take k).map Ser.sk) = P := ⟨_, rfl⟩
            have HPL : Hid (P.length ≤ 1099511627776) := hidden (by
              rw [← hP]
              refine Nat.le_trans (pre_len HS.out (s.l.take_prefix k).sublist) ?_
              rw [allOf_len LL HAT.out]
              exact HT.out)
            have HSUM : Hid (ssum P + (x.smp.n + x.win.n) ≤ 1099511627776) := hidden (by
              have h1 := ssum_pre (k := k + 1) HS.out
              have h2 := ssum_fulls (allOf (LL.take i) ++ (s.l.take (k + 1)).map Ser.sk)
              rw [HFS.out, hP, ssum_app] at h2
              have h3 : ssum [x.sk] = x.smp.l.length + x.win.l.length := by simp [ssum, Ser.sk]
              rw [h3, HXA.out.smp.2.1, HXA.out.win.2.1] at h2
              have h4 : ssum (allOf LL) = wsum (LL.flatMap Sl.l) := ssum_ser _ fun u hu => by
                obtain ⟨s', hs', hu'⟩ := List.mem_flatMap.1 hu
                have := (HSE.out s' hs' u hu').1
                exact ⟨this.smp.2.1, this.win.2.1⟩
              have := HWS.out
              omega)
            rw [hP] at HFS HSTX
            clear hz hP b6
            obtain ⟨A4, c4, rfl, hc4, hr4⟩ := own_shape HSTX.out.out.row
            obtain ⟨ll, hll⟩ : ∃ ll, L.length = ll := ⟨_, rfl⟩
            rw [hll] at hc4 hr4 HSTX HLX ⊢
            have HLL := hidden hll
            have hlab : ∀ z ∈ L, z.lab.At wX wX.heap.size 2 Lbl.cells := fun z hz => ((HSTX.out.lab z hz).below HSTX.out.below).more HSTX.out.below.size
            have hxl : x.lab.At wX wX.heap.size 2 Lbl.cells := (HXA.out.lab.below HSTX.out.below).more HSTX.out.below.size
            have hlab2 : ∀ z ∈ L, z.lab.n ≤ 4611686018427387904 := fun z hz => by have := HSTX.out.labn z hz; omega
            have S1 := hidden (find_any A4 ll c4 L x.lab wX wX.heap.size hr4 hll hlab hxl (by have := HSTX.out.few; have := HPL.out; omega) hlab2)
            clear hll hr4 hlab hxl hlab2
            go_wp2_with fail
            refine S1.out.mono ?_
            rintro e w2 ⟨q, r, rfl, rfl, hfo⟩
            have HFO := hidden hfo
            have HST2 := hidden (HSTX.out.on (below_drewN (Below.refl wX.heap.size wX) q))
            have HX2 := hidden (HXX.out.drewN q)
            clear hfo S1 x0 x1 x2 HXX HSTX
            generalize wX.drewN q = w2 at HST2 HX2 ⊢
            have HLX2 : Hid (∀ q, ((Value.slice A4 ll c4).ownBlock = some q ∨ ∃ y ∈ L, y.blk q) → q ≠ X) := hidden (fun q hq => by have := HLX.out q hq; omega)
            have hX2s : X < w2.heap.size := HX2.out.lt
            clear HLX hXl
            go_upto_if 45 with (fail)
            go_cut [3, 7] (fun vo vi wx => ∃ (v : Value) (L : List Ser) (i : Nat) (y : Ser), vo = v ∧ vi = .int .i64 i ∧ Hid (RSt b0 w wx v L (pend P x.lab.l [] [])) ∧ Hid (L[i]? = some y ∧ y.lab.l = x.lab.l) ∧ Hid (Whole1 wx X 85 #[.slice x.lab.A x.lab.n x.lab.c, .slice x.smp.A x.smp.n x.smp.c, .slice x.win.A x.win.n x.win.c]) ∧ Hid (∀ q, (v.ownBlock = some q ∨ ∃ y ∈ L, y.blk q) → q ≠ X))
            case first =>
              rcases HFO.out with ⟨idx, y, hr, hy, hyk⟩ | ⟨hr, hno⟩
              · subst hr
                have b8 : ¬ (idx : Int) < 0 := by omega
                have HY := hidden (And.intro hy hyk)
                have HST3 := hidden (HST2.out.pend_found ⟨y, List.mem_of_getElem? hy, hyk⟩)
                clear hy hyk
                go_wp2_with fail
                go_meet
                exact ⟨_, L, idx, y, rfl, rfl, HST3, HY, HX2, HLX2⟩
              · subst hr
                have x0 := HX2.out.cell 0
                have hlab : ∀ z ∈ L, z.lab.At w2 w.heap.size 2 Lbl.cells := fun z hz => (HST2.out.lab z hz).below HST2.out.below
                have hxl : x.lab.At w2 w.heap.size 2 Lbl.cells := HXA.out.lab.below HST2.out.below
                have S2 := hidden (insert_any w.heap.size w.heap.size (.slice A4 ll c4) L x.lab w2 HST2.out.out (List.pairwise_map.1 HST2.out.tells.order) hno hxl hlab (Nat.le_refl _) HST2.out.below.size (by have := HST2.out.few; have := HPL.out; omega) (fun z hz => by have := HST2.out.labn z hz; omega) (by omega))
                have HNO := hidden hno
                clear hlab hxl hno HFO
                go_wp2_with fail
                refine S2.out.mono ?_
                rintro e w3 ⟨v3, kk, rfl, hkk, hord, hM3, hg3, hq3⟩
                obtain ⟨A5, c5, rfl, hc5, hr5⟩ := own_shape hM3.row
                have HST3 := hidden (HST2.out.pend_fresh HNO.out HXA.out.lab HXO.out hxn hM3 hord hg3)
                have HX3 := hidden (HX2.out.grown hg3 (fun e => HLX2.out X (.inl e.symm) rfl))
                have HLX3 : Hid (∀ q, ((Value.slice A5 (L.take kk ++ ⟨x.lab, Sl.nil, Sl.nil⟩ :: L.drop kk).length c5).ownBlock = some q ∨ ∃ y ∈ L.take kk ++ ⟨x.lab, Sl.nil, Sl.nil⟩ :: L.drop kk, y.blk q) → q ≠ X) := hidden (by
                  rintro q (hq | ⟨y, hy, hq⟩)
                  · rcases hq3 q hq with h | h
                    · exact HLX2.out q (.inl h)
                    · omega
                  · rcases mem_put hy with rfl | hy
                    · rcases hq with hq | hq <;> cases hq
                    · exact HLX2.out q (.inr ⟨y, hy, hq⟩))
                have hin : ∃ y ∈ L.take kk ++ (⟨x.lab, Sl.nil, Sl.nil⟩ : Ser) :: L.drop kk, y.lab.l = x.lab.l := ⟨_, List.mem_append_right _ (List.mem_cons_self ..), rfl⟩
                obtain ⟨L3, hL3⟩ : ∃ L3, L.take kk ++ (⟨x.lab, Sl.nil, Sl.nil⟩ : Ser) :: L.drop kk = L3 := ⟨_, rfl⟩
                rw [hL3] at HST3 HLX3 hin hr5 ⊢
                have hlab3 : ∀ z ∈ L3, z.lab.At w3 w3.heap.size 2 Lbl.cells := fun z hz => ((HST3.out.lab z hz).below HST3.out.below).more HST3.out.below.size
                have hxl3 : x.lab.At w3 w3.heap.size 2 Lbl.cells := (HXA.out.lab.below HST3.out.below).more HST3.out.below.size
                have S3 := hidden (find_any A5 L3.length c5 L3 x.lab w3 w3.heap.size hr5 rfl hlab3 hxl3 (by have := HST3.out.few; unfold pend at this; rw [List.length_append, List.length_singleton] at this; have := HPL.out; omega) (fun z hz => by have := HST3.out.labn z hz; omega))
                have x0 := HX3.out.cell 0
                have HIN := hidden hin
                clear hlab3 hxl3 hin hr5 hL3 S2 hM3 hord hg3 hq3 hkk HNO
                go_wp2_with fail
                refine S3.out.mono ?_
                rintro e w4 ⟨q4, r4, rfl, rfl, hfo4⟩
                rcases hfo4 with ⟨idx, y, hr, hy, hyk⟩ | ⟨_, hno⟩
                · subst hr
                  have HY := hidden (And.intro hy hyk)
                  have HST4 := hidden (HST3.out.on (below_drewN (Below.refl w3.heap.size w3) q4))
                  have HX4 := hidden (HX3.out.drewN q4)
                  clear hy hyk S3 x0
                  go_wp2_with fail
                  go_meet
                  exact ⟨_, L3, idx, y, rfl, rfl, HST4, HY, HX4, HLX3⟩
                · obtain ⟨y, hy, hyk⟩ := HIN.out
                  exact absurd hyk (hno y hy)
            case rest =>
              obtain ⟨v, L, idx, y, rfl, rfl, hst, hy, hX, hap⟩ := hcut
              obtain ⟨g9, c9, rfl, hgb9, hg9s, hc9, _⟩ := own_at hst.out.out.row (by have := (List.getElem?_eq_some_iff.1 hy.out.1).1; omega)
              obtain ⟨l3, hl3⟩ : ∃ l3, L.length = l3 := ⟨_, rfl⟩
              have hil : idx < l3 := by rw [← hl3]; exact (List.getElem?_eq_some_iff.1 hy.out.1).1
              rw [hl3] at hst hap hc9 ⊢
              have HL3 := hidden hl3
              have x1 := hX.out.cell 1
              clear hl3 HFO HST2 HX2 HLX2
              go_wp2_with fail
              go_loopw [8] (fun vj wx => ∃ (j : Nat) (L : List Ser) (y : Ser), vj = .int .i64 j ∧ j ≤ x.smp.n ∧ Hid (L.length = l3) ∧ Hid (RSt b0 w wx (.slice (some ⟨g9, 0, none⟩) l3 c9) L (pend P x.lab.l (x.smp.l.take j) [])) ∧ Hid (L[idx]? = some y ∧ y.lab.l = x.lab.l) ∧ Hid (Whole1 wx X 85 #[.slice x.lab.A x.lab.n x.lab.c, .slice x.smp.A x.smp.n x.smp.c, .slice x.win.A x.win.n x.win.c]) ∧ Hid (∀ q, ((Value.slice (some ⟨g9, 0, none⟩) l3 c9).ownBlock = some q ∨ ∃ y ∈ L, y.blk q) → q ≠ X)) (fun vj _ => x.smp.n - (intOf vj).toNat)
              case atStart => exact ⟨0, L, y, rfl, Nat.zero_le _, HL3, hst, hy, hX, hap⟩
              case round =>
                obtain ⟨j, L, y, rfl, hj, hL, hst, hy, hX, hap⟩ := hrel
                have x1 := hX.out.cell 1
                by_cases hjs : j < x.smp.n
                · obtain ⟨g7, o7, z, hA7, hg7, hz, hc7⟩ := row_at (enc := Smp.cells) InsSmp.hkk ((HXA.out.smp.below hst.out.below).2.2) HXA.out.smp.2.1 j hjs
                  rw [hA7] at x1
                  have u0 : wr.cell? ⟨g7, o7 + j * 2, none⟩ = some (.int .i64 z.t) := hc7 0 (by omega)
                  have u1 : wr.cell? ⟨g7, o7 + j * 2 + 1, none⟩ = some (.int .u64 z.v) := hc7 1 (by omega)
                  have HTJ : Hid (x.smp.l.take (j + 1) = x.smp.l.take j ++ [z]) := hidden (take_snoc? hz)
                  obtain ⟨rest9, _, hW, hnc9, hcap9, _⟩ := mout_whole hst.out.out hL.out (by omega)
                  obtain ⟨p0, p1, p2⟩ := ser_whole hW hy.out.1
                  simp only [Sl.val] at p0 p1 p2
                  have f1 := hW.free (idx * 3 + 1)
                  have HW := hidden hW
                  have hyo := hst.out.out.own y (List.mem_of_getElem? hy.out.1)
                  have HYO := hidden hyo
                  have HNS := hidden (fun e => (hst.out.out.out y (List.mem_of_getElem? hy.out.1) g9 rfl).1 (.inl e.symm) : some g9 ≠ y.smp.val.ownBlock)
                  have hyn : y.smp.n ≤ 1099511627776 := by
                    have h1 := onceS_len (hst.out.tells.smps y.sk (List.mem_map.2 ⟨y, List.mem_of_getElem? hy.out.1, rfl⟩))
                    have h2 := of_len y.sk.1 (pend P x.lab.l (x.smp.l.take j) [])
                    have h3 : ssum (pend P x.lab.l (x.smp.l.take j) []) = ssum P + (x.smp.l.take j).length := by unfold pend; rw [ssum_app]; simp [ssum]
                    have h4 : y.sk.2.1.length = y.smp.n := HYO.out.lens.1
                    have h5 := HSUM.out
                    rw [List.length_take] at h3
                    omega
                  have S1 := fun (W : World) h hb => InsSmp.ins_any w.heap.size y.smp.n y.smp.val y.smp.l z W h HYO.out.lens.1 (hst.out.tells.smps y.sk (List.mem_map.2 ⟨y, List.mem_of_getElem? hy.out.1, rfl⟩)).1 hyn hb
                  simp only [Sl.val] at S1
                  have c1 : (j : Int) < (x.smp.n : Int) := by omega
                  have c2 : (0 : Int) ≤ (j : Int) := by omega
                  have c3 : (idx : Int) < (l3 : Int) := by omega
                  have c4' : (0 : Int) ≤ (idx : Int) := by omega
                  have hwr := hst.out.below.size
                  have hmj : x.smp.n - (j + 1) < x.smp.n - j := by omega
                  clear hz hc7 hW hyo
                  go_wp2_with fail
                  go_region_law (go_simp; go_at_call 72; refine (S1 wr.drew HYO.out.smp hwr).mono ?_; rintro e w8 ⟨v8, R8, rfl, hO8, hw8, hg8, hv8⟩; obtain ⟨A8, c8, rfl, hc8, hr8⟩ := own_shape hw8; have hW8 := HW.out.drew.grown hg8 HNS.out; have q1 := (ser_whole hW8 hy.out.1).2.1; have f3 := hW8.free (idx * 3 + 1))
                  all_goals
                    go_wp2_with fail
                    go_roundw
                    case rel =>
                      have hg0 := gb_trans (gb_drew (gb_refl wr _)) hg8
                      have hat8 := fun q hq => hv8 q hq
                      have hP8 := hst.out.put_smp hL.out hy.out.1 hy.out.2 hO8 hw8 rfl hg0 hat8
                      rw [← HTJ.out] at hP8
                      exact ⟨j + 1, _, _, by go_num, hjs, hidden (by rw [List.length_set]; exact hL.out), hidden hP8, hidden ⟨List.getElem?_set_self (List.getElem?_eq_some_iff.1 hy.out.1).1, hy.out.2⟩, hidden ((hX.out.grown hg0 (fun e => hap.out X (.inr ⟨y, List.mem_of_getElem? hy.out.1, .inl e.symm⟩) rfl)).off (fun e => hap.out g9 (.inl rfl) e.symm) _), hidden (apart_set hap.out hX.out.lt (fun q hq => (hq.imp (hat8 q) id)) hy.out.1)⟩
                    case measure => simp [intOf]; omega
                · obtain rfl : j = x.smp.n := by omega
                  have hst2 : Hid (RSt b0 w wr (.slice (some ⟨g9, 0, none⟩) l3 c9) L (pend P x.lab.l x.smp.l [])) := hidden (by
                    have := hst.out
                    rwa [List.take_of_length_le (by rw [HXA.out.smp.2.1]; exact Nat.le_refl _)] at this)
                  clear hst
                  have x2 := hX.out.cell 2
                  go_wp2_with fail
                  go_loopw [9] (fun vj wx => ∃ (j : Nat) (L : List Ser) (y : Ser), vj = .int .i64 j ∧ j ≤ x.win.n ∧ Hid (L.length = l3) ∧ Hid (RSt b0 w wx (.slice (some ⟨g9, 0, none⟩) l3 c9) L (pend P x.lab.l x.smp.l (x.win.l.take j))) ∧ Hid (L[idx]? = some y ∧ y.lab.l = x.lab.l) ∧ Hid (Whole1 wx X 85 #[.slice x.lab.A x.lab.n x.lab.c, .slice x.smp.A x.smp.n x.smp.c, .slice x.win.A x.win.n x.win.c]) ∧ Hid (∀ q, ((Value.slice (some ⟨g9, 0, none⟩) l3 c9).ownBlock = some q ∨ ∃ y ∈ L, y.blk q) → q ≠ X)) (fun vj _ => x.win.n - (intOf vj).toNat)
                  case atStart => exact ⟨0, L, y, rfl, Nat.zero_le _, hL, hst2, hy, hX, hap⟩
                  case round =>
                    obtain ⟨j, L, y, rfl, hj, hL, hst, hy, hX, hap⟩ := hrel
                    have x2 := hX.out.cell 2
                    by_cases hjs : j < x.win.n
                    · obtain ⟨g7, o7, z, hA7, hg7, hz, hc7⟩ := row_at (enc := Win.cells) InsWin.hkk ((HXA.out.win.below hst.out.below).2.2) HXA.out.win.2.1 j hjs
                      rw [hA7] at x2
                      have u0 : wr.cell? ⟨g7, o7 + j * 6, none⟩ = some (.int .i64 z.start) := hc7 0 (by omega)
                      have u1 : wr.cell? ⟨g7, o7 + j * 6 + 1, none⟩ = some (.int .i64 z.count) := hc7 1 (by omega)
                      have u2 : wr.cell? ⟨g7, o7 + j * 6 + 2, none⟩ = some (.int .u64 z.sum) := hc7 2 (by omega)
                      have u3 : wr.cell? ⟨g7, o7 + j * 6 + 3, none⟩ = some (.int .u64 z.min) := hc7 3 (by omega)
                      have u4 : wr.cell? ⟨g7, o7 + j * 6 + 4, none⟩ = some (.int .u64 z.max) := hc7 4 (by omega)
                      have u5 : wr.cell? ⟨g7, o7 + j * 6 + 5, none⟩ = some (.int .u64 z.last) := hc7 5 (by omega)
                      have HTJ : Hid (x.win.l.take (j + 1) = x.win.l.take j ++ [z]) := hidden (take_snoc? hz)
                      obtain ⟨rest9, _, hW, hnc9, hcap9, _⟩ := mout_whole hst.out.out hL.out (by omega)
                      obtain ⟨p0, p1, p2⟩ := ser_whole hW hy.out.1
                      simp only [Sl.val] at p0 p1 p2
                      have f2 := hW.free (idx * 3 + 2)
                      have HW := hidden hW
                      have hyo := hst.out.out.own y (List.mem_of_getElem? hy.out.1)
                      have HYO := hidden hyo
                      have HNS := hidden (fun e => (hst.out.out.out y (List.mem_of_getElem? hy.out.1) g9 rfl).1 (.inr e.symm) : some g9 ≠ y.win.val.ownBlock)
                      have hyn : y.win.n ≤ 1099511627776 := by
                        have h1 := onceW_len (hst.out.tells.wins y.sk (List.mem_map.2 ⟨y, List.mem_of_getElem? hy.out.1, rfl⟩))
                        have h2 := of_len y.sk.1 (pend P x.lab.l x.smp.l (x.win.l.take j))
                        have h3 : ssum (pend P x.lab.l x.smp.l (x.win.l.take j)) = ssum P + (x.smp.l.length + (x.win.l.take j).length) := by unfold pend; rw [ssum_app]; simp [ssum]
                        have h4 : y.sk.2.2.length = y.win.n := HYO.out.lens.2
                        have h6 := HXA.out.smp.2.1
                        have h5 := HSUM.out
                        rw [List.length_take] at h3
                        omega
                      have S1 := fun (W : World) h hb => InsWin.ins_any w.heap.size y.win.n y.win.val y.win.l z W h HYO.out.lens.2 (hst.out.tells.wins y.sk (List.mem_map.2 ⟨y, List.mem_of_getElem? hy.out.1, rfl⟩)).1 hyn hb
                      simp only [Sl.val] at S1
                      have c1 : (j : Int) < (x.win.n : Int) := by omega
                      have c2 : (0 : Int) ≤ (j : Int) := by omega
                      have c3 : (idx : Int) < (l3 : Int) := by omega
                      have c4' : (0 : Int) ≤ (idx : Int) := by omega
                      have hwr := hst.out.below.size
                      have hmj : x.win.n - (j + 1) < x.win.n - j := by omega
                      clear hz hc7 hW hyo
                      go_wp2_with fail
                      go_region_law (go_simp; go_at_call 73; refine (S1 wr.drew HYO.out.win hwr).mono ?_; rintro e w8 ⟨v8, R8, rfl, hO8, hw8, hg8, hv8⟩; obtain ⟨A8, c8, rfl, hc8, hr8⟩ := own_shape hw8; have hW8 := HW.out.drew.grown hg8 HNS.out; have q1 := (ser_whole hW8 hy.out.1).2.2; have f3 := hW8.free (idx * 3 + 2))
                      all_goals
                        go_wp2_with fail
                        go_roundw
                        case rel =>
                          have hg0 := gb_trans (gb_drew (gb_refl wr _)) hg8
                          have hat8 := fun q hq => hv8 q hq
                          have hP8 := hst.out.put_win hL.out hy.out.1 hy.out.2 hO8 hw8 rfl hg0 hat8
                          rw [← HTJ.out] at hP8
                          exact ⟨j + 1, _, _, by go_num, hjs, hidden (by rw [List.length_set]; exact hL.out), hidden hP8, hidden ⟨List.getElem?_set_self (List.getElem?_eq_some_iff.1 hy.out.1).1, hy.out.2⟩, hidden ((hX.out.grown hg0 (fun e => hap.out X (.inr ⟨y, List.mem_of_getElem? hy.out.1, .inr e.symm⟩) rfl)).off (fun e => hap.out g9 (.inl rfl) e.symm) _), hidden (apart_set2 hap.out hX.out.lt (fun q hq => (hq.imp id (hat8 q))) hy.out.1)⟩
                        case measure => simp [intOf]; omega
                    · obtain rfl : j = x.win.n := by omega
                      have hst3 : Hid (RSt b0 w wr (.slice (some ⟨g9, 0, none⟩) l3 c9) L (fulls (allOf (LL.take i) ++ (s.l.take (k + 1)).map Ser.sk))) := hidden (by
                        have := hst.out
                        rw [List.take_of_length_le (by rw [HXA.out.win.2.1]; exact Nat.le_refl _)] at this
                        rw [HFS.out]
                        exact this)
                      clear hst
                      go_wp2_with fail
                      go_roundw
                      case rel => exact ⟨k + 1, _, L, rfl, by go_num, hlk, hst3⟩
                      case measure => simp [intOf]; omega
        · obtain rfl : k = s.n := by omega
          have hst3 : Hid (RSt b0 w wr u3 L (fulls (allOf (LL.take (i + 1))))) := hidden (by
            have := hst.out
            rw [List.take_of_length_le (l := s.l) (by rw [HSAT.out.2.1]; exact Nat.le_refl _)] at this
            have e : allOf (LL.take (i + 1)) = allOf (LL.take i) ++ s.l.map Ser.sk := by
              rw [take_snoc? HS.out]; unfold allOf; simp
            rw [e]
            exact this)
          clear hst
          go_wp2_with fail
          go_roundw
          case rel => exact ⟨i + 1, _, L, rfl, by go_num, by omega, hst3⟩
          case measure => simp [intOf]; omega
    · obtain rfl : i = n := by omega
      have hst3 : Hid (RSt b0 w wr u3 L (fulls (allOf LL))) := hidden (by
        have := hst.out
        rwa [List.take_of_length_le (by rw [HL.out]; exact Nat.le_refl _)] at this)
      clear hst
      go_wp2_with fail
      go_ret
      exact ⟨_, L, rfl, hst3.out⟩
end Go.Proofs.Ytohocdbneopooaa.MR
