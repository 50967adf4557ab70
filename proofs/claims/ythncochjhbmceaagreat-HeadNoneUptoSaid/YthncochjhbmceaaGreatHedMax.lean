/- head.Max, and Raw's samples counted, walked. Condition: the head is one. -/
import Derived.Test.YthncochjhbmceaaGreatHedRaw
import Derived.Test.YthncochjhbmceaaGreatHedNew
import Derived.Test.YthncochjhbmceaaGreatHedApM
namespace Go.Proofs.YthncochjhbmceaaGreat
set_option maxRecDepth 100000
open Go.RowKit

def maxL (l : List Int) : Int := l.foldl (fun a b => max a b) (-1)
theorem maxL_snoc (l : List Int) (x : Int) : maxL (l ++ [x]) = max (maxL l) x := by simp [maxL]
set_option maxHeartbeats 3200000 in
theorem hed_max (w : World) {base h : Nat} {E : List (List Lbl)} {X : List HsR} (hh : Hed w base h E X) (hE : E.length ≤ 1048576) :
    Calls Tryz.prog 15 #[.pointer (some ⟨h, 0, none⟩)] w fun e w' => e = .returned (.int .i64 (maxL (X.map HsR.mx))) ∧ Below w.heap.size w w' := by
  have S1 := hidden (hed_len w hh)
  obtain ⟨ip, sv, hh⟩ := hh
  have HH := hidden hh
  have hXE := hh.len
  obtain ⟨As, cs, rfl, _, hrow⟩ := own_shape hh.row
  rw [List.map_eq_flatMap] at hrow
  have HROW := hidden hrow
  have ch1 := hh.blk.cell 1
  rw [hXE] at ch1
  have HXE := hidden hXE
  clear hh hrow hXE
  go_enter Tryz.func15, Tryz.ntmps15
  go_wp2_with fail
  refine S1.out.mono ?_
  rintro e w1 ⟨rfl, rfl⟩
  go_wp2_with fail
  go_loopw [3, 7] (fun vm vi wr => ∃ k : Nat, vi = .int .i64 (k : Int) ∧ k ≤ E.length ∧ vm = .int .i64 (maxL ((X.take k).map HsR.mx)) ∧ wr = w1) (fun _ vi _ => E.length - (intOf vi).toNat)
  case atStart => exact ⟨0, rfl, Nat.zero_le _, rfl, rfl⟩
  case round =>
    obtain ⟨k, rfl, hk, rfl, rfl⟩ := hrel
    have k0 : (0 : Int) ≤ (k : Int) := by omega
    by_cases hlt : k < E.length
    · have k1 : (k : Int) < (E.length : Int) := by omega
      have fwk : IntKind.i64.wrap ((k : Int) + 1) = (k : Int) + 1 := Go.IntWalk.i64_in _ (by omega)
      obtain ⟨gs, os, x, rfl, _, hx, hcx⟩ := row_at (enc := fun x : HsR => [x.ptr]) (k := 1) (fun _ => rfl) HROW.out rfl k (by rw [HXE.out]; exact hlt)
      have hxb := (HH.out.at_ x (List.mem_of_getElem? hx)).blk
      have hms := maxL_snoc ((X.take k).map HsR.mx) x.mx
      have htk := take_snoc? hx
      obtain ⟨xb, xmx, xgv, xgo, xsv, xsm⟩ := x
      have xc0 := hxb.cell 0
      have cx0 := hcx 0 (by omega)
      simp only [HsR.ptr, HsR.cells, List.getElem?_cons_zero, Nat.add_zero, Nat.mul_one] at cx0 xc0
      have HTK := hidden htk
      have HMS := hidden hms
      generalize maxL ((X.take k).map HsR.mx) = m at *
      clear hxb hcx htk hms hx
      go_wp2_with fail
      refine ⟨⟨k + 1, by simp, hlt, ?_, trivial⟩, ?_⟩
      · rw [HTK.out, List.map_append, List.map_singleton]
        simp only [HMS.out]
      · simp only [intOf]; omega
    · obtain rfl : E.length = k := by omega
      have hX : (X.take E.length).map HsR.mx = X.map HsR.mx := by rw [List.take_of_length_le (by rw [HXE.out]; exact Nat.le_refl _)]
      rw [hX]
      clear hX
      go_wp2_with fail
      go_ret
      exact ⟨rfl, Below.refl _ _⟩
/-- how many samples these series have -/
def sumS (L : List Ser) : Nat := (L.map fun x => x.smp.l.length).sum
theorem sumS_snoc (L : List Ser) (x : Ser) : sumS (L ++ [x]) = sumS L + x.smp.l.length := by simp [sumS]
theorem sumS_q (L : List Ser) : sumS L = ((L.map Ser.q).map fun q => q.2.length).sum := by
  unfold sumS
  rw [List.map_map]
  rfl
theorem keepP_nil (s : List Smp) : keepP [] s = s := by
  unfold keepP
  rw [List.filter_eq_self]
  intro x _
  rfl
theorem sum_full : ∀ (l : List (List Lbl × List Smp)), ((l.filter fullP).map fun q => q.2.length).sum = (l.map fun q => q.2.length).sum
  | [] => rfl
  | q :: l => by
    have ih := sum_full l
    by_cases h : fullP q = true
    · rw [List.filter_cons_of_pos h, List.map_cons, List.map_cons, List.sum_cons, List.sum_cons, ih]
    · rw [List.filter_cons_of_neg h, List.map_cons, List.sum_cons, ih]
      have : ¬ 0 < q.2.length := fun e => h (decide_eq_true e)
      omega
/-- all samples of a head that plans made are told -/
theorem rawL_sum : ∀ (E : List (List Lbl)) (S : List SerP), S.length = E.length → (∀ s ∈ S, s.gone = []) → ((rawL E S).map fun q => q.2.length).sum = cntP S := by
  intro E S hl hg
  unfold rawL
  rw [sum_full, List.map_map]
  have : (E.zip S).map ((fun q : List Lbl × List Smp => q.2.length) ∘ toldP) = S.map fun s => s.sm.length := by
    have h1 : (E.zip S).map (fun p : List Lbl × SerP => p.2) = S := List.map_snd_zip (by omega)
    have h2 : ∀ p ∈ E.zip S, ((fun q : List Lbl × List Smp => q.2.length) ∘ toldP) p = (fun p : List Lbl × SerP => p.2.sm.length) p := fun p hp => by
      have hm : p.2 ∈ S := by rw [← h1]; exact List.mem_map.2 ⟨p, hp, rfl⟩
      show (keepP p.2.gone p.2.sm).length = _
      rw [hg _ hm, keepP_nil]
    rw [List.map_congr_left h2]
    conv => rhs; rw [← h1]
    rw [List.map_map]
    rfl
  rw [this]
  rfl
set_option maxHeartbeats 3200000 in
/-- how many samples Raw tells -/
theorem total_any (w : World) {base h : Nat} {E : List (List Lbl)} {X : List HsR} (hh : Hed w base h E X) (hbase : base ≤ w.heap.size) (hI : HInv (X.map HsR.p)) (hC : cntP (X.map HsR.p) ≤ 1048576) (hE : E.length ≤ 1048576) :
    Calls Tryz.prog 10 #[.pointer (some ⟨h, 0, none⟩)] w fun e w' => e = .returned (.int .i64 (cntP (X.map HsR.p) : Int)) ∧ Below w.heap.size w w' := by
  have hXE : X.length = E.length := by obtain ⟨_, _, k⟩ := hh; exact k.len
  have S1 := hidden (hed_raw w hh hbase ⟨fun s hs => ⟨fun x hx => ⟨(hI.sm s hs x hx).1, Int.le_trans (hI.sm s hs x hx).2.1 (hI.mx s hs).2⟩, Nat.le_trans (sm_le_cnt hs) hC⟩, fun s hs => by rw [hI.gone s hs]; simp⟩ hE)
  have HS := hidden (rawL_sum E (X.map HsR.p) (by rw [List.length_map]; exact hXE) hI.gone)
  obtain ⟨N, hN⟩ : ∃ N, cntP (X.map HsR.p) = N := ⟨_, rfl⟩
  rw [hN] at hC ⊢
  have HN := hidden hN
  clear hh hI hXE hN
  go_enter Tryz.func10, Tryz.ntmps10
  go_wp2_with fail
  refine S1.out.mono ?_
  rintro e w1 ⟨v, L, rfl, ho, hp, _, b1⟩
  have hsum : sumS L = N := by rw [sumS_q, ← HN.out, ← HS.out]; exact (hp.map _).sum_nat
  have hLl : L.length ≤ E.length := by
    have h1 := hp.length_eq
    rw [List.length_map] at h1
    have h2 : (rawL E (X.map HsR.p)).length ≤ ((E.zip (X.map HsR.p)).map toldP).length := List.length_filter_le _ _
    rw [List.length_map, List.length_zip] at h2
    omega
  have HO := hidden ho
  have HB := hidden b1
  have HSM := hidden hsum
  obtain ⟨Av, cv, rfl, _, hrow⟩ := own_shape ho.row
  have HR := hidden hrow
  clear S1 ho hp b1 hsum hrow
  go_wp2_with fail
  go_loopw [3, 9] (fun vn vi wr => ∃ k : Nat, vi = .int .i64 (k : Int) ∧ k ≤ L.length ∧ vn = .int .i64 (sumS (L.take k) : Int) ∧ Hid (Below w1.heap.size w1 wr)) (fun _ vi _ => L.length - (intOf vi).toNat)
  case atStart => exact ⟨0, rfl, Nat.zero_le _, rfl, hidden (Below.refl _ _)⟩
  case round =>
    obtain ⟨k, rfl, hk, rfl, hb⟩ := hrel
    have k0 : (0 : Int) ≤ (k : Int) := by omega
    by_cases hlt : k < L.length
    · have k1 : (k : Int) < (L.length : Int) := by omega
      obtain ⟨gs, os, x, hAv, _, hx, hc⟩ := row_at (enc := Ser.cells) (k := 3) (fun _ => rfl) (HR.out.below hb.out) rfl k hlt
      subst hAv
      have hxl := (HO.out.smp x (List.mem_of_getElem? hx)).2
      have hsn := sumS_snoc (L.take k) x
      rw [← take_snoc? hx] at hsn
      have hle : sumS (L.take (k + 1)) ≤ N := by
        have h2 : sumS L = sumS (L.take (k + 1)) + sumS (L.drop (k + 1)) := by
          unfold sumS
          rw [← List.sum_append, ← List.map_append, List.take_append_drop]
        have := HSM.out
        omega
      have c0 := hc 0 (by omega)
      have c1 := hc 1 (by omega)
      have c2 := hc 2 (by omega)
      obtain ⟨⟨lA, lN, lC, ll⟩, ⟨sA, sN, sC, sl⟩, ⟨wA, wN, wC, wl⟩⟩ := x
      simp only [Ser.cells, Sl.val, List.getElem?_cons_zero, List.getElem?_cons_succ, Nat.add_zero] at c0 c1 c2 hxl hsn
      rw [hxl] at hsn
      have HB4 := hidden (hb.out.alloc hb.out.size (.cells #[.slice lA lN lC, .slice sA sN sC, .slice wA wN wC] 73))
      have d1 := (Whole1.new wr 73 #[.slice lA lN lC, .slice sA sN sC, .slice wA wN wC]).cell 1
      have fwk : IntKind.i64.wrap ((k : Int) + 1) = (k : Int) + 1 := Go.IntWalk.i64_in _ (by omega)
      obtain ⟨M, hM⟩ : ∃ M, sumS (L.take k) = M := ⟨_, rfl⟩
      rw [hM] at hsn ⊢
      have fws : IntKind.i64.wrap ((M : Int) + (sN : Int)) = (M : Int) + (sN : Int) := Go.IntWalk.i64_in _ (by omega)
      have HSN := hidden hsn
      have HLT := hidden (show k + 1 ≤ L.length from hlt)
      clear hc hx hxl hsn hle hM hb
      go_wp2_with fail
      refine ⟨⟨k + 1, by simp, HLT.out, ?_, HB4⟩, ?_⟩
      · rw [HSN.out]; simp
      · simp only [intOf]; omega
    · obtain rfl : L.length = k := by omega
      have hX : sumS (L.take L.length) = N := by rw [List.take_of_length_le (Nat.le_refl _)]; exact HSM.out
      rw [hX]
      clear hX
      have HF := hidden (HB.out.trans (hb.out.mono HB.out.size))
      go_wp2_with fail
      go_ret
      exact ⟨rfl, HF.out⟩
end Go.Proofs.YthncochjhbmceaaGreat
