/- IndexSorts: the sets stand in order, each once; two indexes are apart; a nil one has nothing. Condition: the arguments' bulk is within the limit. -/
import Derived.Test.YtalnndenncnbdaaGreatPk7d18a958
import Derived.Test.YtalnndenncnbdaaGreatPk3b8a2186
import Derived.Deep.RegionHeld3
namespace Go.Proofs.YtalnndenncnbdaaGreat
set_option maxRecDepth 100000
open Go.RowKit Go.WideShapes Go.ChangeShapes

/-- the numbers, sorted -/
theorem srtE_some (E : List (List Lbl)) : ∃ S, SrtE E S := ⟨stab (ltE E) (upL E.length), stab_perm (swo_ltE E) _, stab_sorted (swo_ltE E) _⟩
theorem srtE_ints {E : List (List Lbl)} {Q : List Int} (h : SrtE E Q) (hE : E.length ≤ 1048576) : Q.length = E.length ∧ ∀ x ∈ Q, inI x :=
  ⟨by have := h.1.length_eq; rw [upL_len] at this; exact this, fun x hx => upL_int hE x (h.1.mem_iff.1 hx)⟩
/-- what comes of a sorting call in the last region -/
def SAns (wr V : World) (n : Nat) (Q : List Int) (q2 : Nat) (u : Value) (e : Ending) (w' : World) : Prop := ∃ A c, e = .returned (.slice A n c) ∧ IntF w' A n Q ∧ Below V.heap.size V w' ∧ Below wr.heap.size wr w' ∧ w'.cell? ⟨q2, 0, none⟩ = some u
theorem sans_of {wr V : World} {E : List (List Lbl)} {Q : List Int} {q2 : Nat} {u : Value} (hQ : SrtE E Q) (hn : E.Nodup) (hE : E.length ≤ 1048576) (hV : Below wr.heap.size wr V) (hc : wr.cell? ⟨q2, 0, none⟩ = some u) {e : Ending} {w' : World}
    (h : ∃ v S, e = .returned v ∧ w'.ownsRow V.heap.size 3 1 v E.length (S.map (Value.int .i64)) ∧ SrtE E S ∧ Below V.heap.size V w') : SAns wr V E.length Q q2 u e w' := by
  obtain ⟨v, S, rfl, ho, hs, hb⟩ := h
  obtain rfl := srtE_ext hs hQ hn
  obtain ⟨h1, h2⟩ := srtE_ints hQ hE
  obtain ⟨A, c, rfl, hf⟩ := intF_own ho h1 (by omega) h2
  have hb2 := hV.trans (hb.mono hV.size)
  exact ⟨A, c, rfl, hf, hb, hb2, (hb2.cell (p := ⟨q2, 0, none⟩) (World.block_lt_of_cell? wr _ hc)).trans hc⟩
set_option maxHeartbeats 6400000 in
theorem indexSorts_any (A B : Option Addr) (N C n c : Nat) (ss ts : List (Sl Lbl)) (w : World) (h : LLb w A N ss) (hl : LLb w B n ts) :
    Calls Tryz.prog 6 #[.slice A N C, .slice B n c] w fun e w' => e = .returned (.bool true) ∧ Below w.heap.size w w' := by
  have S0 := hidden (built_any A N C ss w h)
  have HL := hidden hl
  have hfew := h.few
  have hfew2 := hl.few
  clear h hl
  go_enter Tryz.func6, Tryz.ntmps6
  go_wp2_with fail
  refine S0.out.mono ?_
  rintro e w1 ⟨p, q, E, rfl, hB, hE, b1⟩
  have HB := hidden hB
  have B1 := hidden b1
  have HV := hidden hB.1.valid
  have hE20 : E.length ≤ 1048576 := by omega
  have S1 := hidden (built_any B n c ts w1 (HL.out.on b1))
  clear S0 hB b1 hE HL
  go_wp2_with fail
  refine S1.out.mono ?_
  rintro e w2 ⟨p2, q2, E2, rfl, hB2, hE2, b2⟩
  have HX2 := hidden (HB.out.on b2)
  have HY2 := hidden hB2
  have B2 := hidden (B1.out.trans (b2.mono B1.out.size))
  have HV2 := hidden hB2.1.valid
  have hE220 : E2.length ≤ 1048576 := by omega
  clear S1 hB2 b2 hE2 HB
  generalize w1.heap.size = base2 at *
  clear B1
  go_wp2_with fail
  refine (nil_add _ _ _ _).mono ?_
  rintro e w3 ⟨rfl, rfl⟩
  go_wp2_with fail
  obtain ⟨wq, hwq⟩ : ∃ wq, (w2.alloc (.cells #[.string ⟨#[97]⟩, .string ⟨#[98]⟩] 40)).alloc (.cells #[.string ⟨#[97]⟩, .string ⟨#[98]⟩] 40) = wq := ⟨_, rfl⟩
  have hbq : Below w2.heap.size w2 wq := hwq ▸ ((Below.refl _ _).alloc (Nat.le_refl _) _).alloc (by simp) _
  have hfq : LbF wq (some ⟨w2.heap.size + 1, 0, none⟩) 1 (oneL 98) := by
    have := (lbT_alloc (w2.alloc (.cells #[.string ⟨#[97]⟩, .string ⟨#[98]⟩] 40)) 98).f
    rw [World.size_alloc, hwq] at this
    exact this
  rw [hwq]
  have HBQ := hidden hbq
  have S3 := hidden (nil_find _ 1 1 (oneL 98) wq hfq (Nat.le_refl _))
  clear hbq hfq hwq
  refine S3.out.mono ?_
  rintro e w3 ⟨rfl, b3⟩
  have hb23 := HBQ.out.trans (b3.mono HBQ.out.size)
  have HX3 := hidden (HX2.out.on hb23)
  have HY3 := hidden (HY2.out.on hb23)
  have B3 := hidden (B2.out.trans (hb23.mono B2.out.size))
  clear S3 b3 hb23 HX2 HY2 B2 HBQ
  go_wp2_with fail
  refine (nil_set _).mono ?_
  rintro e w4 ⟨rfl, rfl⟩
  go_wp2_with fail
  refine (wakes14_any _).mono ?_
  rintro e w4 ⟨rfl, b4⟩
  have HX4 := hidden (HX3.out.on b4)
  have HY4 := hidden (HY3.out.on b4)
  have B4 := hidden (B3.out.trans (b4.mono B3.out.size))
  clear b4 HX3 HY3 B3
  go_wp2_with fail
  refine (nil_len _).mono ?_
  rintro e w5 ⟨rfl, rfl⟩
  go_wp2_with fail
  refine (nil_select _ _).mono ?_
  rintro e w5 ⟨rfl, rfl⟩
  go_wp2_with fail
  refine (nil_names _).mono ?_
  rintro e w5 ⟨rfl, rfl⟩
  go_wp2_with fail
  refine (nil_values _ _).mono ?_
  rintro e w5 ⟨rfl, rfl⟩
  go_wp2_with fail
  refine (nil_sorted _).mono ?_
  rintro e w5 ⟨rfl, b5⟩
  have HX5 := hidden (HX4.out.on b5)
  have HY5 := hidden (HY4.out.on b5)
  have B5 := hidden (B4.out.trans (b5.mono B4.out.size))
  have S6 := hidden (idx_sorted w5 HX5.out.1 hE20)
  clear b5 HX4 HY4 B4
  go_wp2_with fail
  refine S6.out.mono ?_
  rintro e w6 ⟨v6, Q6, rfl, ho6, hs6, b6⟩
  have HX6 := hidden (HX5.out.on b6)
  have HY6 := hidden (HY5.out.on b6)
  have B6 := hidden (B5.out.trans (b6.mono B5.out.size))
  have HS6 := hidden hs6
  obtain ⟨A6, c6, rfl, hf6⟩ := intF_own ho6 (by have := hs6.1.length_eq; rw [upL_len] at this; exact this) (by omega) (fun x hx => upL_int hE20 x (hs6.1.mem_iff.1 hx))
  have HF6 := hidden hf6
  clear S6 ho6 hs6 b6 hf6 HX5 HY5 B5
  go_wp2_with fail
  have HST := hidden (HS6.out.strict HV.out.2)
  have HMEM := hidden (fun x (hx : x ∈ Q6) => mem_upL.1 (HS6.out.1.mem_iff.1 hx))
  generalize w6 = wL at *
  go_loopw [20] (fun vi wr => ∃ k : Nat, vi = .int .i64 (k : Int) ∧ 1 ≤ k ∧ k ≤ 1048577 ∧ Hid (Below wL.heap.size wL wr)) (fun vi _ => E.length - (intOf vi).toNat)
  case atStart => exact ⟨1, rfl, Nat.le_refl _, by omega, hidden (Below.refl _ _)⟩
  case round =>
    obtain ⟨k, rfl, hk, hk2, hb⟩ := hrel
    by_cases hlt : k < E.length
    · obtain ⟨r, rfl⟩ : ∃ r, k = r + 1 := ⟨k - 1, by omega⟩
      have k1 : ((r + 1 : Nat) : Int) < (E.length : Int) := by omega
      have k0 : (0 : Int) ≤ ((r + 1 : Nat) : Int) := by omega
      have fwk : IntKind.i64.wrap (((r + 1 : Nat) : Int) + 1) = ((r + 1 : Nat) : Int) + 1 := Go.IntWalk.i64_in _ (by omega)
      have fwr : IntKind.i64.wrap (((r + 1 : Nat) : Int) - 1) = (r : Int) := by rw [IntKind.wrap_i64]; omega
      have r0 : (0 : Int) ≤ (r : Int) := by omega
      have r1 : (r : Int) < (E.length : Int) := by omega
      have HLT := hidden hlt
      obtain ⟨g, o, rfl, _, hc⟩ := ints_at (HF6.out.on hb.out).row (by omega)
      have hql := HF6.out.len
      have c0 := hc r (by omega)
      have c1 := hc (r + 1) (by omega)
      have hm0 := HMEM.out (Q6.getD r 0) (by rw [List.getD_eq_getElem?_getD, List.getElem?_eq_getElem (show r < Q6.length by omega)]; exact List.getElem_mem _)
      have hm1 := HMEM.out (Q6.getD (r + 1) 0) (by rw [List.getD_eq_getElem?_getD, List.getElem?_eq_getElem (show r + 1 < Q6.length by omega)]; exact List.getElem_mem _)
      have hst := List.pairwise_iff_getElem.1 HST.out r (r + 1) (by omega) (by omega) (by omega)
      have hg0 : Q6.getD r 0 = Q6[r]'(by omega) := by rw [List.getD_eq_getElem?_getD, List.getElem?_eq_getElem]; rfl
      have hg1 : Q6.getD (r + 1) 0 = Q6[r + 1]'(by omega) := by rw [List.getD_eq_getElem?_getD, List.getElem?_eq_getElem]; rfl
      rw [← hg0, ← hg1] at hst
      obtain ⟨a, ha⟩ : ∃ a : Nat, Q6.getD r 0 = (a : Int) := ⟨(Q6.getD r 0).toNat, by omega⟩
      obtain ⟨b, hbb⟩ : ∃ b : Nat, Q6.getD (r + 1) 0 = (b : Int) := ⟨(Q6.getD (r + 1) 0).toNat, by omega⟩
      rw [ha] at c0 hm0 hst
      rw [hbb] at c1 hm1 hst
      obtain ⟨la, hla⟩ : ∃ la, E[a]? = some la := ⟨_, List.getElem?_eq_getElem (by omega)⟩
      obtain ⟨lb, hlb⟩ : ∃ lb, E[b]? = some lb := ⟨_, List.getElem?_eq_getElem (by omega)⟩
      have hcmp : cmpLs la lb < 0 := by
        have h1 : cmpLs (getE E (a : Int)) (getE E (b : Int)) < 0 := of_decide_eq_true hst
        rw [getE_at hla, getE_at hlb] at h1
        exact h1
      have HIr := hidden (HX6.out.on hb.out)
      have S1 := hidden (idx_set a wr HIr.out.1 hla (by omega))
      have HLA := hidden (HV.out.1 la (List.mem_of_getElem? hla))
      have HLB := hidden (HV.out.1 lb (List.mem_of_getElem? hlb))
      have HEB := hidden hlb
      have hcn : ¬ 0 ≤ cmpLs la lb := by omega
      clear hc hql hm0 hm1 hst hg0 hg1 ha hbb hla hlb hcmp hlt
      go_wp2_with fail
      refine S1.out.mono ?_
      rintro e w3 ⟨v3, rfl, ho3, b3⟩
      obtain ⟨A3, c3, rfl, hf3, hc3⟩ := lbF_own ho3 HLA.out
      have HF3 := hidden hf3
      have HI3 := hidden (HIr.out.on b3)
      have B3 := hidden (hb.out.trans (b3.mono hb.out.size))
      have S2 := hidden (idx_set b w3 HI3.out.1 HEB.out (by omega))
      have d1 := (b3.cell (p := ⟨g, o + (r + 1), none⟩) (World.block_lt_of_cell? wr _ c1)).trans c1
      clear S1 ho3 b3 hf3 c0 c1 HIr
      go_wp2_with fail
      refine S2.out.mono ?_
      rintro e w4 ⟨v4, rfl, ho4, b4⟩
      obtain ⟨A4, c4, rfl, hf4, hc4⟩ := lbF_own ho4 HLB.out
      have B4 := hidden (B3.out.trans (b4.mono B3.out.size))
      have S3 := hidden (lcmpL A3 A4 la.length lb.length c3 c4 la lb w4 (HF3.out.on b4) hf4)
      clear S2 ho4 b4 hf4 d1 HI3 HF3 B3
      go_wp2_with fail
      refine S3.out.mono ?_
      rintro e w5' ⟨rfl, b5'⟩
      have B5' := hidden (B4.out.trans (b5'.mono B4.out.size))
      clear S3 b5' B4
      go_wp2_with fail
      go_roundw
      case rel => exact ⟨r + 1 + 1, by go_num, by omega, by have := HLT.out; omega, B5'⟩
      case measure => have := HLT.out; simp [intOf]; omega
    · have k1 : ¬ (k : Int) < (E.length : Int) := by omega
      have HXr := hidden (HX6.out.on hb.out)
      have HYr := hidden (HY6.out.on hb.out)
      have HBr := hidden (B6.out.trans (hb.out.mono B6.out.size))
      obtain ⟨sv2, L2, hR2, hLE2⟩ := HYr.out.2
      obtain ⟨As2, cs2, rfl, _, _⟩ := own_shape hR2.sets
      have hL2 : L2.length = E2.length := by rw [← hLE2, List.length_map]
      have d0 := hR2.blk.cell 0
      rw [hL2] at d0
      have d00 := d0
      clear hR2 hLE2 hL2 hb HX6 HY6 B6 HST HMEM HF6 HS6
      go_wp2_with fail
      have d1 : wr.drew.cell? ⟨q2, 0, none⟩ = some (.slice As2 E2.length cs2) := d0
      have b1 : Below wr.heap.size wr wr.drew := (Below.refl _ _).drew
      have SL := hidden (fun V (hV : Below wr.heap.size wr V) => idx_len V (HXr.out.on hV).1)
      have SM := hidden (fun V (hV : Below wr.heap.size wr V) => idx_len V (HYr.out.on hV).1)
      obtain ⟨Q, hQ⟩ := srtE_some E2
      have SS := hidden (fun V (hV : Below wr.heap.size wr V) => (idx_sorted V (HYr.out.on hV).1 hE220).mono fun e w' k => sans_of hQ HV2.out.2 hE220 hV d0 k)
      have SR := hidden (fun V (hV : Below wr.heap.size wr V) => (rsorted14_any V (HYr.out.on hV).2 HV2.out.1 hE220).mono fun e w' k => sans_of hQ HV2.out.2 hE220 hV d0 k)
      have HQ := hidden hQ
      clear d0 hQ
      go_region_held3 (fun w' => w'.cell? ⟨q2, 0, none⟩ = some (.slice As2 E2.length cs2) ∧ Below wr.heap.size wr w') ((go_split_ands; refine ⟨?_, ?_⟩ <;> assumption))
        (first | (go_at_call 26; ((with_reducible refine (SL.out _ (by assumption)).mono ?_); rintro e w8 ⟨rfl, rfl⟩)) | (go_at_call 26; ((with_reducible refine (SM.out _ (by assumption)).mono ?_); rintro e w8 ⟨rfl, rfl⟩)) | (go_at_call 20; ((with_reducible refine (SS.out _ (by assumption)).mono ?_); rintro e wS ⟨AS, cS, rfl, hSf, hSb, hSB, hSc⟩)) | (go_at_call 21; ((with_reducible refine (SR.out _ (by assumption)).mono ?_); rintro e wR ⟨AR, cR, rfl, hRf, hRb, hRB, hRc⟩)) | (go_at_call 19; refine (ints_eq _ _ _ _ _ _ _ (hSf.on hRb) hRf).mono ?_; rintro e w8 ⟨rfl, hib⟩; have hiB := hRB.trans (hib.mono hRB.size); have hic := (hiB.cell (p := ⟨q2, 0, none⟩) (World.block_lt_of_cell? wr _ d00)).trans d00) | (go_at_call 19; refine (ints_eq _ _ _ _ _ _ _ hSf (hRf.on hSb)).mono ?_; rintro e w8 ⟨rfl, hib⟩; have hiB := hSB.trans (hib.mono hSB.size); have hic := (hiB.cell (p := ⟨q2, 0, none⟩) (World.block_lt_of_cell? wr _ d00)).trans d00))
      all_goals
        go_wp2_with fail
        go_ret
        exact ⟨rfl, HBr.out.trans (hiB.mono HBr.out.size)⟩
end Go.Proofs.YtalnndenncnbdaaGreat
