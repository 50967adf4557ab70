/- IndexLists: the names, the values of any name, and the order of the sets are the document's; the lists are new memory. Condition: the arguments' bulk is within the limit. -/
import Derived.Test.YtalnndenncnbdaaGreatPk7d18a958
import Derived.Test.YtalnndenncnbdaaGreatPk81fb0821
import Derived.Test.YtalnndenncnbdaaGreatPk74340dd1
namespace Go.Proofs.YtalnndenncnbdaaGreat
set_option maxRecDepth 100000
open Go.RowKit Go.WideShapes Go.ChangeShapes

theorem texts_eq (A B : Option Addr) (n c1 c2 : Nat) (l : List ByteArray) (w : World) (h1 : TxF w A n l) (h2 : TxF w B n l) :
    Calls Tryz.prog 16 #[.slice A n c1, .slice B n c2] w fun e w' => e = .returned (.bool true) ∧ Below w.heap.size w w' := by
  have H1 := hidden h1
  have H2 := hidden h2
  have hfit := h1.fit
  have hnn : ((n : Int) != (n : Int)) = false := by simp
  clear h1 h2
  go_enter Tryz.func16, Tryz.ntmps16
  go_wp2_with fail
  go_loopw [13] (fun i wr => ∃ q : Nat, q ≤ n ∧ i = .int .i64 q ∧ (∃ m, wr = w.drewN m)) (fun i _ => n - (intOf i).toNat)
  case atStart => exact ⟨0, Nat.zero_le _, rfl, 0, rfl⟩
  case round =>
    obtain ⟨q, hq1, rfl, m, rfl⟩ := hrel
    by_cases hlt : q < n
    · obtain ⟨gs, o, x, rfl, _, hx, hc⟩ := tx_cell H1.out hlt
      obtain ⟨gt, p, y, rfl, _, hy, hd⟩ := tx_cell H2.out hlt
      rw [hx] at hy
      obtain rfl : x = y := Option.some.inj hy
      have c0 : w.cell? ⟨gs, o + q, none⟩ = some (.string x) := hc
      have d0 : w.cell? ⟨gt, p + q, none⟩ = some (.string x) := hd
      have q1 : (q : Int) < (n : Int) := by omega
      have q0 : (0 : Int) ≤ (q : Int) := by omega
      clear hc hd hx hy
      have hxx : (x.toList != x.toList) = false := by simp
      go_wp2_with fail
      go_quiet (fail)
      go_wp2_with fail
      go_roundw
      case rel => exact ⟨q + 1, by omega, by go_num, m + nq, rfl⟩
      case measure => simp [intOf]; omega
    · have q1 : ¬ (q : Int) < (n : Int) := by omega
      go_wp2_with fail
      go_ret
      exact ⟨rfl, below_drewN (Below.refl _ _) m⟩
def encT (x : ByteArray) : List Value := [Value.string x]
theorem encT_k (x : ByteArray) : (encT x).length = 1 := rfl
theorem encT_fm (l : List ByteArray) : l.flatMap encT = l.map Value.string := by
  induction l with
  | nil => rfl
  | cons x l ih => rw [List.flatMap_cons, ih]; rfl
/-- one text was stored in a row of the call's own -/
theorem own_text {w : World} {base n i : Nat} {T : TypeId} {A : Option Addr} {c : Nat} {l : List ByteArray} (h : w.ownsRow base T 1 (.slice A n c) n (l.map Value.string)) (hi : i < n) :
    ∃ g x, A = some ⟨g, 0, none⟩ ∧ base ≤ g ∧ w.cell? ⟨g, i, none⟩ = some (.string x) ∧ w.frozen? ⟨g, i, none⟩ = false ∧ ∀ z, (w.setCell ⟨g, i, none⟩ (.string z)).ownsRow base T 1 (.slice A n c) n ((l.set i z).map Value.string) := by
  rw [← encT_fm] at h
  obtain ⟨g, cap, rest, hv, hgg, hW, hnc, hcap, hlm, hsz⟩ := own_whole_g encT_k h (by omega)
  simp only [Value.slice.injEq, true_and] at hv
  obtain ⟨rfl, rfl⟩ := hv
  rw [Nat.mul_one, Nat.mul_one] at hlm
  obtain ⟨x, hx⟩ : ∃ x, l[i]? = some x := ⟨_, List.getElem?_eq_getElem (by omega)⟩
  refine ⟨g, x, rfl, hgg, ?_, hW.free _, fun z => ?_⟩
  · have := whole_at encT_k hW hx 0 (by omega)
    simpa [encT] using this
  · have hP := puts_elem encT_k hW (i := i) (by omega) z
    rw [Nat.mul_one] at hP
    rw [← encT_fm]
    refine own_of_whole_g encT_k hgg hP hnc hcap (by rw [List.length_set]; exact hlm) ?_
    rw [List.length_append, fm_len encT_k] at hsz ⊢
    rw [List.length_set]
    exact hsz
set_option maxHeartbeats 6400000 in
theorem indexLists_any (A B : Option Addr) (N C n c : Nat) (ss : List (Sl Lbl)) (ns : List ByteArray) (w : World) (h : LLb w A N ss) (hl : TxF w B n ns) (hn : n ≤ 1048576) :
    Calls Tryz.prog 4 #[.slice A N C, .slice B n c] w fun e w' => e = .returned (.bool true) ∧ Below w.heap.size w w' := by
  obtain ⟨iz, hi, hz0, hz1, hz2⟩ := info_parts infoS
  have S0 := hidden (built_any A N C ss w h)
  have HL := hidden hl
  have hfew := h.few
  clear h hl
  go_enter Tryz.func4, Tryz.ntmps4
  go_wp2_with fail
  refine S0.out.mono ?_
  rintro e w1 ⟨p, q, E, rfl, hB, hE, b1⟩
  have HB := hidden hB
  have B1 := hidden b1
  have HV := hidden hB.1.valid
  have hE20 : E.length ≤ 1048576 := by omega
  have hnl := namesE_len HV.out.1
  clear S0 hB b1 hE
  go_wp2_with fail
  refine (wakes14_any _).mono ?_
  rintro e w2 ⟨rfl, b2⟩
  have HB2 := hidden (HB.out.on b2)
  have B2 := hidden (B1.out.trans (b2.mono B1.out.size))
  have S1 := hidden (idx_names w2 HB2.out.1 hE20)
  clear HB B1 b2
  go_wp2_with fail
  refine S1.out.mono ?_
  rintro e w3 ⟨v3, L3, rfl, ho3, hr3, hm3, b3⟩
  have HB3 := hidden (HB2.out.on b3)
  have B3 := hidden (B2.out.trans (b3.mono B2.out.size))
  have S2 := hidden (rnames_any w3 HB3.out.2 HV.out.1 hE20)
  have HO3 := hidden ho3
  have HR3 := hidden (And.intro hr3 hm3)
  clear S1 ho3 hr3 hm3 b3 HB2 B2
  go_wp2_with fail
  refine S2.out.mono ?_
  rintro e w4 ⟨v4, L4, rfl, ho4, hr4, hm4, hl4, b4⟩
  obtain rfl : L3 = L4 := riseB_ext HR3.out.1 hr4 fun x => (HR3.out.2 x).trans (hm4 x).symm
  obtain ⟨A3, c3, rfl, hf3, _⟩ := txF_own (own_below HO3.out b4 (Nat.le_refl _)) (by omega)
  obtain ⟨A4, c4, rfl, hf4, _⟩ := txF_own ho4 (by omega)
  have HB4 := hidden (HB3.out.on b4)
  have B4 := hidden (B3.out.trans (b4.mono B3.out.size))
  have S3 := hidden (texts_eq A3 A4 L3.length c3 c4 L3 w4 hf3 hf4)
  clear S2 ho4 hr4 hm4 hl4 b4 hf3 hf4 HO3 HR3 HB3 B3
  go_wp2_with fail
  refine S3.out.mono ?_
  rintro e w5 ⟨rfl, b5⟩
  have HB5 := hidden (HB4.out.on b5)
  have B5 := hidden (B4.out.trans (b5.mono B4.out.size))
  have S4 := hidden (idx_sorted w5 HB5.out.1 hE20)
  clear S3 b5 HB4 B4
  go_wp2_with fail
  refine S4.out.mono ?_
  rintro e w6 ⟨v6, Q6, rfl, ho6, hs6, b6⟩
  have HB6 := hidden (HB5.out.on b6)
  have B6 := hidden (B5.out.trans (b6.mono B5.out.size))
  have HO6 := hidden ho6
  have HS6 := hidden hs6
  have S5 := hidden (rsorted14_any w6 HB6.out.2 HV.out.1 hE20)
  clear S4 ho6 hs6 b6 HB5 B5
  go_wp2_with fail
  refine S5.out.mono ?_
  rintro e w7 ⟨v7, Q7, rfl, ho7, hs7, b7⟩
  obtain rfl : Q6 = Q7 := srtE_ext HS6.out hs7 HV.out.2
  have HQL := hidden (show Q6.length = E.length from by have := HS6.out.1.length_eq; rw [upL_len] at this; exact this)
  have HQI := hidden (show ∀ x ∈ Q6, inI x from fun x hx => upL_int hE20 x (HS6.out.1.mem_iff.1 hx))
  obtain ⟨A6, c6, rfl, hf6⟩ := intF_own (own_below HO6.out b7 (Nat.le_refl _)) HQL.out (by omega) HQI.out
  obtain ⟨A7, c7, rfl, hf7⟩ := intF_own ho7 HQL.out (by omega) HQI.out
  have HB7 := hidden (HB6.out.on b7)
  have B7 := hidden (B6.out.trans (b7.mono B6.out.size))
  have S6 := hidden (ints_eq A6 A7 E.length c6 c7 Q6 w7 hf6 hf7)
  clear S5 ho7 hs7 b7 hf6 hf7 HO6 HS6 HB6 B6
  go_wp2_with fail
  refine S6.out.mono ?_
  rintro e w8 ⟨rfl, b8⟩
  have HB8 := hidden (HB7.out.on b8)
  have B8 := hidden (B7.out.trans (b8.mono B7.out.size))
  have S7 := hidden (rnames_any w8 HB8.out.2 HV.out.1 hE20)
  clear S6 b8 HB7 B7
  go_wp2_with fail
  refine S7.out.mono ?_
  rintro e w9 ⟨v9, L9, rfl, ho9, hr9, hm9, hl9, b9⟩
  obtain ⟨A9, c9, rfl, _, _⟩ := own_shape ho9
  have HB9 := hidden (HB8.out.on b9)
  have B9 := hidden (B8.out.trans (b9.mono B8.out.size))
  have ho9' := own_more (base' := w.heap.size) ho9 B8.out.size
  have hl9' := HL.out.on B9.out
  have hL9 : L9.length ≤ 8 * 1048576 := by omega
  have hs9 := B9.out.size
  clear S7 ho9 hr9 hm9 hl9 b9 HB8 B8 hnl
  go_wp2_with (at_builtin; refine wpList_app _ rfl _ _ 44 rfl w.heap.size 9 iz _ 1 16 Tryz.underlying44 hi hz0 hz1 hz2 rfl (by decide) _ _ _ rfl ho9' _ _ _ _ _ rfl hl9'.row (by intro u hu; obtain ⟨z, _, rfl⟩ := List.mem_map.1 hu; rfl) (by unfold maxLen; omega) (by omega) (by omega) ?_; intro v10 w10 hown10 hg10 hat10; obtain ⟨A10, c10, rfl, hf10, _⟩ := txF_own (l := L9 ++ ns) (by rw [List.map_append]; exact hown10) (by omega); have HF10 := hidden hf10; have B10 := hidden (B9.out.grown hg10 B9.out.size (fun k hk => (ho9'.lt k hk).1)); have HG10 := hidden hg10; have HO9 := hidden ho9'; clear hf10 hg10 hat10 hown10 ho9')
  have T10 : Turn w.heap.size [9] false w9 w10 := Turn.of_own HO9.out (Nat.le_refl _) (by simp) HG10.out
  have HB10 := hidden (show Both w10 w.heap.size p q E from ⟨HB9.out.1.turn T10 (by decide) (by decide) (by decide) (by decide), HB9.out.2.turn T10 (by decide) (by decide) (by decide)⟩)
  clear T10 HG10 HO9 HB9 B9 hl9'
  obtain ⟨M, hM⟩ : ∃ M, L9 ++ ns = M := ⟨_, rfl⟩
  rw [hM] at HF10
  obtain ⟨m, hm⟩ : ∃ m, L9.length + n = m := ⟨_, rfl⟩
  have hmi : (L9.length : Int) + (n : Int) = (m : Int) := by omega
  rw [hmi, hm]
  rw [hm] at HF10
  have hm20 : m ≤ 9 * 1048576 := by omega
  clear hM hm hmi hL9
  generalize w10 = wL at *
  go_loopw [45] (fun vi wr => ∃ k : Nat, vi = .int .i64 (k : Int) ∧ k ≤ m ∧ Hid (Below wL.heap.size wL wr)) (fun vi _ => m - (intOf vi).toNat)
  case atStart => exact ⟨0, rfl, Nat.zero_le _, hidden (Below.refl _ _)⟩
  case round =>
    obtain ⟨k, rfl, hk, hb⟩ := hrel
    by_cases hlt : k < m
    · have k1 : (k : Int) < (m : Int) := by omega
      have k0 : (0 : Int) ≤ (k : Int) := by omega
      have fwk : IntKind.i64.wrap ((k : Int) + 1) = (k : Int) + 1 := Go.IntWalk.i64_in _ (by omega)
      have HLT := hidden (show k + 1 ≤ m from hlt)
      obtain ⟨g, o, x, rfl, hg, hx, ck⟩ := tx_cell (HF10.out.on hb.out) hlt
      have HBr := hidden (HB10.out.on hb.out)
      have S1 := hidden (idx_values x wr HBr.out.1 hE20)
      clear hx
      go_wp2_with fail
      refine S1.out.mono ?_
      rintro e w3 ⟨v3, L3', rfl, ho3, hr3, hm3, b3⟩
      have HB3 := hidden (HBr.out.on b3)
      have B3 := hidden (hb.out.trans (b3.mono hb.out.size))
      have S2 := hidden (rvalues_any x w3 HB3.out.2 HV.out.1 hE20)
      have HO3 := hidden ho3
      have HR3 := hidden (And.intro hr3 hm3)
      obtain ⟨A3', c3', rfl, _, _⟩ := own_shape ho3
      clear S1 ho3 hr3 hm3 b3 HBr
      go_wp2_with fail
      refine S2.out.mono ?_
      rintro e w4 ⟨v4, L4', rfl, ho4, hr4, hm4, hl4, b4⟩
      obtain rfl : L3' = L4' := riseB_ext HR3.out.1 hr4 fun x => (HR3.out.2 x).trans (hm4 x).symm
      have hvl := valsE_len E x
      have HO4 := hidden (own_below HO3.out b4 (Nat.le_refl _))
      obtain ⟨A3, c3, e3, hf3, _⟩ := txF_own HO4.out (by omega)
      cases e3
      obtain ⟨A4, c4, rfl, hf4, _⟩ := txF_own ho4 (by omega)
      have HB4 := hidden (HB3.out.on b4)
      have B4 := hidden (B3.out.trans (b4.mono B3.out.size))
      have S3 := hidden (texts_eq A3' A4 L3'.length c3' c4 L3' w4 hf3 hf4)
      have HR4 := hidden (And.intro hr4 hm4)
      have hl3 : L3'.length ≤ 1048576 := by omega
      clear S2 ho4 hr4 hm4 hl4 b4 hf3 hf4 HO3 HB3 HR3 hvl
      go_wp2_with fail
      refine S3.out.mono ?_
      rintro e w5 ⟨rfl, b5⟩
      have HB5 := hidden (HB4.out.on b5)
      have B5 := hidden (B4.out.trans (b5.mono B4.out.size))
      have HO5 := hidden (own_below HO4.out b5 (Nat.le_refl _))
      clear S3 b5 HB4 B4 HO4
      go_wp2_with fail
      generalize wr = wa at *
      go_loopw [60] (fun vi wx => ∃ i : Nat, i ≤ L3'.length ∧ vi = .int .i64 i ∧ Hid (w5.grownBy wx (Value.slice A3' L3'.length c3').ownBlock) ∧ Hid (∃ Z : List ByteArray, wx.ownsRow wa.heap.size 9 1 (.slice A3' L3'.length c3') L3'.length (Z.map Value.string))) (fun vi _ => L3'.length - (intOf vi).toNat)
      case atStart => exact ⟨0, Nat.zero_le _, rfl, hidden (gb_refl _ _), hidden ⟨L3', HO5.out⟩⟩
      case round =>
        obtain ⟨i, hil, rfl, hgb, hown⟩ := hrel
        have i0 : (0 : Int) ≤ (i : Int) := by omega
        by_cases hlt2 : i < L3'.length
        · obtain ⟨Z, hown⟩ := hown.out
          obtain ⟨gz, z, rfl, hgz, c0, f0, hset⟩ := own_text hown hlt2
          have i1 : (i : Int) < (L3'.length : Int) := by omega
          have fwi : IntKind.i64.wrap ((i : Int) + 1) = (i : Int) + 1 := Go.IntWalk.i64_in _ (by omega)
          have HOX := hidden (hset ⟨#[109, 97, 114, 107]⟩)
          have HGX := hidden (gb_put hgb.out i (.string ⟨#[109, 97, 114, 107]⟩))
          clear hown hset hgb
          go_wp2_with fail
          go_roundw
          case rel => exact ⟨i + 1, by omega, by go_num, HGX, hidden ⟨_, HOX.out⟩⟩
          case measure => simp [intOf]; omega
        · have hii : i = L3'.length := by omega
          have hid : ¬ (i : Int) < (L3'.length : Int) := by omega
          have BX := hidden (B5.out.grown hgb.out B5.out.size (fun q hq => Nat.le_trans hb.out.size (HO5.out.lt q hq).1))
          have HBX := hidden (HB10.out.on BX.out)
          have S4 := hidden (idx_values x wr HBX.out.1 hE20)
          clear hown hgb hii
          go_wp2_with fail
          refine S4.out.mono ?_
          rintro e w6 ⟨v6, L6, rfl, ho6, hr6, hm6, b6⟩
          have HB6 := hidden (HBX.out.on b6)
          have B6 := hidden (BX.out.trans (b6.mono BX.out.size))
          have S5 := hidden (rvalues_any x w6 HB6.out.2 HV.out.1 hE20)
          have HO6 := hidden ho6
          have HR6 := hidden (And.intro hr6 hm6)
          clear S4 ho6 hr6 hm6 b6 HBX BX
          go_wp2_with fail
          refine S5.out.mono ?_
          rintro e w7 ⟨v7, L7, rfl, ho7, hr7, hm7, hl7, b7⟩
          obtain rfl : L6 = L7 := riseB_ext HR6.out.1 hr7 fun x => (HR6.out.2 x).trans (hm7 x).symm
          have hvl := valsE_len E x
          obtain ⟨A6, c6, rfl, hf6, _⟩ := txF_own (own_below HO6.out b7 (Nat.le_refl _)) (by omega)
          obtain ⟨A7, c7, rfl, hf7, _⟩ := txF_own ho7 (by omega)
          have B7 := hidden (B6.out.trans (b7.mono B6.out.size))
          have S6 := hidden (texts_eq A6 A7 L6.length c6 c7 L6 w7 hf6 hf7)
          clear S5 ho7 hr7 hm7 hl7 b7 hf6 hf7 HO6 HB6 HR6 hvl B6
          go_wp2_with fail
          refine S6.out.mono ?_
          rintro e w8 ⟨rfl, b8⟩
          have B8 := hidden (B7.out.trans (b8.mono B7.out.size))
          clear S6 b8 B7
          go_wp2_with fail
          go_roundw
          case rel => exact ⟨k + 1, by go_num, HLT.out, B8⟩
          case measure => have := HLT.out; simp [intOf]; omega
    · obtain rfl : m = k := by omega
      go_wp2_with fail
      go_ret
      exact ⟨rfl, B10.out.trans (hb.out.mono B10.out.size)⟩
end Go.Proofs.YtalnndenncnbdaaGreat
