/- The document's reader of patterns: a class, walked. Condition: the tree is one, nothing has failed. -/
import Derived.Test.YthncochjhbmceaaGreatPk8db17d42
import Derived.Test.YthncochjhbmceaaGreatPkcf5fb110
namespace Go.Proofs.YthncochjhbmceaaGreat
set_option maxRecDepth 100000
open Go.RowKit

/-- a node's cells: its set is this one -/
def NdF (cs : Array Value) (F : Nat → Bool) : Prop := cs.size = 259 ∧ (∀ u ∈ cs.toList, u.oneCell' = true) ∧ ∀ b < 256, cs[1 + b]? = some (.bool (F b))
theorem NdF.set {cs : Array Value} {F : Nat → Bool} (h : NdF cs F) {b : Nat} (hb : b < 256) (v : Bool) : NdF (cs.setIfInBounds (1 + b) (.bool v)) (fun x => if x = b then v else F x) := by
  obtain ⟨h1, h2, h3⟩ := h
  refine ⟨by simpa using h1, fun u hu => ?_, fun x hx => ?_⟩
  · obtain ⟨i, hi, rfl⟩ := List.mem_iff_getElem.1 hu
    rw [Array.length_toList, Array.size_setIfInBounds] at hi
    rw [Array.getElem_toList, Array.getElem_setIfInBounds]
    · split
      · rfl
      · exact h2 _ (by rw [← Array.getElem_toList]; exact List.getElem_mem _)
    · exact hi
  · rw [Array.getElem?_setIfInBounds]
    by_cases e : x = b
    · subst e
      simp [h1]
      omega
    · rw [if_neg (by omega), h3 x hx]
      simp [e]
theorem NdF.ext {cs : Array Value} {F G : Nat → Bool} (h : NdF cs F) (k : ∀ b < 256, F b = G b) : NdF cs G := ⟨h.1, h.2.1, fun b hb => by rw [h.2.2 b hb, k b hb]⟩
/-- a class under way -/
structure ClR (base T X : Nat) (nv : Value) (s : ByteArray) (n d : Nat) (w0 w : World) (F : Nat → Bool) (i f : Nat) : Prop where
  tr : TrV w base T nv s n i d f
  nd : ∃ cs, Whole1 w X 286 cs ∧ NdF cs F
  turn : TT base w0 w
section
variable {base T X n d i f i' f' : Nat} {nv : Value} {s : ByteArray} {w0 w w' : World} {F : Nat → Bool}
theorem ClR.tree (h : ClR base T X nv s n d w0 w F i f) (ht : TrV w' base T nv s n i' d f') (k : TB base w w') : ClR base T X nv s n d w0 w' F i' f' := by
  obtain ⟨cs, h1, h2⟩ := h.nd
  exact ⟨ht, ⟨cs, k.whole h1 (.inr (by decide)), h2⟩, h.turn.trans (k.wider (Nat.le_refl _) (by simp) (by simp))⟩
theorem ClR.quiet (h : ClR base T X nv s n d w0 w F i f) (k : Below w.heap.size w w') : ClR base T X nv s n d w0 w' F i f :=
  h.tree (h.tr.on k) (Turn.of_below k _ _ _)
theorem ClR.ext {G : Nat → Bool} (h : ClR base T X nv s n d w0 w F i f) (k : ∀ b < 256, F b = G b) : ClR base T X nv s n d w0 w G i f := by
  obtain ⟨cs, h1, h2⟩ := h.nd
  exact ⟨h.tr, ⟨cs, h1, h2.ext k⟩, h.turn⟩
theorem ClR.put (h : ClR base T X nv s n d w0 w F i f) (hX : base ≤ X) (hv : nv.ownBlock ≠ some X) {b : Nat} (hb : b < 256) (v : Bool) : ClR base T X nv s n d w0 (w.setCell ⟨X, 1 + b, none⟩ (.bool v)) (fun x => if x = b then v else F x) i f := by
  obtain ⟨cs, h1, h2⟩ := h.nd
  have hne : X ≠ T := fun e => by
    subst e
    have h3 : w.heap[X]? = _ := h1
    rw [show w.heap[X]? = _ from h.tr.blk] at h3
    simp at h3
  exact ⟨h.tr.grown (gb_put (gb_refl w _) (1 + b) (.bool v)) hne hv, ⟨_, h1.put (1 + b) (.bool v), h2.set hb v⟩, h.turn.trans (Turn.put h1 hX (by simp) _ _)⟩
theorem ClR.cell (h : ClR base T X nv s n d w0 w F i f) {b : Nat} (hb : b < 256) : w.cell? ⟨X, 1 + b, none⟩ = some (.bool (F b)) ∧ w.frozen? ⟨X, 1 + b, none⟩ = false := by
  obtain ⟨cs, h1, h2⟩ := h.nd
  exact ⟨by rw [h1.cell]; exact h2.2.2 b hb, h1.free _⟩
end
/-- the first q turned, if they are to be -/
def flipF (tn : Bool) (F : Nat → Bool) (q : Nat) (b : Nat) : Bool := if b < q then (F b != tn) else F b
theorem any_zero {B : BS} (h : B.fit) (tn : Bool) : (if tn then B.not else B).isZero = !((List.range 256).any fun b => (B.has b != tn)) := by
  have hf : (if tn then B.not else B).fit := by
    cases tn with
    | true => exact BS.notN_four B ▸ BS.notN_fit h 4
    | false => exact h
  have hh : ∀ b < 256, (if tn then B.not else B).has b = (B.has b != tn) := fun b hb => by
    cases tn with
    | true => simp [BS.has_not h b hb]
    | false => simp
  rw [Bool.eq_iff_iff, BS.zero_iff hf, Bool.not_eq_true', List.any_eq_false]
  constructor
  · intro k b hb
    rw [← hh b (List.mem_range.1 hb), k b (List.mem_range.1 hb)]
    simp
  · intro k b hb
    rw [hh b hb]
    simpa using k b (List.mem_range.2 hb)
/-- the class was read -/
def ClassAns (base T X : Nat) (nv : Value) (s : ByteArray) (n i d : Nat) (w : World) (x : Ending) (w' : World) : Prop :=
  ∃ i' f' F, x = .returned (.tuple #[]) ∧ ClR base T X nv s n d w w' F i' f' ∧ i ≤ i' ∧ i' ≤ s.size + 1 ∧ f' ≤ 1000 ∧ Res 0 (classP s.data.toList i) (fun _ j => i' = j) f'
set_option maxHeartbeats 6400000 in
theorem rclass_any (base T X : Nat) (nv : Value) (s : ByteArray) (n i d : Nat) (w : World) (h : TrV w base T nv s n i d 0) (cs : Array Value) (hx : Whole1 w X 286 cs) (hcs : NdF cs BS.zero.has) (hX : base ≤ X) (hv : nv.ownBlock ≠ some X) (hs : s.size ≤ 64) (hi : i ≤ s.size) :
    Calls Tryz.prog 223 #[.pointer (some ⟨T, 0, none⟩), .pointer (some ⟨X, 0, none⟩)] w (ClassAns base T X nv s n i d w) := by
  have S1 := hidden (rnext_any base T nv s n i d 0 w h hs (by omega) (by omega))
  have HC0 := hidden (show ClR base T X nv s n d w w BS.zero.has i 0 from ⟨h, ⟨cs, hx, hcs⟩, Turn.refl _ _ _ _⟩)
  obtain ⟨l, hl⟩ : ∃ l, s.data.toList = l := ⟨_, rfl⟩
  have hsl : l.length = s.size := by rw [← hl]; rfl
  obtain ⟨RR, hRR⟩ : ∃ RR, classP s.data.toList i = RR := ⟨_, rfl⟩
  have eE := class_end s.data.toList i
  rw [hRR, hl, hsl] at eE
  have HL := hidden hl
  have HRR := hidden hRR
  have hT : (nextB s i 0 == 94) = decide (i < s.size ∧ byteN l i = 94) := by
    rw [← hl, Bool.eq_iff_iff, beq_iff_eq, decide_eq_true_iff]
    by_cases h1 : i < s.size
    · rw [nextB_ok h1]
      omega
    · rw [nextB_end (.inr (by omega))]
      omega
  obtain ⟨tn, htn⟩ : ∃ tn, decide (i < s.size ∧ byteN l i = 94) = tn := ⟨_, rfl⟩
  rw [htn] at hT eE
  have HTN := hidden htn
  have HE := hidden eE.symm
  obtain ⟨nb, hnb⟩ : ∃ nb, nextB s i 0 = nb := ⟨_, rfl⟩
  rw [hnb] at S1 hT
  clear h hx hcs hl hRR eE htn hnb
  go_enter Tryz.func223, Tryz.ntmps223
  go_wp2_with fail
  refine S1.out.mono ?_
  rintro e w1 ⟨rfl, q1, rfl⟩
  have HC1 := hidden (HC0.out.quiet (below_drewN (Below.refl _ _) q1))
  generalize w.drewN q1 = w1 at *
  clear S1 HC0
  go_upto_if 15 with (fail)
  go_cut [] (fun wx => Hid (ClR base T X nv s n d w wx BS.zero.has (if tn then i + 1 else i) 0))
  case first =>
    obtain ⟨c1, c2, c3, c4, fr⟩ := HC1.out.tr.c
    have f2 := fr 2
    have fw : IntKind.i64.wrap ((i : Int) + 1) = (i : Int) + 1 := Go.IntWalk.i64_in _ (by omega)
    cases tn with
    | true =>
      have HS := hidden (HC1.out.tr.store 2 (.int .i64 ((i : Int) + 1)) (i + 1) d 0 (.inl ⟨rfl, moved i, rfl, rfl⟩))
      have HX := hidden (HC1.out.tree HS.out.1 HS.out.2)
      clear c1 c3 c4 fr HS
      go_wp2_with fail
      go_meet
      exact HX
    | false =>
      clear c1 c3 c4 fr
      go_wp2_with fail
      go_meet
      exact HC1
  case rest =>
    have HC2 := hidden hcut.out
    clear hcut HC1
    obtain ⟨i1, hi1⟩ : ∃ i1, (if tn = true then i + 1 else i) = i1 := ⟨_, rfl⟩
    have hi1s : i1 ≤ s.size := by
      rw [← hi1]
      cases tn with
      | true => have := (of_decide_eq_true HTN.out).1; simp; omega
      | false => simp; omega
    have HI1 := hidden (show i ≤ i1 from by rw [← hi1]; split <;> omega)
    rw [hi1] at HC2 HE
    clear hi1 hT
    go_wp2_with fail
    go_loopg [5, 6] (s.size + 3) (fun kk vn vf wr => ∃ (fu j m : Nat) (B : BS) (fl : Bool) (f : Nat), vn = .int .i64 (m : Int) ∧ vf = .bool fl ∧ j ≤ s.size ∧ (f = 0 → s.size < j + fu) ∧ (if f = 0 then fu + 1 else fu) ≤ kk ∧ m ≤ j + f ∧ i ≤ j ∧ f ≤ 1000 ∧ B.fit ∧ Hid (ClR base T X nv s n d w wr B.has j f) ∧ Hid (f = 0 → endC tn (itemsP l fu j B m fl) = RR) ∧ Hid (f ≠ 0 → RR = .bad f))
    case atStart => exact ⟨s.size + 1, i1, 0, .zero, false, 0, rfl, rfl, hi1s, fun _ => by omega, by simp, Nat.zero_le _, HI1.out, by omega, BS.zero_fit, HC2, hidden fun _ => HE.out, hidden fun h => absurd rfl h⟩
    case round =>
      obtain ⟨fu, j, m, B, fl, f, rfl, rfl, hjs, hfu, hfk, hmj, hij, hf1, hB, hcl, hE, hE2⟩ := hrel
      clear HC2 HE HI1
      obtain ⟨c1, c2, c3, c4, fr⟩ := hcl.out.tr.c
      clear c1 c2 c3 fr
      by_cases hf : f = 0
      · subst hf
        have S1 := hidden (rnext_any base T nv s n j d 0 wr hcl.out.tr hs (by omega) (by omega))
        obtain ⟨fu, rfl⟩ : ∃ fu', fu = fu' + 1 := ⟨fu - 1, by have := hfu rfl; omega⟩
        have HE0 := hidden (hE.out rfl)
        have HFU := hidden (hfu rfl)
        have HFK := hidden (show fu + 1 + 1 ≤ gk from by simpa using hfk)
        clear hE hE2 hfu hfk
        by_cases hend : j < s.size ∧ byteN l j = 93
        · have hnx : nextB s j 0 = 93 := by rw [nextB_ok hend.1, HL.out, hend.2]; rfl
          rw [hnx] at S1
          have HEX := hidden (show endC tn (.ok (B, m, fl) (j + 1)) = RR from by rw [← HE0.out, items_end l (by rw [hsl]; exact hend)])
          clear hnx hend
          go_wp2_with fail
          refine S1.out.mono ?_
          rintro e w2 ⟨rfl, q2, rfl⟩
          have HC3 := hidden (hcl.out.quiet (below_drewN (Below.refl _ _) q2))
          generalize wr.drewN q2 = w2 at *
          clear S1 hcl
          clear c4
          have hbf := hB
          obtain ⟨c1, c2, c3, c4, fr⟩ := HC3.out.tr.c
          have f2 := fr 2
          have fw : IntKind.i64.wrap ((j : Int) + 1) = (j : Int) + 1 := Go.IntWalk.i64_in _ (by omega)
          have HSX := hidden (HC3.out.tr.store 2 (.int .i64 ((j : Int) + 1)) (j + 1) d 0 (.inl ⟨rfl, moved j, rfl, rfl⟩))
          have HC4 := hidden (HC3.out.tree HSX.out.1 HSX.out.2)
          clear c1 c3 fr HC3 HSX
          go_wp2_with fail
          clear c2 c4 f2
          generalize w2.setCell ⟨T, 2, none⟩ (.int .i64 ((j : Int) + 1)) = w4 at *
          go_loopw [10, 11] (fun va vq wr => ∃ q : Nat, vq = .int .i64 (q : Int) ∧ q ≤ 256 ∧ va = .bool ((List.range q).any fun b => (B.has b != tn)) ∧ Hid (ClR base T X nv s n d w wr (flipF tn B.has q) (j + 1) 0)) (fun _ vq _ => 256 - (intOf vq).toNat)
          case atStart => exact ⟨0, rfl, by omega, rfl, hidden (HC4.out.ext fun b _ => rfl)⟩
          case round =>
            obtain ⟨q, rfl, hq, rfl, hcq⟩ := hrel
            clear HC4
            by_cases hlq : q < 256
            · have q0 : (0 : Int) ≤ (q : Int) := by omega
              have q1 : (q : Int) < 256 := by omega
              have fwq : IntKind.i64.wrap ((q : Int) + 1) = (q : Int) + 1 := Go.IntWalk.i64_in _ (by omega)
              have HLQ := hidden hlq
              have hany : (List.range (q + 1)).any (fun b => (B.has b != tn)) = ((List.range q).any (fun b => (B.has b != tn)) || (B.has q != tn)) := by rw [List.range_succ, List.any_append]; simp
              have HANY := hidden hany
              have hfq : flipF tn B.has q q = B.has q := if_neg (Nat.lt_irrefl q)
              obtain ⟨d0, e0⟩ := hcq.out.cell hlq
              rw [hfq] at d0
              generalize (List.range q).any (fun b => (B.has b != tn)) = an at *
              clear hany hfq hlq
              cases tn with
              | true =>
                have HCP := hidden ((hcq.out.put hX hv HLQ.out (!B.has q)).quiet ((Below.refl _ _).drew))
                have d1 : wr.drew.cell? ⟨X, 1 + q, none⟩ = some (.bool (B.has q)) := d0
                have e1 : wr.drew.frozen? ⟨X, 1 + q, none⟩ = false := e0
                clear d0 e0
                go_wp2_with fail
                go_region
                have d2 := (HCP.out.cell HLQ.out).1
                rw [if_pos rfl] at d2
                generalize (wr.setCell ⟨X, 1 + q, none⟩ (.bool (!B.has q))).drew = w5 at *
                clear d1 e1
                have HNX := hidden (HCP.out.ext (G := flipF true B.has (q + 1)) fun b hb => by
                  unfold flipF
                  by_cases e : b = q
                  · subst e; simp
                  · rw [if_neg e]
                    by_cases e2 : b < q
                    · rw [if_pos e2, if_pos (by omega)]
                    · rw [if_neg e2, if_neg (by omega)])
                have HAN := hidden (show (List.range (q + 1)).any (fun b => (B.has b != true)) = (an || !B.has q) from by rw [HANY.out]; cases B.has q <;> rfl)
                clear HCP HANY
                cases an with
                | true =>
                  go_wp2_with fail
                  go_roundw
                  case rel => exact ⟨q + 1, by go_num, HLQ.out, by rw [HAN.out]; rfl, HNX⟩
                  case measure => have := HLQ.out; simp [intOf]; omega
                | false =>
                  go_wp2_with fail
                  go_roundw
                  case rel => exact ⟨q + 1, by go_num, HLQ.out, by rw [HAN.out, Bool.false_or], HNX⟩
                  case measure => have := HLQ.out; simp [intOf]; omega
              | false =>
                have HNX := hidden (hcq.out.ext (G := flipF false B.has (q + 1)) fun b hb => by
                  unfold flipF
                  by_cases e2 : b < q
                  · rw [if_pos e2, if_pos (by omega)]
                  · rw [if_neg e2]
                    by_cases e3 : b < q + 1
                    · rw [if_pos e3]; simp
                    · rw [if_neg e3])
                have HAN := hidden (show (List.range (q + 1)).any (fun b => (B.has b != false)) = (an || B.has q) from by rw [HANY.out]; cases B.has q <;> rfl)
                clear HANY
                cases an with
                | true =>
                  go_wp2_with fail
                  go_roundw
                  case rel => exact ⟨q + 1, by go_num, HLQ.out, by rw [HAN.out]; rfl, HNX⟩
                  case measure => have := HLQ.out; simp [intOf]; omega
                | false =>
                  go_wp2_with fail
                  go_roundw
                  case rel => exact ⟨q + 1, by go_num, HLQ.out, by rw [HAN.out, Bool.false_or], HNX⟩
                  case measure => have := HLQ.out; simp [intOf]; omega
            · have HQ := hidden (show q = 256 by omega)
              have q1 : ¬ (q : Int) < 256 := by omega
              obtain ⟨an, han⟩ : ∃ an, (List.range q).any (fun b => (B.has b != tn)) = an := ⟨_, rfl⟩
              rw [han]
              have HZ := hidden (show (if tn then B.not else B).isZero = !an from by rw [any_zero hbf, ← HQ.out, han])
              have HSF := hidden (rfail_any base T nv s n (j + 1) d 0 63 wr hcq.out.tr)
              have hfin : ∀ w', TrV w' base T nv s n (j + 1) d (failN 0 63) → TB base wr w' → (m = 0 ∨ fl = true ∨ an = false) → ClassAns base T X nv s n i d w (.returned (.tuple #[])) w' := fun w' ht hb hc => by
                refine ⟨j + 1, failN 0 63, _, rfl, hcq.out.tree ht hb, by omega, by omega, by unfold failN; split <;> omega, fun h => absurd rfl h, fun _ => .inr ?_⟩
                refine ⟨63, ?_, rfl, by omega⟩
                rw [HRR.out, ← HEX.out, endC, if_pos]
                rcases hc with hc | hc | hc
                · exact .inl hc
                · exact .inr (.inl hc)
                · refine .inr (.inr ?_); rw [HZ.out, hc]; rfl
              have hfin2 : m ≠ 0 → fl = false → an = true → ClassAns base T X nv s n i d w (.returned (.tuple #[])) wr := fun h1 h2 h3 => by
                refine ⟨j + 1, 0, _, rfl, hcq.out, by omega, by omega, by omega, fun h => absurd rfl h, fun _ => ?_⟩
                refine .inl ⟨(if tn = true then B.not else B), j + 1, ?_, rfl, rfl⟩
                rw [HRR.out, ← HEX.out, endC, if_neg]
                rw [HZ.out, h3, h2]
                simp [h1]
              have HFIN := hidden hfin
              have HFIN2 := hidden hfin2
              clear hfin hfin2 han hlq
              by_cases hm : m = 0
              · have HM := hidden hm
                subst hm
                go_wp2_with fail
                refine HSF.out.mono ?_
                rintro e w6 ⟨rfl, t6, b6⟩
                have HFF := hidden (HFIN.out w6 t6 b6 (by simp))
                clear HSF t6 b6
                go_wp2_with fail
                go_end0
                exact HFF.out
              · have hm0 : ((m : Int) == 0) = false := by simpa using hm
                have hm1 : (m == 0) = false := by simpa using hm
                have HM := hidden hm
                clear hm
                cases fl with
                | true =>
                  go_wp2_with fail
                  refine HSF.out.mono ?_
                  rintro e w6 ⟨rfl, t6, b6⟩
                  have HFF := hidden (HFIN.out w6 t6 b6 (by simp))
                  clear HSF t6 b6
                  go_wp2_with fail
                  go_end0
                  exact HFF.out
                | false =>
                  cases an with
                  | false =>
                    go_wp2_with fail
                    refine HSF.out.mono ?_
                    rintro e w6 ⟨rfl, t6, b6⟩
                    have HFF := hidden (HFIN.out w6 t6 b6 (by simp))
                    clear HSF t6 b6
                    go_wp2_with fail
                    go_end0
                    exact HFF.out
                  | true =>
                    go_wp2_with fail
                    go_end0
                    exact HFIN2.out HM.out (by simp) (by simp)
        · have HEN := hidden (show ¬ (j < l.length ∧ byteN l j = 93) from by rw [hsl]; exact hend)
          have hnn : (nextB s j 0 != 93) = true := by
            rw [bne_iff_ne]
            by_cases h1 : j < s.size
            · rw [nextB_ok h1, HL.out]; intro e; exact hend ⟨h1, by omega⟩
            · rw [nextB_end (.inr (by omega))]; omega
          obtain ⟨nb, hnb⟩ : ∃ nb, nextB s j 0 = nb := ⟨_, rfl⟩
          rw [hnb] at S1 hnn
          clear hnb hend
          go_wp2_with fail
          refine S1.out.mono ?_
          rintro e w2 ⟨rfl, q2, rfl⟩
          have HC2 := hidden (hcl.out.quiet (below_drewN (Below.refl _ _) q2))
          generalize wr.drewN q2 = w2 at *
          clear S1 hcl c4
          have S2 := hidden (rletter_any base T nv s n j d 0 w2 HC2.out.tr hs (by omega) (by omega))
          rw [HL.out] at S2
          go_wp2_with fail
          refine S2.out.mono ?_
          rintro e w3 ⟨lo, j2, f2, rfl, t3, u3, hlo, hj2, hj2s, hf2, r3⟩
          have HC3 := hidden (HC2.out.tree t3 u3)
          have HR3 := hidden (r3.2 rfl)
          have hj2s' : j2 ≤ s.size := by omega
          clear S2 t3 u3 r3 HC2 hj2s hnn
          obtain ⟨q, hq⟩ : ∃ q, decide (f2 = 0 ∧ j2 + 1 < s.size ∧ byteN l j2 = 45 ∧ byteN l (j2 + 1) ≠ 93) = q := ⟨_, rfl⟩
          have HQ := hidden hq
          go_wp2_with fail
          obtain ⟨d1, d2, d3, d4, dfr⟩ := HC3.out.tr.c
          clear d3 dfr
          have fw : IntKind.i64.wrap ((j2 : Int) + 1) = (j2 : Int) + 1 := Go.IntWalk.i64_in _ (by omega)
          go_cut [65] (fun vq wx => vq = .bool q ∧ Hid (ClR base T X nv s n d w wx B.has j2 f2))
          case first =>
            have HD := fun n' : Nat => hidden (HC3.out.quiet (below_drewN (Below.refl _ _) n'))
            by_cases c1 : j2 + 1 < s.size
            · have i1 : (j2 : Int) + 1 < (s.size : Int) := by omega
              have i4 : (0 : Int) ≤ (j2 : Int) + 1 := by omega
              have S3 := hidden (fun m' : Nat => rnext_any base T nv s n j2 d f2 (w3.drewN m') (HC3.out.tr.drewN m') hs (by omega) hf2)
              by_cases h45 : nextB s j2 f2 = 45
              · have h45' : f2 = 0 ∧ byteN l j2 = 45 := by
                  by_cases h0 : f2 = 0
                  · subst h0
                    rw [nextB_ok (by omega), HL.out] at h45
                    exact ⟨rfl, by omega⟩
                  · rw [nextB_end (.inl h0)] at h45; omega
                rw [h45] at S3
                have b2 : byteN l (j2 + 1) = (s[j2 + 1]'c1).toNat := by rw [← HL.out]; exact byteN_at (S := s) (i := j2 + 1) c1
                by_cases h93 : byteN l (j2 + 1) = 93
                · have b2' : (s[j2 + 1]'c1).toNat = 93 := by omega
                  have hqf : q = false := by rw [← hq]; simp [h93]
                  subst hqf
                  clear hq h93 h45 h45' b2
                  go_quiet ((go_at_call 179; refine Calls.quiet_of (S3.out _)))
                  go_wp2_with fail
                  go_meet
                  exact ⟨rfl, HD _⟩
                · have hqt : q = true := by rw [← hq]; simp [h93, h45', c1]
                  obtain ⟨x, hx⟩ : ∃ x, (s[j2 + 1]'c1).toNat = x := ⟨_, rfl⟩
                  have hx1 : ((x : Int) == 93) = false := by simp; omega
                  have hx2 : ¬ (x : Int) = 93 := by omega
                  have hx3 : ¬ x = 93 := by omega
                  subst hqt
                  clear hq h93 h45 h45' b2
                  go_quiet ((go_at_call 179; refine Calls.quiet_of (S3.out _)))
                  go_wp2_with fail
                  go_meet
                  exact ⟨congrArg Value.bool (by simp only [bne, hx1]; rfl), HD _⟩
              · have hqf : q = false := by
                  rw [← hq]
                  refine decide_eq_false fun ⟨a0, a1, a2, _⟩ => h45 ?_
                  subst a0
                  rw [nextB_ok (by omega), HL.out, a2]
                  rfl
                obtain ⟨x, hx⟩ : ∃ x, nextB s j2 f2 = x := ⟨_, rfl⟩
                rw [hx] at S3 h45
                have hx1 : (x == 45) = false := by simpa using h45
                subst hqf
                clear hq hx
                go_quiet ((go_at_call 179; refine Calls.quiet_of (S3.out _)))
                go_wp2_with fail
                go_meet
                exact ⟨rfl, HD _⟩
            · have hqf : q = false := by rw [← hq]; simp [c1]
              have i1 : ¬ (j2 : Int) + 1 < (s.size : Int) := by omega
              subst hqf
              clear hq
              go_quiet (fail)
              go_wp2_with fail
              go_meet
              exact ⟨rfl, HD _⟩
          case rest =>
            obtain ⟨rfl, hcl4⟩ := hcut
            have HC4 := hidden hcl4.out
            clear hcl4 HC3 d1 d2 d4 hq
            go_upto_if 65 with (fail)
            go_cut [8] (fun vt wx => ∃ (hi k f3 : Nat), vt = .int .i64 (hi : Int) ∧ hi < 256 ∧ k ≤ s.size ∧ f3 ≤ 1000 ∧ j ≤ k ∧ Hid (ClR base T X nv s n d w wx B.has k f3) ∧ Hid ((f3 = 0 → j < k ∧ itemP l j = .ok (lo, hi) k) ∧ (f3 ≠ 0 → itemP l j = .bad f3)))
            case first =>
              cases q with
              | false =>
                have HI := hidden (show (f2 = 0 → j < j2 ∧ itemP l j = .ok (lo, lo) j2) ∧ (f2 ≠ 0 → itemP l j = .bad f2) from by
                  rcases HR3.out with ⟨a, jj, e1, ⟨e2, e3⟩, e4⟩ | ⟨e, e1, e2, e3⟩
                  · subst e2 e3 e4
                    have hlt := (let_next e1).1
                    exact ⟨fun _ => ⟨hlt, item_one e1 (fun h => (of_decide_eq_false HQ.out) ⟨rfl, by rw [← hsl]; exact h.1, h.2⟩)⟩, fun h => absurd rfl h⟩
                  · subst e2
                    exact ⟨fun h => absurd h e3, fun _ => item_bad1 e1⟩)
                go_wp2_with fail
                go_meet
                exact ⟨lo, j2, f2, rfl, hlo, hj2s', hf2, hj2, HC4, HI⟩
              | true =>
                obtain ⟨g0, g1, g2, g3⟩ := of_decide_eq_true HQ.out
                subst g0
                have HCD := hidden (show j2 + 1 < l.length ∧ byteN l j2 = 45 ∧ byteN l (j2 + 1) ≠ 93 from ⟨by rw [hsl]; exact g1, g2, g3⟩)
                have HL1 := hidden (show letP l j = .ok lo j2 from by
                  rcases HR3.out with ⟨a, jj, e1, ⟨e2, e3⟩, e4⟩ | ⟨e, e1, e2, e3⟩
                  · subst e2 e3; exact e1
                  · omega)
                obtain ⟨d1, d2, d3, d4, dfr⟩ := HC4.out.tr.c
                have df2 := dfr 2
                have HS5 := hidden (HC4.out.tr.store 2 (.int .i64 ((j2 : Int) + 1)) (j2 + 1) d 0 (.inl ⟨rfl, moved j2, rfl, rfl⟩))
                have HC5 := hidden (HC4.out.tree HS5.out.1 HS5.out.2)
                have S5 := hidden (rletter_any base T nv s n (j2 + 1) d 0 _ HS5.out.1 hs (by omega) (by omega))
                rw [HL.out] at S5
                clear d1 d3 d4 dfr g2 g3 HC4 HS5
                go_wp2_with fail
                refine S5.out.mono ?_
                rintro e w6 ⟨hi, k, f3, rfl, t6, u6, hhi, hk, hks, hf3, r6⟩
                have HC6 := hidden (HC5.out.tree t6 u6)
                have HI := hidden (show (f3 = 0 → j < k ∧ itemP l j = .ok (lo, hi) k) ∧ (f3 ≠ 0 → itemP l j = .bad f3) from by
                  rcases r6.2 rfl with ⟨a, jj, e1, ⟨e2, e3⟩, e4⟩ | ⟨e, e1, e2, e3⟩
                  · subst e2 e3 e4
                    exact ⟨fun _ => ⟨by omega, item_two HL1.out HCD.out e1⟩, fun h => absurd rfl h⟩
                  · subst e2
                    exact ⟨fun h => absurd h e3, fun _ => item_bad2 HL1.out HCD.out e1⟩)
                clear S5 t6 u6 r6 HC5 d2 df2
                go_wp2_with fail
                go_meet
                exact ⟨hi, k, f3, rfl, hhi, by omega, hf3, by omega, HC6, HI⟩
            case rest =>
              obtain ⟨hi, k3, f3, rfl, hhi, hks, hf3, hjk, hcl6, hit⟩ := hcut
              have HC6 := hidden hcl6.out
              have HIT := hidden hit.out
              clear hcl6 hit HC4 HR3 fw
              have HDL := hidden (show decide ((hi : Int) < (lo : Int)) = decide (hi < lo) from by rw [decide_eq_decide]; omega)
              go_upto_if 78 with (fail)
              go_cut [6] (fun vf wx => vf = .bool (fl || decide (hi < lo)) ∧ Hid (ClR base T X nv s n d w wx B.has k3 f3))
              case first =>
                by_cases hfall : hi < lo
                · have h1 : (hi : Int) < (lo : Int) := by omega
                  have HFE := hidden (show (fl || decide (hi < lo)) = true from by rw [decide_eq_true hfall, Bool.or_true])
                  clear hfall
                  go_wp2_with fail
                  go_meet
                  exact ⟨by rw [HFE.out], HC6⟩
                · have h1 : ¬ (hi : Int) < (lo : Int) := by omega
                  have HFE := hidden (show (fl || decide (hi < lo)) = fl from by rw [decide_eq_false hfall, Bool.or_false])
                  clear hfall
                  go_wp2_with fail
                  go_meet
                  exact ⟨by rw [HFE.out], HC6⟩
              case rest =>
                obtain ⟨rfl, hcl7⟩ := hcut
                have HC7 := hidden hcl7.out
                obtain ⟨fl2, hfl2⟩ : ∃ fl2, (fl || decide (hi < lo)) = fl2 := ⟨_, rfl⟩
                rw [hfl2]
                have HFL := hidden hfl2
                clear hcl7 HC6 hfl2 HDL
                generalize wc = w7 at *
                go_wp2_with fail
                go_loopw [9] (fun vb wr => ∃ b : Nat, vb = .int .i64 (b : Int) ∧ lo ≤ b ∧ b - lo ≤ hi + 1 - lo ∧ b ≤ 256 ∧ Hid (ClR base T X nv s n d w wr (B.puts lo (b - lo)).has k3 f3)) (fun vb _ => 256 - (intOf vb).toNat)
                case atStart => exact ⟨lo, rfl, Nat.le_refl _, by omega, by omega, hidden (by rw [Nat.sub_self]; exact HC7.out)⟩
                case round =>
                  obtain ⟨b, rfl, hlb, hbh, hb256, hcb⟩ := hrel
                  clear HC7
                  by_cases hbl : b ≤ hi
                  · have b1 : (b : Int) ≤ (hi : Int) := by omega
                    have b0 : (0 : Int) ≤ (b : Int) := by omega
                    have b2 : (b : Int) < 256 := by omega
                    have fwb : IntKind.i64.wrap ((b : Int) + 1) = (b : Int) + 1 := Go.IntWalk.i64_in _ (by omega)
                    have hbb : b < 256 := by omega
                    obtain ⟨d0, e0⟩ := hcb.out.cell hbb
                    have HCN := hidden ((hcb.out.put hX hv hbb true).ext (G := (B.puts lo (b + 1 - lo)).has) fun x hx => by
                      rw [show b + 1 - lo = (b - lo) + 1 from by omega, BS.puts, show lo + (b - lo) = b from by omega, BS.has_put1 _ _ _ hbb hx]
                      by_cases e : x = b
                      · subst e; simp
                      · rw [if_neg e, decide_eq_false e, Bool.or_false])
                    have HBL := hidden hbl
                    clear hbl hcb hbb
                    go_wp2_with fail
                    go_roundw
                    case rel => exact ⟨b + 1, by go_num, by omega, by have := HBL.out; omega, by have := HBL.out; omega, HCN⟩
                    case measure => have := HBL.out; simp [intOf]; omega
                  · have b1 : ¬ (b : Int) ≤ (hi : Int) := by omega
                    have hbe : b - lo = hi + 1 - lo := by omega
                    have HCE := hidden (show ClR base T X nv s n d w wr (B.put lo hi).has k3 f3 from by have := hcb.out; rw [hbe] at this; exact this)
                    have HE3 := hidden (show f3 = 0 → endC tn (itemsP l fu k3 (B.put lo hi) (m + 1) fl2) = RR from fun h => by
                      rw [← HFL.out, ← items_more l HEN.out (HIT.out.1 h).2]; exact HE0.out)
                    have HE4 := hidden (show f3 ≠ 0 → RR = .bad f3 from fun h => by
                      rw [← HE0.out, items_bad l HEN.out (HIT.out.2 h)]; rfl)
                    have HJK := hidden HIT.out.1
                    have fwm : IntKind.i64.wrap ((m : Int) + 1) = (m : Int) + 1 := Go.IntWalk.i64_in _ (by omega)
                    clear hcb hbe HE0 HIT HEN
                    go_wp2_with fail
                    go_roundg (fu + 1)
                    case measure => have := HFK.out; omega
                    case rel => exact ⟨fu, k3, m + 1, B.put lo hi, fl2, f3, by go_num, rfl, hks, fun h => by have := (HJK.out h).1; have := HFU.out; omega, by split <;> omega, (by by_cases h : f3 = 0; (have := (HJK.out h).1; omega); omega), by omega, hf3, BS.put_fit hB lo hi, HCE, HE3, HE4⟩
      · have hf0 : ((f : Int) == 0) = false := by simpa using hf
        have hf1 : (f == 0) = false := by simpa using hf
        have HEX := hidden (hE2.out hf)
        have HC3 := hcl
        have hcl' := hcl
        clear hE hE2 hcl hcl' hfu
        clear c4
        have hbf := hB
        obtain ⟨c1, c2, c3, c4, fr⟩ := HC3.out.tr.c
        have f2 := fr 2
        have fw : IntKind.i64.wrap ((j : Int) + 1) = (j : Int) + 1 := Go.IntWalk.i64_in _ (by omega)
        have HSX := hidden (HC3.out.tr.store 2 (.int .i64 ((j : Int) + 1)) (j + 1) d f (.inl ⟨rfl, moved j, rfl, rfl⟩))
        have HC4 := hidden (HC3.out.tree HSX.out.1 HSX.out.2)
        clear c1 c3 fr HC3 HSX
        go_wp2_with fail
        clear c2 c4 f2
        generalize wr.setCell ⟨T, 2, none⟩ (.int .i64 ((j : Int) + 1)) = w4 at *
        go_loopw [10, 11] (fun va vq wr => ∃ q : Nat, vq = .int .i64 (q : Int) ∧ q ≤ 256 ∧ va = .bool ((List.range q).any fun b => (B.has b != tn)) ∧ Hid (ClR base T X nv s n d w wr (flipF tn B.has q) (j + 1) f)) (fun _ vq _ => 256 - (intOf vq).toNat)
        case atStart => exact ⟨0, rfl, by omega, rfl, hidden (HC4.out.ext fun b _ => rfl)⟩
        case round =>
          obtain ⟨q, rfl, hq, rfl, hcq⟩ := hrel
          clear HC4
          by_cases hlq : q < 256
          · have q0 : (0 : Int) ≤ (q : Int) := by omega
            have q1 : (q : Int) < 256 := by omega
            have fwq : IntKind.i64.wrap ((q : Int) + 1) = (q : Int) + 1 := Go.IntWalk.i64_in _ (by omega)
            have HLQ := hidden hlq
            have hany : (List.range (q + 1)).any (fun b => (B.has b != tn)) = ((List.range q).any (fun b => (B.has b != tn)) || (B.has q != tn)) := by rw [List.range_succ, List.any_append]; simp
            have HANY := hidden hany
            have hfq : flipF tn B.has q q = B.has q := if_neg (Nat.lt_irrefl q)
            obtain ⟨d0, e0⟩ := hcq.out.cell hlq
            rw [hfq] at d0
            generalize (List.range q).any (fun b => (B.has b != tn)) = an at *
            clear hany hfq hlq
            cases tn with
            | true =>
              have HCP := hidden ((hcq.out.put hX hv HLQ.out (!B.has q)).quiet ((Below.refl _ _).drew))
              have d1 : wr.drew.cell? ⟨X, 1 + q, none⟩ = some (.bool (B.has q)) := d0
              have e1 : wr.drew.frozen? ⟨X, 1 + q, none⟩ = false := e0
              clear d0 e0
              go_wp2_with fail
              go_region
              have d2 := (HCP.out.cell HLQ.out).1
              rw [if_pos rfl] at d2
              generalize (wr.setCell ⟨X, 1 + q, none⟩ (.bool (!B.has q))).drew = w5 at *
              clear d1 e1
              have HNX := hidden (HCP.out.ext (G := flipF true B.has (q + 1)) fun b hb => by
                unfold flipF
                by_cases e : b = q
                · subst e; simp
                · rw [if_neg e]
                  by_cases e2 : b < q
                  · rw [if_pos e2, if_pos (by omega)]
                  · rw [if_neg e2, if_neg (by omega)])
              have HAN := hidden (show (List.range (q + 1)).any (fun b => (B.has b != true)) = (an || !B.has q) from by rw [HANY.out]; cases B.has q <;> rfl)
              clear HCP HANY
              cases an with
              | true =>
                go_wp2_with fail
                go_roundw
                case rel => exact ⟨q + 1, by go_num, HLQ.out, by rw [HAN.out]; rfl, HNX⟩
                case measure => have := HLQ.out; simp [intOf]; omega
              | false =>
                go_wp2_with fail
                go_roundw
                case rel => exact ⟨q + 1, by go_num, HLQ.out, by rw [HAN.out, Bool.false_or], HNX⟩
                case measure => have := HLQ.out; simp [intOf]; omega
            | false =>
              have HNX := hidden (hcq.out.ext (G := flipF false B.has (q + 1)) fun b hb => by
                unfold flipF
                by_cases e2 : b < q
                · rw [if_pos e2, if_pos (by omega)]
                · rw [if_neg e2]
                  by_cases e3 : b < q + 1
                  · rw [if_pos e3]; simp
                  · rw [if_neg e3])
              have HAN := hidden (show (List.range (q + 1)).any (fun b => (B.has b != false)) = (an || B.has q) from by rw [HANY.out]; cases B.has q <;> rfl)
              clear HANY
              cases an with
              | true =>
                go_wp2_with fail
                go_roundw
                case rel => exact ⟨q + 1, by go_num, HLQ.out, by rw [HAN.out]; rfl, HNX⟩
                case measure => have := HLQ.out; simp [intOf]; omega
              | false =>
                go_wp2_with fail
                go_roundw
                case rel => exact ⟨q + 1, by go_num, HLQ.out, by rw [HAN.out, Bool.false_or], HNX⟩
                case measure => have := HLQ.out; simp [intOf]; omega
          · have HQ := hidden (show q = 256 by omega)
            have q1 : ¬ (q : Int) < 256 := by omega
            obtain ⟨an, han⟩ : ∃ an, (List.range q).any (fun b => (B.has b != tn)) = an := ⟨_, rfl⟩
            rw [han]
            have HZ := hidden (show (if tn then B.not else B).isZero = !an from by rw [any_zero hbf, ← HQ.out, han])
            have HSF := hidden (rfail_any base T nv s n (j + 1) d f 63 wr hcq.out.tr)
            have hfin : ∀ w', TrV w' base T nv s n (j + 1) d (failN f 63) → TB base wr w' → (m = 0 ∨ fl = true ∨ an = false) → ClassAns base T X nv s n i d w (.returned (.tuple #[])) w' := fun w' ht hb hc => by
              refine ⟨j + 1, failN f 63, _, rfl, hcq.out.tree ht hb, by omega, by omega, by unfold failN; split <;> omega, fun h => absurd rfl h, fun _ => .inr ?_⟩
              refine ⟨f, ?_, if_neg hf, hf⟩
              rw [HRR.out, HEX.out]
            have hfin2 : m ≠ 0 → fl = false → an = true → ClassAns base T X nv s n i d w (.returned (.tuple #[])) wr := fun h1 h2 h3 => by
              refine ⟨j + 1, f, _, rfl, hcq.out, by omega, by omega, by omega, fun h => absurd rfl h, fun _ => ?_⟩
              refine .inr ⟨f, ?_, rfl, hf⟩
              rw [HRR.out, HEX.out]
            have HFIN := hidden hfin
            have HFIN2 := hidden hfin2
            clear hfin hfin2 han hlq
            by_cases hm : m = 0
            · have HM := hidden hm
              subst hm
              go_wp2_with fail
              refine HSF.out.mono ?_
              rintro e w6 ⟨rfl, t6, b6⟩
              have HFF := hidden (HFIN.out w6 t6 b6 (by simp))
              clear HSF t6 b6
              go_wp2_with fail
              go_end0
              exact HFF.out
            · have hm0 : ((m : Int) == 0) = false := by simpa using hm
              have hm1 : (m == 0) = false := by simpa using hm
              have HM := hidden hm
              clear hm
              cases fl with
              | true =>
                go_wp2_with fail
                refine HSF.out.mono ?_
                rintro e w6 ⟨rfl, t6, b6⟩
                have HFF := hidden (HFIN.out w6 t6 b6 (by simp))
                clear HSF t6 b6
                go_wp2_with fail
                go_end0
                exact HFF.out
              | false =>
                cases an with
                | false =>
                  go_wp2_with fail
                  refine HSF.out.mono ?_
                  rintro e w6 ⟨rfl, t6, b6⟩
                  have HFF := hidden (HFIN.out w6 t6 b6 (by simp))
                  clear HSF t6 b6
                  go_wp2_with fail
                  go_end0
                  exact HFF.out
                | true =>
                  go_wp2_with fail
                  go_end0
                  exact HFIN2.out HM.out (by simp) (by simp)
end Go.Proofs.YthncochjhbmceaaGreat
