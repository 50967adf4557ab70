/- spans.Wider and the reference's Wider. Condition: the row is within the reach. -/
import Derived.Test.YtjklonfheenfbaaSpnClip
namespace Go.Proofs.Ytjklonfheenfbaa
set_option maxRecDepth 100000
open Go.RowKit Go.Shelf

def badW (d : Int) : Prop := d < 1 ∨ 1099511627776 < d
instance (d : Int) : Decidable (badW d) := by unfold badW; infer_instance
def wid1 (d : Int) (x : Spn) : Spn := ⟨x.frm / d * d, x.til / d * d + d - 1⟩
def widS (d : Int) (l : List Spn) : List Spn := if badW d then [] else l.map (wid1 d)
theorem widS_bad {d : Int} (h : badW d) (l : List Spn) : widS d l = [] := if_pos h
theorem widS_ok {d : Int} (h : ¬ badW d) (l : List Spn) : widS d l = l.map (wid1 d) := if_neg h
/-- what Wider answers -/
def WideRes (l : List Spn) (d : Int) (out : List Spn) : Prop := ∃ R, OfRes l R ∧ OfRes (widS d (clipS 0 1125899906842624 R)) out
theorem WideRes.uniq {l a b : List Spn} {d : Int} (h : WideRes l d a) (k : WideRes l d b) : a = b := by
  obtain ⟨R, h1, h2⟩ := h
  obtain ⟨S, k1, k2⟩ := k
  obtain rfl : R = S := h1.uniq k1 fun _ => rfl
  exact h2.uniq k2 fun _ => rfl
theorem clip_in {R : List Spn} {b : Int} : ∀ x ∈ clipS 0 b R, 0 ≤ x.frm ∧ x.frm ≤ x.til ∧ x.til ≤ b := fun x hx => by
  have h1 := fullS_full _ x hx
  obtain ⟨y, _, rfl⟩ := List.mem_map.1 (List.mem_filter.1 hx).1
  rw [clip1_max] at h1 ⊢
  exact ⟨by show 0 ≤ max y.frm 0; omega, h1, by show min y.til b ≤ b; omega⟩
theorem wid_ok {d : Int} (h : ¬ badW d) {x : Spn} (hx : 0 ≤ x.frm ∧ x.frm ≤ x.til ∧ x.til ≤ 1125899906842624) : 0 ≤ x.frm / d * d ∧ x.frm / d * d ≤ 1125899906842624 ∧ 0 ≤ x.til / d * d ∧ x.til / d * d ≤ 1125899906842624 ∧ 1 ≤ d ∧ d ≤ 1099511627776 := by
  unfold badW at h
  have h1 := Int.ediv_mul_le x.frm (show d ≠ 0 by omega)
  have h2 := Int.ediv_mul_le x.til (show d ≠ 0 by omega)
  exact ⟨Int.mul_nonneg (Int.ediv_nonneg hx.1 (by omega)) (by omega), by omega, Int.mul_nonneg (Int.ediv_nonneg (by omega) (by omega)) (by omega), by omega, by omega, by omega⟩
theorem widS_oks {d : Int} {R : List Spn} : ∀ x ∈ widS d (clipS 0 1125899906842624 R), x.ok := fun x hx => by
  unfold widS at hx
  split at hx
  · simp at hx
  · rename_i h
    obtain ⟨y, hy, rfl⟩ := List.mem_map.1 hx
    have := wid_ok h (clip_in y hy)
    exact ⟨by show _ ≤ y.frm / d * d; omega, by show y.frm / d * d < _; omega, by show _ ≤ y.til / d * d + d - 1; omega, by show y.til / d * d + d - 1 < _; omega⟩
theorem widS_snoc (d : Int) (l : List Spn) (x : Spn) : widS d (l ++ [x]) = if badW d then widS d l else widS d l ++ [wid1 d x] := by
  unfold widS
  split
  · rfl
  · simp
theorem widS_le (d : Int) (l : List Spn) : (widS d l).length ≤ l.length := by
  unfold widS
  split <;> simp

set_option maxHeartbeats 6400000 in
theorem wider_any (A : Option Addr) (n c : Nat) (l : List Spn) (d : Int) (w : World) (hr : Row w w.heap.size 2 A n (l.flatMap Spn.cells)) (hl : l.length = n) (hn : n * 16 ≤ 140737488351232) (hok : ∀ x ∈ l, x.ok) :
    Calls Try.prog 32 #[.slice A n c, .int .i64 d] w fun e w' => ∃ v out, e = .returned v ∧ w'.ownsRow w.heap.size 51 2 v out.length (out.flatMap Spn.cells) ∧ WideRes l d out ∧ out.length ≤ n ∧ Below w.heap.size w w' := by
  obtain ⟨i0, hi, hz0, hz1, hz2⟩ := info_parts ClnSpn.info
  have HCL := hidden (clipSpn_any A n c l 0 1125899906842624 w hr hl hn hok (by omega) (by omega))
  clear hr hl hok
  go_enter Try.func32, Try.ntmps32
  go_wp2_with fail
  refine HCL.out.mono ?_
  rintro e w1 ⟨v, R, rfl, ho, hR, hlen, hb1⟩
  have HI := hidden (clip_in (R := R) (b := 1125899906842624))
  have HOK := hidden (widS_oks (d := d) (R := R))
  have HWR := hidden fun (out : List Spn) (h : OfRes (widS d (clipS 0 1125899906842624 R)) out) => (⟨R, hR, h⟩ : WideRes l d out)
  generalize clipS 0 1125899906842624 R = C at *
  obtain ⟨m, hm⟩ : ∃ m, C.length = m := ⟨_, rfl⟩
  rw [hm] at ho hlen
  obtain ⟨A2, c2, rfl, hc2, hr2⟩ := own_shape ho
  have HR2 := hidden hr2
  have HM := hidden hm
  have B1 := hidden hb1
  clear hR hm HCL ho hr2 hb1
  go_wp2_with fail
  go_loopw [5, 15] (fun v i wr => ∃ (k : Nat) (Q : List Spn) (vq : Value), vq = v ∧ k ≤ m ∧ i = .int .i64 k ∧ wr.ownsRow w1.heap.size 51 2 vq Q.length (Q.flatMap Spn.cells) ∧ Hid (Q = widS d (C.take k)) ∧ Q.length ≤ k ∧ Below w1.heap.size w1 wr) (fun _ i _ => m - (intOf i).toNat)
  case atStart => exact ⟨0, [], _, rfl, Nat.zero_le _, rfl, World.ownsRow_nil _ _ _ _, hidden (by simp [widS]), Nat.le_refl _, Below.refl _ _⟩
  case round =>
    obtain ⟨k, Q, vq, rfl, hk, rfl, hown, hq, hQk, hb⟩ := hrel
    by_cases hlt : k < m
    · obtain ⟨gs, o, x, rfl, _, hx, hcl⟩ := row_at spnK (HR2.out.below hb) HM.out k hlt
      have c0 : wr.cell? ⟨gs, o + k * 2, none⟩ = some (.int .i64 x.frm) := hcl 0 (by omega)
      have c1 : wr.cell? ⟨gs, o + k * 2 + 1, none⟩ = some (.int .i64 x.til) := hcl 1 (by omega)
      have hT : Hid (widS d (C.take (k + 1)) = if badW d then Q else Q ++ [wid1 d x]) := by rw [Hid, take_snoc? hx, widS_snoc, ← hq.out]
      have hxi := HI.out x (List.mem_of_getElem? hx)
      have k0 : (0 : Int) ≤ (k : Int) := by omega
      have k1 : (k : Int) < (m : Int) := by omega
      have hbs := hb.size
      clear hx hcl
      go_upto_region 5 with (fail)
      have hX := Whole1.new wr 51 #[.int .i64 x.frm, .int .i64 x.til]
      have hownA := hown.alloc (.cells #[.int .i64 x.frm, .int .i64 x.til] 51)
      have hbA := hb.alloc hbs (.cells #[.int .i64 x.frm, .int .i64 x.til] 51)
      generalize wr.alloc (.cells #[.int .i64 x.frm, .int .i64 x.til] 51) = wa at hX hownA hbA ⊢
      obtain ⟨X, hXe⟩ : ∃ X, wr.heap.size = X := ⟨_, rfl⟩
      rw [hXe] at hX ⊢
      have e0 := hX.cell 0
      have e1 := hX.cell 1
      have hbs := hbA.size
      clear hX hXe hown hb c0 c1
      by_cases hd : badW d
      · have hb1 := beginOf_width x.frm d hd
        have hb2 := beginOf_width x.til d hd
        have H1 := hidden (start_any x.frm d wa)
        have H2 := hidden (start_any x.til d wa)
        rw [hb1] at H1
        rw [hb2] at H2
        have HT := hidden (hT.out.trans (if_pos hd))
        clear hb1 hb2 hd
        go_wp2_with fail
        refine H1.out.mono ?_
        rintro e w' ⟨rfl, rfl⟩
        go_wp2_with fail
        refine H2.out.mono ?_
        rintro e w' ⟨rfl, rfl⟩
        go_wp2_with fail
        go_roundw
        case rel => exact ⟨k + 1, Q, _, rfl, by omega, by go_num, hownA, HT.out.symm, by omega, hbA⟩
        case measure => simp [intOf]; omega
      · obtain ⟨q1, q2, q3, q4, q5, q6⟩ := wid_ok hd hxi
        have hb1 := beginOf_ok x.frm d hd (by omega)
        have hb2 := beginOf_ok x.til d hd (by omega)
        have H1 := hidden (start_any x.frm d wa)
        have H2 := hidden (start_any x.til d wa)
        rw [hb1] at H1
        rw [hb2] at H2
        have HT := hidden (hT.out.trans (if_neg hd))
        have hw1 : Hid (wid1 d x = ⟨x.frm / d * d, x.til / d * d + d - 1⟩) := rfl
        generalize x.frm / d * d = F at *
        generalize x.til / d * d = G at *
        have hfr := Row.fresh wa 51 2 1 [.int .i64 F, .int .i64 (G + d - 1)] rfl
        clear hb1 hb2 hd
        go_wp2_with fail
        refine H1.out.mono ?_
        rintro e w' ⟨rfl, rfl⟩
        go_wp2_with fail
        refine H2.out.mono ?_
        rintro e w' ⟨rfl, rfl⟩
        go_wp2_with (at_builtin; refine wpList_app _ rfl _ _ 30 rfl w1.heap.size 51 i0 _ 2 16 Try.underlying30 hi hz0 hz1 hz2 rfl (by decide) _ _ _ rfl (hownA.alloc _) _ _ _ _ _ rfl hfr (by simp [Value.oneCell']) (by unfold maxLen; omega) (by omega) (by simp; omega) ?_; intro v9 w9 hown9 hg9 hat9)
        go_roundw
        case rel => exact ⟨k + 1, Q ++ [wid1 d x], v9, rfl, by omega, by go_num, (by rw [List.flatMap_append, List.length_append, hw1.out]; exact hown9), HT.out.symm, by simp; omega, (hbA.alloc hbs _).grown hg9 (by simp; omega) (fun q hq => (hownA.lt q hq).1)⟩
        case measure => simp [intOf]; omega
    · obtain rfl : m = k := by omega
      have hE := hidden (show widS d C = Q by rw [hq.out, List.take_of_length_le (by rw [HM.out]; exact Nat.le_refl _)])
      obtain ⟨A4, c4, rfl, _, hr4⟩ := own_shape hown
      have S2 := hidden (spnOf_any A4 Q.length c4 Q wr hr4 rfl (by omega) (fun x hx => HOK.out x (by rw [hE.out]; exact hx)))
      have HBR := hidden hb
      clear hown hr4 hb
      go_wp2_with fail
      refine S2.out.mono ?_
      rintro e w3 ⟨v3, R3, rfl, ho3, hR3, hl3, hb3⟩
      have HO3 := hidden ho3
      have HB3 := hidden hb3
      have HR3 := hidden hR3
      clear ho3 hb3 hR3 S2
      go_wp2_with fail
      go_ret
      exact ⟨_, R3, rfl, own_more HO3.out (Nat.le_trans B1.out.size HBR.out.size), HWR.out R3 (by rw [hE.out]; exact HR3.out), by omega, B1.out.trans ((HBR.out.trans (HB3.out.mono HBR.out.size)).mono B1.out.size)⟩
set_option maxHeartbeats 6400000 in
theorem rWider_any (A : Option Addr) (n c : Nat) (l : List Spn) (d : Int) (w : World) (hr : Row w w.heap.size 2 A n (l.flatMap Spn.cells)) (hl : l.length = n) (hn : n * 16 ≤ 140737488351232) (hok : ∀ x ∈ l, x.ok) :
    Calls Try.prog 33 #[.slice A n c, .int .i64 d] w fun e w' => ∃ v out, e = .returned v ∧ w'.ownsRow w.heap.size 102 2 v out.length (out.flatMap Spn.cells) ∧ WideRes l d out ∧ out.length ≤ n ∧ Below w.heap.size w w' := by
  obtain ⟨i0, hi, hz0, hz1, hz2⟩ := info_parts TwnSpn.rinfo
  by_cases hd : badW d
  · have hres : Hid (WideRes l d []) := by
      obtain ⟨R, hR⟩ := exists_of l
      exact ⟨R, hR, by rw [widS_bad hd]; exact OfRes.self OneS.nil⟩
    clear hr hl hok
    rcases hd with hd | hd
    · go_enter Try.func33, Try.ntmps33
      go_wp2_with fail
      go_ret
      exact ⟨_, [], rfl, World.ownsRow_nil _ _ _ _, hres.out, Nat.zero_le _, Below.refl _ _⟩
    · have hd2 : decide (d < 1) = false := decide_eq_false (by omega)
      go_enter Try.func33, Try.ntmps33
      go_wp2_with fail
      go_ret
      exact ⟨_, [], rfl, World.ownsRow_nil _ _ _ _, hres.out, Nat.zero_le _, Below.refl _ _⟩
  · have HCL := hidden (rClipSpn_any A n c l 0 1125899906842624 w hr hl hn hok)
    have hd1 : decide (d < 1) = false := decide_eq_false (by unfold badW at hd; omega)
    have hd2 : decide (1099511627776 < d) = false := decide_eq_false (by unfold badW at hd; omega)
    have HBD := hidden hd
    clear hr hl hok hd
    go_enter Try.func33, Try.ntmps33
    go_wp2_with fail
    refine HCL.out.mono ?_
    rintro e w1 ⟨v, R, rfl, ho, hR, hlen, hb1⟩
    have HI := hidden (clip_in (R := R) (b := 1125899906842624))
    have HOK := hidden (widS_oks (d := d) (R := R))
    have HWR := hidden fun (out : List Spn) (h : OfRes (widS d (clipS 0 1125899906842624 R)) out) => (⟨R, hR, h⟩ : WideRes l d out)
    generalize clipS 0 1125899906842624 R = C at *
    obtain ⟨m, hm⟩ : ∃ m, C.length = m := ⟨_, rfl⟩
    rw [hm] at ho hlen
    obtain ⟨A2, c2, rfl, hc2, hr2⟩ := own_shape ho
    have HR2 := hidden hr2
    have HM := hidden hm
    have B1 := hidden hb1
    clear hR hm HCL ho hr2 hb1
    go_wp2_with fail
    go_loopw [6, 7] (fun v i wr => ∃ (k : Nat) (Q : List Spn) (vq : Value), vq = v ∧ k ≤ m ∧ i = .int .i64 k ∧ wr.ownsRow w1.heap.size 102 2 vq Q.length (Q.flatMap Spn.cells) ∧ Hid (Q = widS d (C.take k)) ∧ Q.length ≤ k ∧ Below w1.heap.size w1 wr) (fun _ i _ => m - (intOf i).toNat)
    case atStart => exact ⟨0, [], _, rfl, Nat.zero_le _, rfl, World.ownsRow_nil _ _ _ _, hidden (by simp [widS]), Nat.le_refl _, Below.refl _ _⟩
    case round =>
      obtain ⟨k, Q, vq, rfl, hk, rfl, hown, hq, hQk, hb⟩ := hrel
      by_cases hlt : k < m
      · obtain ⟨gs, o, x, rfl, _, hx, hcl⟩ := row_at spnK (HR2.out.below hb) HM.out k hlt
        have c0 : wr.cell? ⟨gs, o + k * 2, none⟩ = some (.int .i64 x.frm) := hcl 0 (by omega)
        have c1 : wr.cell? ⟨gs, o + k * 2 + 1, none⟩ = some (.int .i64 x.til) := hcl 1 (by omega)
        have hT : Hid (widS d (C.take (k + 1)) = if badW d then Q else Q ++ [wid1 d x]) := by rw [Hid, take_snoc? hx, widS_snoc, ← hq.out]
        have hxi := HI.out x (List.mem_of_getElem? hx)
        have k0 : (0 : Int) ≤ (k : Int) := by omega
        have k1 : (k : Int) < (m : Int) := by omega
        have hbs := hb.size
        clear hx hcl
        obtain ⟨q1, q2, q3, q4, q5, q6⟩ := wid_ok HBD.out hxi
        have hb1 := beginOf_ok x.frm d HBD.out (by omega)
        have hb2 := beginOf_ok x.til d HBD.out (by omega)
        have H1 := hidden (rstart_any x.frm d wr)
        have H2 := hidden (rstart_any x.til d wr)
        rw [hb1] at H1
        rw [hb2] at H2
        have HT := hidden (hT.out.trans (if_neg HBD.out))
        have hw1 : Hid (wid1 d x = ⟨x.frm / d * d, x.til / d * d + d - 1⟩) := rfl
        generalize x.frm / d * d = F at *
        generalize x.til / d * d = G at *
        have hfr := Row.fresh wr 102 2 1 [.int .i64 F, .int .i64 (G + d - 1)] rfl
        clear hb1 hb2
        go_wp2_with fail
        refine H1.out.mono ?_
        rintro e w' ⟨rfl, rfl⟩
        go_wp2_with fail
        refine H2.out.mono ?_
        rintro e w' ⟨rfl, rfl⟩
        go_wp2_with (at_builtin; refine wpList_app _ rfl _ _ 34 rfl w1.heap.size 102 i0 _ 2 16 Try.underlying34 hi hz0 hz1 hz2 rfl (by decide) _ _ _ rfl (hown.alloc _) _ _ _ _ _ rfl hfr (by simp [Value.oneCell']) (by unfold maxLen; omega) (by omega) (by simp; omega) ?_; intro v9 w9 hown9 hg9 hat9)
        go_roundw
        case rel => exact ⟨k + 1, Q ++ [wid1 d x], v9, rfl, by omega, by go_num, (by rw [List.flatMap_append, List.length_append, hw1.out]; exact hown9), HT.out.symm, by simp; omega, (hb.alloc hbs _).grown hg9 (by simp; omega) (fun q hq => (hown.lt q hq).1)⟩
        case measure => simp [intOf]; omega
      · obtain rfl : m = k := by omega
        have hE := hidden (show widS d C = Q by rw [hq.out, List.take_of_length_le (by rw [HM.out]; exact Nat.le_refl _)])
        obtain ⟨A4, c4, rfl, _, hr4⟩ := own_shape hown
        have S2 := hidden (rOf_any A4 Q.length c4 Q wr hr4 rfl (by omega) (fun x hx => HOK.out x (by rw [hE.out]; exact hx)))
        have HBR := hidden hb
        clear hown hr4 hb
        go_wp2_with fail
        refine S2.out.mono ?_
        rintro e w3 ⟨v3, R3, rfl, ho3, hR3, hl3, hb3⟩
        have HO3 := hidden ho3
        have HB3 := hidden hb3
        have HR3 := hidden hR3
        clear ho3 hb3 hR3 S2
        go_wp2_with fail
        go_ret
        exact ⟨_, R3, rfl, own_more HO3.out (Nat.le_trans B1.out.size HBR.out.size), HWR.out R3 (by rw [hE.out]; exact HR3.out), by omega, B1.out.trans ((HBR.out.trans (HB3.out.mono HBR.out.size)).mono B1.out.size)⟩
end Go.Proofs.Ytjklonfheenfbaa
