/- The law's helper batchRef (chapter 18): what it returns. Condition: the batch is within the reach. -/
import Derived.Test.YthncochjhbmceaaGreatHedM
import Derived.Test.YthncochjhbmceaaGreatPk78afa221
import Derived.Test.YthncochjhbmceaaGreatPkdffa1c1c
namespace Go.Proofs.YthncochjhbmceaaGreat
set_option maxRecDepth 100000
open Go.RowKit

theorem infoEnt18 : (Tryz.prog.info? 197).map (fun i => (i.zero, i.size, i.bytes)) = some (some (.agg #[.slice none 0 0, .int .i64 0, .int .u64 0]), 3, 40) := by kernel_rfl
/-- entries as the document has them, of the call's own -/
structure EntO (w : World) (base : Nat) (v : Value) (ys : List EntR) : Prop where
  row : w.ownsRow base 197 3 v ys.length (ys.flatMap EntR.cells)
  lab : ∀ y ∈ ys, w.ownsRow base 167 2 y.lab.val y.lab.n (y.lab.l.flatMap Lbl.cells) ∧ y.lab.l.length = y.lab.n
section
variable {w w' : World} {base b : Nat} {v : Value} {ys : List EntR} {ts : List TypeId} {mp : Bool}
theorem EntO.turn (h : EntO w base v ys) (k : Turn b ts mp w w') (h1 : 197 ∉ ts) (h2 : 167 ∉ ts) : EntO w' base v ys :=
  ⟨k.own h.row (.inl h1), fun y hy => ⟨k.own (h.lab y hy).1 (.inl h2), (h.lab y hy).2⟩⟩
theorem EntO.below (h : EntO w base v ys) (hb : Below w.heap.size w w') : EntO w' base v ys := h.turn (Turn.of_below hb 0 [] false) (by simp) (by simp)
theorem EntO.nil : EntO w base (.slice none 0 0) [] := ⟨World.ownsRow_nil _ _ _ _, by simp⟩
theorem EntO.snoc {v' : Value} {x : EntR} (h : EntO w base v ys) (hs : w.ownsRow base 167 2 x.lab.val x.lab.n (x.lab.l.flatMap Lbl.cells) ∧ x.lab.l.length = x.lab.n)
    (hown : w'.ownsRow base 197 3 v' (ys.length + 1) (ys.flatMap EntR.cells ++ x.cells)) (hg : w.grownBy w' v.ownBlock) : EntO w' base v' (ys ++ [x]) := by
  have k : Turn base [197] false w w' := Turn.of_own h.row (Nat.le_refl _) (by simp) hg
  refine ⟨by simpa using hown, fun y hy => ?_⟩
  rcases List.mem_append.1 hy with hy | hy
  · exact ⟨k.own (h.lab y hy).1 (.inl (by decide)), (h.lab y hy).2⟩
  · rw [List.mem_singleton.1 hy]; exact ⟨k.own hs.1 (.inl (by decide)), hs.2⟩
end
set_option maxHeartbeats 6400000 in
theorem batchRef_any (A : Option Addr) (n c : Nat) (xs : List EntR) (w : World) (h : EntF w A n xs) :
    Calls Tryz.prog 37 #[.slice A n c] w fun e w' => ∃ v ys, e = .returned v ∧ EntO w' w.heap.size v ys ∧ ys.map EntR.p = xs.map EntR.p ∧ Below w.heap.size w w' := by
  obtain ⟨iT, iT0, iT1, iT2, iT3⟩ := info_parts infoEnt18
  have H := hidden h
  have hn := h.few
  clear h
  go_enter Tryz.func37, Tryz.ntmps37
  go_wp2_with fail
  go_loopw [3, 8] (fun vv vi wr => ∃ (k : Nat) (ys : List EntR), vi = .int .i64 (k : Int) ∧ k ≤ n ∧ ys.length ≤ k ∧ Hid (EntO wr w.heap.size vv ys) ∧ Hid (ys.map EntR.p = (xs.take k).map EntR.p) ∧ Hid (Below w.heap.size w wr)) (fun _ vi _ => n - (intOf vi).toNat)
  case atStart => exact ⟨0, [], rfl, Nat.zero_le _, Nat.le_refl _, hidden EntO.nil, hidden rfl, hidden (Below.refl _ _)⟩
  case round =>
    obtain ⟨k, ys, rfl, hk, hyl, ho, he, hb⟩ := hrel
    have k0 : (0 : Int) ≤ (k : Int) := by omega
    obtain ⟨Av, cv, rfl, _, _⟩ := own_shape ho.out.row
    by_cases hlt : k < n
    · have k1 : (k : Int) < (n : Int) := by omega
      have fwk : IntKind.i64.wrap ((k : Int) + 1) = (k : Int) + 1 := Go.IntWalk.i64_in _ (by omega)
      have HLT := hidden (show k + 1 ≤ n from hlt)
      have hB := H.out.on hb.out
      obtain ⟨g, o, x, rfl, hg, hx, hc⟩ := row_at (enc := EntR.cells) (k := 3) (fun _ => rfl) hB.row hB.len k hlt
      have hlb := hB.labs x (List.mem_of_getElem? hx)
      have HX := hidden hx
      have c0 := hc 0 (by omega)
      have c1 := hc 1 (by omega)
      have c2 := hc 2 (by omega)
      obtain ⟨⟨lA, lN, lC, ll⟩, xt, xv⟩ := x
      simp only [EntR.cells, Sl.val, List.getElem?_cons_zero, List.getElem?_cons_succ, Nat.add_zero] at c0 c1 c2 hlb
      have hb4 : Below wr.heap.size wr (wr.alloc (.cells #[.slice lA lN lC, .int .i64 xt, .int .u64 (xv : Int)] 93)) := (Below.refl _ _).alloc (Nat.le_refl _) _
      have hw4 := Whole1.new wr 93 #[.slice lA lN lC, .int .i64 xt, .int .u64 (xv : Int)]
      obtain ⟨w4, he4⟩ : ∃ w4, wr.alloc (.cells #[.slice lA lN lC, .int .i64 xt, .int .u64 (xv : Int)] 93) = w4 := ⟨_, rfl⟩
      obtain ⟨Y, hY⟩ : ∃ Y, wr.heap.size = Y := ⟨_, rfl⟩
      rw [he4] at hb4 hw4
      rw [hY] at hw4
      have HB4 := hidden (hb.out.trans (hb4.mono hb.out.size))
      have HO4 := hidden (ho.out.below hb4)
      have HE4 := hidden he4
      have HYe := hidden hY
      have HW4 := hidden hw4
      have hlb4 := (hlb.1.on hb4).on (Below.refl w4.heap.size w4).drew
      have hlen := hlb.1.len
      have hfit := hlb.1.fit
      have SC := hidden (labelsRef18_any lA lN lC ll w4.drew hlb4.row hlen (by omega))
      have HLEN := hidden hlen
      have hsz := HB4.out.size
      clear hB hlb hlb4 hb4 hw4 he4 hY hx hc ho hb hlen
      go_upto_region 5 with (fail)
      rw [HE4.out, HYe.out]
      clear c0 c1 c2
      have e0 := HW4.out.cell 0
      have e1 := HW4.out.cell 1
      have e2 := HW4.out.cell 2
      go_region_law (first
        | (go_simp; go_at_call 24; refine SC.out.mono ?_; rintro e w3 ⟨v3, rfl, h3, b3⟩; obtain ⟨zA, zc, rfl, _, _⟩ := own_shape h3; have hbb : Below w4.heap.size w4 w3 := (Below.refl w4.heap.size w4).drew.trans b3; have HBB := hidden hbb; have q1 := (HW4.out.below hbb HW4.out.lt).cell 1; have q2 := (HW4.out.below hbb HW4.out.lt).cell 2; have HO3 := hidden (own_more h3 (base' := w.heap.size) hsz); have HEO := hidden (HO4.out.below hbb); have hb3s := hbb.size; have T := fun (ops : Array Oper) (o : Oper) (a : Act) (K : Act → World → Prop) (Q : Exit → Act → World → Prop) (E : Prop) (hg : o.guard = none) (s1 s2 : Operand) (ho : o.op = .call { callee := .builtin .append, args := #[s1, s2], argTypes := #[130, 130] }) (hs : a.eval s1 = .slice Av ys.length cv) (hx : a.eval s2 = .slice (some ⟨w3.heap.size, 0, none⟩) 1 1) h => step_appA (P := Tryz.prog) (ops := ops) (o := o) (a := a) (K := K) (Q := Q) (E := E) (w3.alloc (.cells #[.slice zA lN zc, .int .i64 xt, .int .u64 (xv : Int)] 197)) hg s1 s2 130 ho w.heap.size 197 iT _ 3 40 Tryz.underlying130 iT0 iT1 iT2 iT3 rfl (by decide) _ _ _ hs (HEO.out.row.alloc _) _ _ _ _ _ hx (Row.fresh w3 197 3 1 [.slice zA lN zc, .int .i64 xt, .int .u64 (xv : Int)] rfl) (by simp [Value.oneCell']) (by unfold maxLen; omega) (by omega) (by rw [World.size_alloc]; omega) h; clear b3 h3 hbb)
        | (refine T _ _ _ _ _ _ rfl _ _ rfl rfl rfl ?_; intro v10 w10 hown10 hg10 hat10; obtain ⟨A10, c10, rfl, _, _⟩ := own_shape hown10))
      all_goals
        have hba := HBB.out.alloc hb3s (.cells #[.slice zA lN zc, .int .i64 xt, .int .u64 (xv : Int)] 197)
        have hen := (HO4.out.below hba).snoc (x := ⟨⟨zA, lN, zc, ll⟩, xt, xv⟩) ⟨HO3.out.alloc _, HLEN.out⟩ hown10 hg10
        have HEN := hidden hen
        have HB10 := hidden ((HB4.out.trans (hba.mono HB4.out.size)).grown hg10 (by rw [World.size_alloc]; omega) (fun q e => (HEO.out.row.lt q e).1))
        have HM := hidden (show (ys ++ [(⟨⟨zA, lN, zc, ll⟩, xt, xv⟩ : EntR)]).map EntR.p = (xs.take (k + 1)).map EntR.p by rw [take_snoc? HX.out, List.map_append, List.map_append, he.out]; rfl)
        clear hba hen
        go_wp2_with fail
        go_roundw
        case rel => exact ⟨k + 1, _, by go_num, HLT.out, by rw [List.length_append, List.length_singleton]; omega, HEN, HM, HB10⟩
        case measure => have := HLT.out; simp [intOf]; omega
    · obtain rfl : n = k := by omega
      have HR := hidden (show ys.map EntR.p = xs.map EntR.p by rw [he.out, List.take_of_length_le (by rw [H.out.len]; exact Nat.le_refl _)])
      clear he
      go_wp2_with fail
      go_ret
      exact ⟨_, ys, rfl, ho.out, HR.out, hb.out⟩
end Go.Proofs.YthncochjhbmceaaGreat
