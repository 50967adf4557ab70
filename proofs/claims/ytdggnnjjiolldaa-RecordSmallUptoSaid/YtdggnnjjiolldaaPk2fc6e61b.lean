/- RecordSmall: samples of one series at small steps with like values take few bytes. Condition: the arguments are within the bulk that the statement names. -/
import Derived.Test.YtdggnnjjiolldaaPkc63d8a15
namespace Go.Proofs.Ytdggnnjjiolldaa
set_option maxRecDepth 100000
open Go.RowKit Go.WideShapes Go.ChangeShapes Go.Shelf

theorem wf_u8R {x : Int} (h : (Lit.int .u8 x).wf = true) : 0 ≤ x ∧ x < 256 := by
  have h1 : IntKind.u8.min = 0 := rfl
  have h2 : IntKind.u8.max = 255 := rfl
  simp only [Lit.wf, Bool.and_eq_true, decide_eq_true_eq] at h
  omega
/-- how far the steps go -/
def tsum (l : List Int) : Int := (l.map (· % 128)).sum
theorem tsum_snoc (l : List Int) (d : Int) : tsum (l ++ [d]) = tsum l + d % 128 := by simp [tsum]
theorem tsum_in (l : List Int) : 0 ≤ tsum l ∧ tsum l ≤ 127 * l.length := by
  induction l with
  | nil => simp [tsum]
  | cons x l ih =>
    have : tsum (x :: l) = x % 128 + tsum l := by simp [tsum]
    rw [this, List.length_cons]
    have := Int.emod_nonneg x (show (128 : Int) ≠ 0 by decide)
    have := Int.emod_lt_of_pos x (show (0 : Int) < 128 by decide)
    omega
/-- the samples that the steps make -/
def smallP (R : Int) (v : Nat) (l : List Int) : Nat → List PntR
  | 0 => []
  | k + 1 => smallP R v l k ++ [⟨R, tsum (l.take (k + 1)), v ^^^ (k % 128)⟩]
theorem smallP_len (R : Int) (v : Nat) (l : List Int) (k : Nat) : (smallP R v l k).length = k := by
  induction k with
  | zero => rfl
  | succ k ih => simp [smallP, ih]
theorem smallP_last (R : Int) (v : Nat) (l : List Int) (k : Nat) : lastP pnt0 (smallP R v l (k + 1)) = ⟨R, tsum (l.take (k + 1)), v ^^^ (k % 128)⟩ := by
  rw [smallP, lastP_snoc]
theorem smallP_mem {R : Int} {v : Nat} {l : List Int} {k : Nat} {x : PntR} (h : x ∈ smallP R v l k) : ∃ i, i < k ∧ x = ⟨R, tsum (l.take (i + 1)), v ^^^ (i % 128)⟩ := by
  induction k with
  | zero => cases h
  | succ k ih =>
    rcases List.mem_append.1 h with h | h
    · obtain ⟨i, hi, e⟩ := ih h; exact ⟨i, by omega, e⟩
    · exact ⟨k, by omega, List.mem_singleton.1 h⟩
theorem xor_small {a b : Nat} (h : a < 128) (k : b < 128) : a ^^^ b < 128 := Nat.xor_lt_two_pow (n := 7) h k
theorem xor_step (v a b : Nat) : (v ^^^ a) ^^^ (v ^^^ b) = a ^^^ b := by
  rw [Nat.xor_assoc, ← Nat.xor_assoc a v b, Nat.xor_comm a v, Nat.xor_assoc v a b, ← Nat.xor_assoc, Nat.xor_self, Nat.zero_xor]
theorem smallP_bytes {R : Int} {v : Nat} {l : List Int} (hR : 0 ≤ R ∧ R < 1099511627776) (hv : v < 18446744073709551616) : ∀ k, k < l.length → (pntsB pnt0 (smallP R v l (k + 1))).length ≤ 18 + 4 * k := by
  intro k
  induction k with
  | zero =>
    intro hk
    have e : smallP R v l 1 = [⟨R, tsum (l.take 1), v ^^^ 0⟩] := rfl
    have h1 : tsum (l.take 1) ≤ 127 ∧ 0 ≤ tsum (l.take 1) := by
      have := tsum_in (l.take 1)
      rw [List.length_take] at this
      omega
    have a1 := uintL_len 5 (zz (R - 0)) (by unfold zz; split <;> omega)
    have a2 := uintL_len 1 (zz (tsum (l.take 1) - 0)) (by unfold zz; split <;> omega)
    have a3 := uintL_ten (v := 0 ^^^ (v ^^^ 0)) (by rw [Nat.xor_zero, Nat.zero_xor]; exact hv)
    rw [e]
    simp only [pntsB, pntB, pnt0, intL, List.length_append, List.length_nil]
    omega
  | succ k ih =>
    intro hk
    have ih := ih (by omega)
    rw [smallP, pntsB_snoc, smallP_last, List.length_append]
    have hx : l[k + 1]? = some (l[k + 1]'hk) := List.getElem?_eq_getElem hk
    have ht : tsum (l.take (k + 1 + 1)) = tsum (l.take (k + 1)) + l[k + 1]'hk % 128 := by rw [take_snoc? hx, tsum_snoc]
    have m0 := Int.emod_nonneg (l[k + 1]'hk) (show (128 : Int) ≠ 0 by decide)
    have m1 := Int.emod_lt_of_pos (l[k + 1]'hk) (show (0 : Int) < 128 by decide)
    have a1 := uintL_len 0 (zz (R - R)) (by unfold zz; split <;> omega)
    have a2 := uintL_len 1 (zz (tsum (l.take (k + 1 + 1)) - tsum (l.take (k + 1)))) (by rw [ht]; unfold zz; split <;> omega)
    have a3 := uintL_len 0 ((v ^^^ (k % 128)) ^^^ (v ^^^ ((k + 1) % 128))) (by rw [xor_step]; exact xor_small (Nat.mod_lt _ (by decide)) (Nat.mod_lt _ (by decide)))
    simp only [pntB, intL, List.length_append]
    omega

set_option maxHeartbeats 3200000 in
theorem recordSmall_any (A : Option Addr) (n c : Nat) (l : List Int) (series : Int) (v : Nat) (w : World) (hr : Row w w.heap.size 1 A n (l.flatMap fun x => [Value.int .u8 x])) (hl : l.length = n) (hn : n ≤ 1048576) (hb : ∀ x ∈ l, 0 ≤ x ∧ x < 256) (hs : -9223372036854775808 ≤ series ∧ series ≤ 9223372036854775807) (hv : v < 18446744073709551616) :
    Calls Try.prog 4 #[.slice A n c, .int .i64 series, .int .u64 (v : Int)] w fun e w' => e = .returned (.bool true) ∧ Below w.heap.size w w' := by
  obtain ⟨i0, hi, hz0, hz1, hz2⟩ := info_parts infoPntR
  have HR := hidden hr
  have HL := hidden hl
  have HBY := hidden hb
  clear hr hl hb
  go_enter Try.func4, Try.ntmps4
  go_wp2_with fail
  refine (wakes15_any _).mono ?_
  rintro e w1 ⟨rfl, b1⟩
  have HB1 := hidden b1
  clear b1
  go_wp2_with fail
  have X0 := Whole1.new w1 26 #[.slice none 0 0, .slice none 0 0, .slice none 0 0]
  have hb2 : Below w1.heap.size w1 (w1.alloc (.cells #[.slice none 0 0, .slice none 0 0, .slice none 0 0] 26)) := (Below.refl _ _).alloc (Nat.le_refl _) _
  obtain ⟨w2, hw2⟩ : ∃ w2, w1.alloc (.cells #[.slice none 0 0, .slice none 0 0, .slice none 0 0] 26) = w2 := ⟨_, rfl⟩
  obtain ⟨X, hX⟩ : ∃ X, w1.heap.size = X := ⟨_, rfl⟩
  have hs2 : w2.heap.size = X + 1 := by rw [← hw2, World.size_alloc, hX]
  rw [hw2] at X0 hb2 ⊢
  rw [hX] at X0 ⊢
  have HB2 := hidden (HB1.out.trans (hb2.mono HB1.out.size))
  have HXG := hidden (show w.heap.size ≤ X by rw [← hX]; exact HB1.out.size)
  have HX0 := hidden X0
  have HS2 := hidden hs2
  have HRB := hidden (HB2.out)
  clear hw2 hb2 X0 hX hs2
  obtain ⟨R, hR⟩ : ∃ R, (max 0 series) % 1099511627776 = R := ⟨_, rfl⟩
  have hR1 : 0 ≤ R ∧ R < 1099511627776 := by omega
  have HRR := hidden hR
  go_loopw [8, 17] (fun vt vi wr => ∃ (k : Nat) (vP : Value), k ≤ n ∧ vt = .int .i64 (tsum (l.take k)) ∧ vi = .int .i64 k ∧ Hid (Whole1 wr X 26 #[.slice none 0 0, vP, .slice none 0 0]) ∧ Hid (wr.ownsRow (X + 1) 42 3 vP k ((smallP R v l k).flatMap PntR.cells)) ∧ Hid (Below w.heap.size w wr) ∧ Hid (X + 1 ≤ wr.heap.size)) (fun _ vi _ => n - (intOf vi).toNat)
  case atStart => exact ⟨0, _, Nat.zero_le _, rfl, rfl, HX0, hidden (World.ownsRow_nil _ _ _ _), HB2, hidden (by rw [HS2.out]; exact Nat.le_refl _)⟩
  case round =>
    obtain ⟨k, vP, hkn, rfl, rfl, hX, hown, hB, hS⟩ := hrel
    have k0 : (0 : Int) ≤ (k : Int) := by omega
    by_cases hlt : k < n
    · have k1 : (k : Int) < (n : Int) := by omega
      obtain ⟨gs, o, x, rfl, _, hx, hcl⟩ := row_at (enc := fun x : Int => [Value.int .u8 x]) (k := 1) (fun _ => rfl) (HR.out.below hB.out) HL.out k hlt
      have c0 : wr.cell? ⟨gs, o + k, none⟩ = some (.int .u8 x) := by have := hcl 0 (by omega); simpa using this
      obtain ⟨pA, pc, hvP, hpc, _⟩ := own_shape hown.out
      subst hvP
      have x1 := hX.out.cell 1
      have HXM := hidden (HBY.out x (List.mem_of_getElem? hx))
      obtain ⟨T, hT⟩ : ∃ T, tsum (l.take (k + 1)) = T := ⟨_, rfl⟩
      have hts : T = tsum (l.take k) + x % 128 := by rw [← hT, take_snoc? hx, tsum_snoc]
      have htb := tsum_in (l.take (k + 1))
      rw [hT, List.length_take] at htb
      have w1 : wrap64 (tsum (l.take k) + x % 128) = T := by rw [← hts, wrap64_at (by omega) (by omega)]
      have w2 : T.tmod 1125899906842624 = T := Int.tmod_eq_of_lt htb.1 (by omega)
      obtain ⟨z, hz⟩ : ∃ z : Nat, v ^^^ (k % 128) = z := ⟨_, rfl⟩
      have w3 : bits .xor .u64 (v : Int) ((k : Int) % 128) = (z : Int) := by
        have := u64_xor_nat v (k % 128) hv (by omega)
        rw [hz] at this
        exact this
      have HZ := hidden (show smallP R v l (k + 1) = smallP R v l k ++ [⟨R, T, z⟩] by rw [smallP, hT, hz])
      have HTT := hidden hT
      have hxm := HXM.out
      clear hx hcl hts htb hT hz
      have HA := hidden (hX.out.alloc (.cells #[.int .i64 R, .int .i64 T, .int .u64 (z : Int)] 42))
      have hfr := Row.fresh wr 42 3 1 [.int .i64 R, .int .i64 T, .int .u64 (z : Int)] rfl
      have hwn := hown.out
      have hSS := hS.out
      have DO := hidden (fun (w7 : World) (hg7 : World.grownBy (wr.alloc (.cells #[.int .i64 R, .int .i64 T, .int .u64 (z : Int)] 42)) w7 (Value.slice pA k pc).ownBlock) => HA.out.grown hg7 fun e => by have := (hown.out.lt X e.symm).1; omega)
      go_wp2_with (at_builtin; refine wpList_app _ rfl _ _ 23 rfl (X + 1) 42 i0 _ 3 24 Try.underlying23 hi hz0 hz1 hz2 rfl (by decide) _ _ _ rfl (hwn.alloc _) _ _ _ _ _ rfl hfr (by simp [Value.oneCell']) (by unfold maxLen; omega) (by omega) (by simp; omega) ?_; intro v7 w7 hown7 hg7 _; obtain ⟨A7, c7, rfl, _, _⟩ := own_shape hown7; have D7 := DO.out w7 hg7; have f7 := D7.free 1; have o7 := D7.cell 1)
      refine ⟨⟨k + 1, _, by omega, by rw [HTT.out], rfl, hidden (D7.put 1 _), hidden (ownsRow_setCell_below (a := ⟨X, 1, none⟩) (by rw [HZ.out, List.flatMap_append]; simpa [PntR.cells] using hown7) (by simp) _), hidden (((hB.out.alloc hB.out.size _).grown hg7 (by rw [World.size_alloc]; have := hB.out.size; omega) (fun j hj => by have := (hown.out.lt j hj).1; have := HXG.out; omega)).setCell (p := ⟨X, 1, none⟩) HXG.out _), hidden ?_⟩, by simp only [intOf]; omega⟩
      have := hg7.size
      rw [World.size_alloc] at this
      simp only [World.setCell, Array.size_modify]
      omega
    · obtain rfl : k = n := by omega
      obtain ⟨pA, pc, hvP, hpc, _⟩ := own_shape hown.out
      subst hvP
      have x0 := hX.out.cell 0
      have x1 := hX.out.cell 1
      have x2 := hX.out.cell 2
      have hlen := smallP_len R v l k
      have hown' : wr.ownsRow (X + 1) 42 3 (Sl.val ⟨pA, k, pc, smallP R v l k⟩) (smallP R v l k).length ((smallP R v l k).flatMap PntR.cells) := by rw [hlen]; exact hown.out
      have hsl := sl_own hown'
      have hpt : ∀ x ∈ smallP R v l k, fitPnt x ∧ x.v < 18446744073709551616 := by
        intro x hx
        obtain ⟨i, hi, rfl⟩ := smallP_mem hx
        have ht := tsum_in (l.take (i + 1))
        rw [List.length_take] at ht
        refine ⟨⟨⟨hR1.1, by simp only; omega⟩, ht.1, by simp only; omega⟩, xor_lt64 hv (by have := Nat.mod_lt i (show 0 < 128 by decide); omega)⟩
      have hAt : RecR.At wr ⟨Sl.nil, ⟨pA, k, pc, smallP R v l k⟩, Sl.nil⟩ := by
        refine ⟨⟨Nat.le_refl _, rfl, Row.nil⟩, fun x hx => (List.not_mem_nil hx).elim, fun x hx => (List.not_mem_nil hx).elim, hsl, fun x hx => ?_, ⟨Nat.le_refl _, rfl, Row.nil⟩, fun x hx => (List.not_mem_nil hx).elim, fun x hx => (List.not_mem_nil hx).elim, by simp only [Sl.nil, List.map_nil, List.sum_nil]; omega⟩
        obtain ⟨⟨⟨q1, q2⟩, q3, q4⟩, q5⟩ := hpt x hx
        omega
      have S1 := hidden (recEnc_any _ wr hAt)
      by_cases h0 : k = 0
      · subst h0
        have hne : ¬ fitRec ⟨Sl.nil, ⟨pA, 0, pc, smallP R v l 0⟩, Sl.nil⟩ := fun h => by
          have := h.2.2.2
          simp [Sl.nil] at this
        rw [encRec, if_neg hne] at S1
        clear hsl hpt hAt hlen hown'
        go_wp2_with fail
        refine S1.out.mono ?_
        rintro e w5 ⟨rfl, b5⟩
        have HB5 := hidden (hB.out.trans (b5.mono hB.out.size))
        clear b5 S1
        go_wp2_with fail
        go_ret
        exact ⟨rfl, HB5.out⟩
      · have hfit : fitRec ⟨Sl.nil, ⟨pA, k, pc, smallP R v l k⟩, Sl.nil⟩ := ⟨fun x hx => (List.not_mem_nil hx).elim, fun x hx => (hpt x hx).1, fun x hx => (List.not_mem_nil hx).elim, by simp only [Sl.nil]; omega⟩
        rw [encRec, if_pos hfit] at S1
        obtain ⟨j, rfl⟩ : ∃ j, k = j + 1 := ⟨k - 1, by omega⟩
        have hbits := smallP_bytes (l := l) hR1 hv j (by have := HL.out; omega)
        have u1 := uintL_len 2 (j + 1) (by have : (128 : Nat) ^ 3 = 2097152 := by decide
                                           omega)
        have hz : (uintL 0).length = 1 := by rw [uintL_small (by decide)]; rfl
        have hsz : (recB ⟨Sl.nil, ⟨pA, j + 1, pc, smallP R v l (j + 1)⟩, Sl.nil⟩).length ≤ 26 + 8 * (j + 1) := by
          simp only [recB, Sl.nil, List.length_append, List.length_nil, newsB, gonsB, List.flatMap_nil, hlen, hz]
          omega
        obtain ⟨T, hT⟩ : ∃ T, (⟨(recB ⟨Sl.nil, ⟨pA, j + 1, pc, smallP R v l (j + 1)⟩, Sl.nil⟩).toArray⟩ : ByteArray) = T := ⟨_, rfl⟩
        have hTs : T.size ≤ 26 + 8 * (j + 1) := by rw [← hT]; simpa [ByteArray.size] using hsz
        rw [hT] at S1
        have hne : (((j + 1 : Nat) : Int) == 0) = false := by simp; omega
        clear hsl hpt hAt hlen hown' hfit hbits u1 hz hsz hT
        go_wp2_with fail
        refine S1.out.mono ?_
        rintro e w5 ⟨rfl, b5⟩
        have HB5 := hidden (hB.out.trans (b5.mono hB.out.size))
        clear b5 S1
        go_wp2_with fail
        go_ret
        exact ⟨ret_bool (decide_eq_true (by omega)), HB5.out⟩

theorem recordSmall_walk {H : Type} (enc : TypeId × Value → H) : LawWalk enc Try.prog 4 Try.f4 (fun ds => Rows.uptoBulkAll ds ≤ 1048576) := by
  intro W base args ds p hval hA hlt hsz hcond
  rw [Try.params4] at hval hA hsz
  obtain ⟨v0, vs0, d0, ds0, p0, q0, hargs, rfl, rfl, h0, r0⟩ := trodAll_cons hA
  obtain ⟨v1, vs1, d1, ds1, p1, q1, rfl, rfl, rfl, h1, r1⟩ := trodAll_cons r0
  obtain ⟨v2, vs2, d2, ds2, p2, q2, rfl, rfl, rfl, h2, r2⟩ := trodAll_cons r1
  obtain ⟨rfl, rfl, rfl⟩ := trodAll_nil r2
  obtain rfl : args = #[v0, v1, v2] := by cases args; simp_all
  obtain ⟨n, rfl, hn⟩ := open_arg_int Try.underlying3 (hval 1 3 v1 rfl rfl) h1
  obtain ⟨v, rfl, hv⟩ := open_arg_int Try.underlying40 (hval 2 40 v2 rfl rfl) h2
  obtain ⟨s, rfl, hs, hg, _, hb⟩ := open_arg_slice (k := 1) (f := fun n : Int => [Value.int .u8 n]) Try.underlying39 (by kernel_rfl) (by decide) (fun _ => rfl) (opens_int Try.underlying5) (hval 0 39 v0 rfl rfl) h0 (arg_fits (b := 1048576) (j := 0) rfl rfl (fun x hx => hlt x (by simp [hx])) hsz hcond)
  have hv2 := wf_u64R hv
  have e : ((v.toNat : Nat) : Int) = v := by omega
  have := recordSmall_any s.A s.n s.c s.l n v.toNat W hs.2.2 hs.2.1 hb (fun x hx => wf_u8R (hg x hx)) (wf_i64R hn) (by omega)
  rw [e] at this
  exact this

namespace recordSmallUpto
set_option maxRecDepth 100000 in
theorem lifted (os : Os) (started : os.Started) (H : Type) (enc : TypeId × Value → H) (F : Stop.Interp) :
    ReturnsInHanded {} Try.checked os 4 .any ((Rows.OpenSpec.upto Rows.recordSmallSpec).pre6 enc Try.prog Try.f4 Rows.recordSmallUptoRow.domain false) (((Rows.OpenSpec.upto Rows.recordSmallSpec).at F).post enc Try.prog Try.f4 false true false false) :=
  law_upto (C := Try.checked) (s := Rows.recordSmallSpec) (tb := 4) own_prog started (by kernel_rfl) Try.func4
    (OpenSpec.witness (enc := enc) (C := Try.checked) (s := Rows.OpenSpec.upto Rows.recordSmallSpec) (k := Rows.uptoSmall) rfl false ⟨#[], #[.slice none 0 0, .int .i64 0, .int .u64 0], []⟩ 8 (by kernel_rfl) (by kernel_rfl) (by kernel_rfl)
      (x := ([.nil, .lit (.int .i64 0), .lit (.int .u64 0)], [], [])) (by kernel_rfl) rfl (by kernel_rfl))
    laidOut (by kernel_rfl) rfl Try.underlying4 ⟨rfl, fun H ds h => match ds, h with | [_, _, _], _ => ⟨rfl, rfl, rfl⟩⟩ (recordSmall_walk enc)

theorem proved : Rows.RecordSmallUptoSaid :=
  OpenClaim.holds_of_cond 4 Try.f4 rfl rfl rfl rfl rfl rfl rfl ⟨rfl, rfl, rfl, rfl, rfl⟩ rfl rfl rfl rfl rfl (by kernel_rfl) Try.func4 (by kernel_rfl)
    (of_decide_eq_true (by kernel_rfl)) (by unfold Func.isWrapper; first | (rw [if_pos (by decide +kernel)]; kernel_rfl) | (rw [if_neg (by decide +kernel)]; exact ⟨rfl, rfl⟩))
    (fun os started H enc _ F => lifted os started H enc F)
#print axioms proved
end recordSmallUpto

end Go.Proofs.Ytdggnnjjiolldaa
