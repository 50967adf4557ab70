/- labels.Show and the reference's: a set as a text. Condition: the row is within the reach. -/
import Derived.Test.YtfidneoakcejgaaLabVal
import Derived.Test.YtfidneoakcejgaaJoin
import Derived.Test.YtfidneoakcejgaaRQuo
import Derived.Test.YtfidneoakcejgaaAppFull
namespace Go.Proofs.Ytfidneoakcejgaa
set_option maxRecDepth 100000
open Go.RowKit

/-- one label as a text -/
def partL (x : Lbl) : List UInt8 := x.name.data.toList ++ 61 :: quoteL x.value.data.toList
def partB (x : Lbl) : ByteArray := ⟨(partL x).toArray⟩
/-- a list as a text -/
def showP (l : List Lbl) : List UInt8 := joinL (l.map partB)
def showL (l : List Lbl) : List UInt8 := if validP l then showP l else []
theorem valid_small {l : List Lbl} (h : validP l) : l.length ≤ 8 ∧ ∀ x ∈ l, x.name.size ≤ 32 ∧ x.value.size ≤ 64 := by
  obtain ⟨h1, h2, h3⟩ := makeErr_ok h.1
  refine ⟨h2, fun x hx => ?_⟩
  obtain ⟨a, b⟩ := make_fits h3 x hx
  unfold fitN at a
  unfold fitV at b
  simp only [Bool.and_eq_true, decide_eq_true_eq] at a b
  exact ⟨a.2.2, b.2⟩
theorem partB_size {x : Lbl} (h1 : x.name.size ≤ 32) (h2 : x.value.size ≤ 64) : (partB x).size ≤ 1000 := by
  have e : (partB x).size = (partL x).length := rfl
  have h3 := quoL_len x.value.data.toList
  have e1 : x.name.data.toList.length = x.name.size := rfl
  have e2 : x.value.data.toList.length = x.value.size := rfl
  rw [e]
  simp only [partL, quoteL, List.length_append, List.length_cons, List.length_nil]
  omega
theorem infoStr : (Try.prog.info? 9).map (fun i => (i.zero, i.size, i.bytes)) = some (some (.string ⟨#[]⟩), 1, 16) := by kernel_rfl

set_option maxHeartbeats 6400000 in
theorem lshow_any (A : Option Addr) (n c : Nat) (l : List Lbl) (w : World) (h : LbF w A n l) (hnc : n ≤ c) :
    Calls Try.prog 39 #[.slice A n c] w fun e w' => e = .returned (.string ⟨(showL l).toArray⟩) ∧ Below w.heap.size w w' := by
  obtain ⟨i0, hi, hz0, hz1, hz2⟩ := info_parts infoStr
  have H := hidden h
  have S1 := hidden (lvalid_any A n c l w h hnc)
  clear h
  by_cases hv : validP l
  · have hS : Hid (showL l = showP l) := if_pos hv
    have hsm := hidden (valid_small hv)
    rw [decide_eq_true hv] at S1
    have hn8 : n ≤ 8 := by have := hsm.out.1; have := H.out.len; omega
    clear hv
    go_enter Try.func39, Try.ntmps39
    go_wp2_with fail
    refine S1.out.mono ?_
    rintro e w2 ⟨rfl, b2⟩
    have HB2 := hidden b2
    clear b2 S1
    go_wp2_with fail
    go_loopw [3, 11] (fun vp vi wr => ∃ (k : Nat) (v : Value), v = vp ∧ vi = .int .i64 k ∧ k ≤ n ∧ wr.ownsRow w.heap.size 9 1 v k (((l.take k).map partB).map Value.string) ∧ Below w.heap.size w wr) (fun _ vi _ => n - (intOf vi).toNat)
    case atStart => exact ⟨0, _, rfl, rfl, Nat.zero_le _, by simpa using World.ownsRow_nil _ _ _ _, HB2.out⟩
    case round =>
      obtain ⟨k, v, rfl, rfl, hk, hown, hb⟩ := hrel
      obtain ⟨A1, c1, rfl, hc1, hr1⟩ := own_shape hown
      have k0 : (0 : Int) ≤ (k : Int) := by omega
      by_cases hlt : k < n
      · have k1 : (k : Int) < (n : Int) := by omega
        obtain ⟨g, o, x, rfl, hg, hx, d0, d1, hxm⟩ := lb_cells (H.out.on hb) hlt
        have hsz := hsm.out.2 x hxm
        have hT := hidden (take_snoc? hx)
        have HB := hidden hb
        have HOW := hidden hown
        clear hx hxm hb hr1
        have hXw := Whole1.new wr 39 #[.string x.name, .string x.value]
        have hBa : Below wr.heap.size wr (wr.alloc (.cells #[.string x.name, .string x.value] 39)) := (Below.refl _ _).alloc (Nat.le_refl _) _
        have HOW1 := hidden (own_below hown hBa (Nat.le_refl _))
        have HB1 := hidden (HB.out.trans (hBa.mono HB.out.size))
        have hXo : Hid (some wr.heap.size ≠ (Value.slice A1 k c1).ownBlock) := fun e => by
          have := (HOW.out.lt wr.heap.size e.symm).2
          omega
        clear hown
        go_wp2_with fail
        obtain ⟨X, hX⟩ : ∃ X, wr.heap.size = X := ⟨_, rfl⟩
        rw [hX] at hXw hXo ⊢
        generalize wr.alloc (.cells #[.string x.name, .string x.value] 39) = w1 at *
        have HXW := hidden hXw
        obtain ⟨q, hq⟩ : ∃ q : ByteArray, (⟨(quoteL x.value.data.toList).toArray⟩ : ByteArray) = q := ⟨_, rfl⟩
        have HQ := hidden hq
        have hqs : q.size ≤ 258 := by
          rw [← hq]
          show (quoteL x.value.data.toList).length ≤ 258
          have h3 := quoL_len x.value.data.toList
          have e2 : x.value.data.toList.length = x.value.size := rfl
          simp only [quoteL, List.length_append, List.length_cons, List.length_nil]
          omega
        have S2 := hidden (fun W => lquote_any x.value W (by omega))
        rw [hq] at S2
        clear hq
        have hpart : Hid (x.name ++ ⟨#[61]⟩ ++ q = partB x) := by
          rw [Hid, ← HQ.out]
          exact bytes_eq (by simp [partB, partL])
        obtain ⟨pt, hpt⟩ : ∃ pt, x.name ++ ⟨#[61]⟩ ++ q = pt := ⟨_, rfl⟩
        have HPT := hidden (hpt.symm.trans hpart.out)
        have hn1 : x.name.size ≤ 32 := hsz.1
        have n1 : ¬ (9223372036854775807 < x.name.size + 1) := by omega
        have n2 : ¬ (9223372036854775807 < x.name.size + 1 + q.size) := by omega
        have hone : ∀ u ∈ [Value.string pt], u.oneCell' = true := by simp [Value.oneCell']
        have T1 := fun (W : World) (bk cp : Nat) (ops : Array Oper) (o : Oper) (a0 : Act) (K0 : Act → World → Prop) (Q0 : Exit → Act → World → Prop) (E0 : Prop) (hg : o.guard = none) (s1 s2 : Operand) (ho : o.op = .call { callee := .builtin .append, args := #[s1, s2], argTypes := #[108, 108] }) (hs : a0.eval s1 = .slice A1 k c1) (hx : a0.eval s2 = .slice (some ⟨bk, 0, none⟩) 1 cp) (hb : Below w1.heap.size w1 W) (hr : Row W W.heap.size 1 (some ⟨bk, 0, none⟩) 1 [.string pt]) (h : ∀ v' w', w'.ownsRow w.heap.size 9 1 v' (k + 1) (((l.take k).map partB).map Value.string ++ [.string pt]) → (w'.cell? ⟨X, 0, none⟩ = some (.string x.name) ∧ w'.cell? ⟨X, 1, none⟩ = some (.string x.value)) → Below w.heap.size w w' → K0 (a0.put o.dst v') w') =>
          step_appW (P := Try.prog) (w := W) (ops := ops) (o := o) (a := a0) (K := K0) (Q := Q0) (E := E0) hg s1 s2 108 ho w.heap.size 9 i0 _ 1 16 Try.underlying108 hi hz0 hz1 hz2 rfl (by decide) (.slice A1 k c1) k _ hs (own_below HOW1.out hb (Nat.le_refl _)) _ _ 1 cp [.string pt] hx hr hone (by unfold maxLen; omega) (by omega) (by have := HB1.out.size; have := hb.size; omega) (fun v' w' h1 h2 _ => h v' w' h1 (by
            have hz := (HXW.out.below hb HXW.out.lt).grown h2 hXo.out
            exact ⟨hz.cell 0, hz.cell 1⟩) ((HB1.out.trans (hb.mono HB1.out.size)).grown h2 (by have := HB1.out.size; have := hb.size; omega) (fun q hq => (HOW.out.lt q hq).1)))
        have HS := hidden (fun (W : World) (hW : Below w1.heap.size w1 W) => And.intro ((hW.cell (p := ⟨X, 0, none⟩) HXW.out.lt).trans (HXW.out.cell 0)) ((hW.cell (p := ⟨X, 1, none⟩) HXW.out.lt).trans (HXW.out.cell 1)))
        go_region_held3 (fun w' => w'.cell? ⟨X, 0, none⟩ = some (.string x.name) ∧ w'.cell? ⟨X, 1, none⟩ = some (.string x.value))
          (first | exact HS.out _ (Below.refl _ _) | exact HS.out _ (Below.refl _ _).drew | exact HS.out _ (by assumption) | exact HS.out _ (below_allocd (by assumption) _) | assumption)
          (first | (go_at_call 28; refine (S2.out _).mono ?_; rintro e w5 ⟨rfl, b5⟩; have hb5 : Below w1.heap.size w1 w5 := (Below.refl _ _).drew.trans b5) | (refine T1 _ _ _ _ _ _ _ _ _ rfl _ _ rfl rfl rfl (by first | exact below_allocd (by assumption) _ | assumption) ?_ ?_; (focus (repeat (first | exact fresh_at _ _ _ _ (by first | rfl | simp) | apply Row.drewd))); intro v6 w6 hown6 hS6 hB6; obtain ⟨A6, c6, rfl, hc6, hr6⟩ := own_shape hown6))
        all_goals
          have hrow : ((l.take k).map partB).map Value.string ++ [.string pt] = ((l.take (k + 1)).map partB).map Value.string := by
            rw [hT.out, HPT.out]; simp
          rw [hrow] at hown6
          have HO6 := hidden hown6
          have HB6 := hidden hB6
          clear hown6 hS6 hB6 hr6 T1 hrow hpt
          go_wp2_with fail
          go_roundw
          case rel => exact ⟨k + 1, _, rfl, by go_num, by omega, HO6.out, HB6.out⟩
          case measure => simp [intOf]; omega
      · obtain rfl : n = k := by omega
        have k1 : ¬ (n : Int) < (n : Int) := by omega
        rw [List.take_of_length_le (by rw [H.out.len]; exact Nat.le_refl _)] at hr1
        have S3 := hidden (join_any A1 n c1 (l.map partB) wr hr1 (by rw [List.length_map]; exact H.out.len) hn8 (fun y hy => by
          obtain ⟨x, hx, rfl⟩ := List.mem_map.1 hy
          exact partB_size (hsm.out.2 x hx).1 (hsm.out.2 x hx).2) hc1)
        have HB := hidden hb
        clear hr1 hown hb
        go_wp2_with fail
        refine S3.out.mono ?_
        rintro e w7 ⟨rfl, b7⟩
        have HB7 := hidden (HB.out.trans (b7.mono HB.out.size))
        clear b7 S3
        go_wp2_with fail
        go_ret
        rw [hS.out]
        exact ⟨rfl, HB7.out⟩
  · have hS : Hid (showL l = []) := if_neg hv
    rw [decide_eq_false hv] at S1
    go_enter Try.func39, Try.ntmps39
    go_wp2_with fail
    refine S1.out.mono ?_
    rintro e w2 ⟨rfl, b2⟩
    have HB2 := hidden b2
    clear b2 S1
    go_wp2_with fail
    go_ret
    rw [hS.out]
    exact ⟨rfl, HB2.out⟩
end Go.Proofs.Ytfidneoakcejgaa
