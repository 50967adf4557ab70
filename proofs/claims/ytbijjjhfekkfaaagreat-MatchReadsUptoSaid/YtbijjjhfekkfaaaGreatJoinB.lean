/- strings.Join at many texts, the comma between them. Condition: at most 2^24 texts of at most 2^30 bytes together. -/
import Derived.Test.YtbijjjhfekkfaaaGreatPk0a83deda
namespace Go.Proofs.YtbijjjhfekkfaaaGreat
set_option maxRecDepth 100000
open Go.RowKit

theorem size_mem {xs : List ByteArray} {x : ByteArray} (h : x ∈ xs) : x.size ≤ sizes xs := by
  induction xs with
  | nil => cases h
  | cons y xs ih =>
    simp only [sizes, List.map_cons, List.sum_cons] at *
    rcases List.mem_cons.1 h with rfl | h
    · omega
    · have := ih h; omega
theorem sizes_pre (xs : List ByteArray) (k : Nat) : sizes (xs.take k) ≤ sizes xs := by
  have h := List.take_append_drop k xs
  have : sizes xs = sizes (xs.take k) + sizes (xs.drop k) := by
    unfold sizes
    rw [← List.sum_append, ← List.map_append, h]
  omega
set_option maxHeartbeats 6400000 in
theorem joinB_any (A : Option Addr) (n c : Nat) (xs : List ByteArray) (w : World) (hr : Row w w.heap.size 1 A n (xs.map Value.string)) (hl : xs.length = n) (hn : n ≤ 16777216) (hsz : sizes xs ≤ 1073741824) (hnc : n ≤ c) :
    Calls Tryz.prog 60 #[.slice A n c, .string ⟨#[44]⟩] w fun e w' => e = .returned (.string ⟨(joinL xs).toArray⟩) ∧ Below w.heap.size w w' := by
  have HR := hidden hr
  have HL := hidden hl
  have HX := hidden (fun x (hx : x ∈ xs) => Nat.le_trans (size_mem hx) hsz)
  clear hr hl
  have hcell : Hid (∀ (k : Nat) (x : ByteArray), xs[k]? = some x → ∃ g o, A = some ⟨g, o, none⟩ ∧ g < w.heap.size ∧ w.cell? ⟨g, o + k, none⟩ = some (.string x)) := fun k x hk => by
    have hkl := (List.getElem?_eq_some_iff.1 hk).1
    obtain ⟨g, o, hA, hg, hc⟩ := HR.out.at_ (by have := HL.out; omega)
    refine ⟨g, o, hA, hg, ?_⟩
    rw [hc k (by have := HL.out; omega), List.getElem?_map, hk]; rfl
  by_cases h0 : n = 0
  · subst h0
    obtain rfl : xs = [] := List.eq_nil_of_length_eq_zero HL.out
    go_enter Tryz.func60, Tryz.ntmps60
    go_wp2_with fail
    go_ret
    exact ⟨rfl, Below.refl _ _⟩
  · by_cases h1 : n = 1
    · subst h1
      obtain ⟨x, rfl⟩ : ∃ x, xs = [x] := List.length_eq_one_iff.1 HL.out
      obtain ⟨g, o, rfl, _, hc⟩ := hcell.out 0 x rfl
      rw [Nat.add_zero] at hc
      have hj : Hid (x = ⟨(joinL [x]).toArray⟩) := bytes_eq (by simp [joinL])
      go_enter Tryz.func60, Tryz.ntmps60
      go_wp2_with fail
      go_ret
      rw [← hj.out]
      exact ⟨rfl, Below.refl _ _⟩
    · have n0 : ((n : Int) == 0) = false := by simp; omega
      have n1 : ((n : Int) == 1) = false := by simp; omega
      have hdv : decide ((9223372036854775807 : Int) / ((n : Int) - 1) ≤ 1) = false := by
        have h2 : (2 : Int) ≤ (9223372036854775807 : Int) / ((n : Int) - 1) := (Int.le_ediv_iff_mul_le (by omega)).2 (by omega)
        simp only [decide_eq_false_iff_not]
        omega
      obtain ⟨x0, hx0⟩ : ∃ x, xs[0]? = some x := ⟨_, List.getElem?_eq_getElem (by have := HL.out; omega)⟩
      obtain ⟨g, o, rfl, hg, hc0⟩ := hcell.out 0 x0 hx0
      rw [Nat.add_zero] at hc0
      have HX0 := hidden hx0
      have hz0 := HX.out x0 (List.mem_of_getElem? hx0)
      clear hx0
      have hsl := hsz
      go_enter Tryz.func60, Tryz.ntmps60
      go_wp2_with fail
      go_loopw [5, 41] (fun vt vi wr => ∃ (k : Nat) (t : Int), vi = .int .i64 k ∧ k ≤ n ∧ vt = .int .i64 t ∧ Hid (t = (n : Int) - 1 + (sizes (xs.take k) : Nat)) ∧ 0 ≤ t ∧ t ≤ 2147483647 ∧ w = wr) (fun _ vi _ => n - (intOf vi).toNat)
      case atStart => exact ⟨0, (n : Int) - 1, rfl, Nat.zero_le _, rfl, hidden (by simp [sizes]), by omega, by omega, rfl⟩
      case round =>
        obtain ⟨k, t, rfl, hk, rfl, ht, ht0, ht1, rfl⟩ := hrel
        have k0 : (0 : Int) ≤ (k : Int) := by omega
        by_cases hlt : k < n
        · have k1 : (k : Int) < (n : Int) := by omega
          obtain ⟨x, hxk⟩ : ∃ x, xs[k]? = some x := ⟨_, List.getElem?_eq_getElem (by have := HL.out; omega)⟩
          obtain ⟨g', o', he, _, hc⟩ := hcell.out k x hxk
          simp only [Option.some.injEq, Addr.mk.injEq, and_true] at he
          obtain ⟨rfl, rfl⟩ := he
          have hzx := HX.out x (List.mem_of_getElem? hxk)
          have hst := sizes_take hxk
          have hsk : sizes (xs.take (k + 1)) ≤ sizes xs := by
            have h := List.take_append_drop (k + 1) xs
            have : sizes xs = sizes (xs.take (k + 1)) + sizes (xs.drop (k + 1)) := by
              unfold sizes
              rw [← List.sum_append, ← List.map_append, h]
            omega
          have hgt : decide ((9223372036854775807 : Int) - t < (x.size : Int)) = false := by simp; omega
          have ht2 : Hid (t + (x.size : Int) = (n : Int) - 1 + (sizes (xs.take (k + 1)) : Nat)) := by rw [Hid, ht.out, hst]; omega
          have ht3 : t + (x.size : Int) ≤ 2147483647 := by rw [ht2.out]; omega
          clear hxk hst hsk
          go_wp2_with fail
          go_roundw
          case rel => exact ⟨k + 1, t + (x.size : Int), by go_num, by omega, by go_num, ht2, by omega, ht3, trivial⟩
          case measure => simp [intOf]; omega
        · have k1 : ¬ (k : Int) < (n : Int) := by omega
          obtain ⟨T, rfl⟩ : ∃ T : Nat, t = (T : Int) := ⟨t.toNat, by omega⟩
          clear ht
          have hbk : (w.alloc (.cells #[.pointer none, .slice none 0 0] 270)).heap[w.heap.size]? = some (.cells #[.pointer none, .slice none 0 0] 270 (0, 0)) := heap_alloc_new w _
          have hB : Below w.heap.size w (w.alloc (.cells #[.pointer none, .slice none 0 0] 270)) := (Below.refl _ _).alloc (Nat.le_refl _) _
          have S1 := hidden (bldGrow_any w.heap.size w.heap.size T (w.alloc (.cells #[.pointer none, .slice none 0 0] 270)) (Nat.le_refl _) hbk (by simp) (by omega))
          have HB := hidden hB
          clear hbk hB
          go_wp2_with fail
          refine S1.out.mono ?_
          rintro e w2 ⟨rfl, hb2, hbl2⟩
          have HB2 := hidden hb2
          have HBL2 := hidden (HB.out.trans hbl2)
          have hc2 := (HBL2.out.cell (p := ⟨g, o, none⟩) hg).trans hc0
          clear hb2 hbl2 S1
          go_wp2_with fail
          refine (bldStr_any w.heap.size w.heap.size [] x0 w2 (.inr HB2.out) (by simp; omega) (by have := HBL2.out.size; omega)).mono ?_
          rintro e w3 ⟨rfl, hb3, hbl3, _⟩
          have hj0 : [] ++ Lib.strCells x0 = Lib.byteCells (joinL (xs.take 1)) := by
            rw [take_snoc? HX0.out]; simp [joinL, Lib.strCells, Lib.byteCells]
          rw [hj0] at hb3
          have HB3 := hidden hb3
          have HBL3 := hidden (HBL2.out.trans hbl3)
          have hc1 : ¬ c = 1 := by omega
          clear hb3 hbl3 hj0 hc2
          go_wp2_with fail
          go_loopw [65] (fun vi wr => ∃ i : Nat, vi = .int .i64 i ∧ i ≤ n - 1 ∧ Hid (Lib.IsBuilder 270 5 w.heap.size w.heap.size (Lib.byteCells (joinL (xs.take (i + 1)))) wr) ∧ Below w.heap.size w wr) (fun vi _ => n - (intOf vi).toNat)
          case atStart => exact ⟨0, rfl, Nat.zero_le _, hidden (.inr HB3.out), HBL3.out⟩
          case round =>
            clear HB3 HBL3 HB2 HBL2 HB
            obtain ⟨i, rfl, hi, hb, hbl⟩ := hrel
            have i0 : (0 : Int) ≤ (i : Int) := by omega
            have HBL := hidden hbl
            have hlen : (Lib.byteCells (joinL (xs.take (i + 1)))).length ≤ 2147483647 := by
              rw [Lib.byteCells_length]
              have h1 := joinL_len (xs.take (i + 1))
              have h2 := sizes_pre xs (i + 1)
              have h3 : (xs.take (i + 1)).length ≤ 16777216 := by rw [List.length_take]; have := HL.out; omega
              omega
            clear hbl
            by_cases hlt : i < n - 1
            · have i1 : (i : Int) < ((n - 1 : Nat) : Int) := by omega
              obtain ⟨x, hxk⟩ : ∃ x, xs[i + 1]? = some x := ⟨_, List.getElem?_eq_getElem (by have := HL.out; omega)⟩
              obtain ⟨g', o', he, _, hc⟩ := hcell.out (i + 1) x hxk
              simp only [Option.some.injEq, Addr.mk.injEq, and_true] at he
              obtain ⟨rfl, rfl⟩ := he
              have hzx := HX.out x (List.mem_of_getElem? hxk)
              have hcw : wr.cell? ⟨g, o + 1 + i, none⟩ = some (.string x) := by
                rw [show o + 1 + i = o + (i + 1) by omega]
                exact (HBL.out.cell (p := ⟨g, o + (i + 1), none⟩) hg).trans hc
              have hjn := hidden (joinL_snoc (xs := xs) hxk)
              clear hxk hc
              go_wp2_with fail
              refine (bldStr_any w.heap.size w.heap.size _ ⟨#[44]⟩ wr hb.out (by show _ + 1 ≤ _; omega) (by have := HBL.out.size; omega)).mono ?_
              rintro e w5 ⟨rfl, hb5, hbl5, _⟩
              have HB5 := hidden hb5
              have HBL5 := hidden (HBL.out.trans hbl5)
              clear hb5 hbl5 hcw
              go_wp2_with fail
              refine (bldStr_any w.heap.size w.heap.size _ x w5 (.inr HB5.out) (by rw [List.length_append, show (Lib.strCells ⟨#[44]⟩).length = 1 from rfl]; omega) (by have := HBL5.out.size; omega)).mono ?_
              rintro e w6 ⟨rfl, hb6, hbl6, _⟩
              have hby : Lib.byteCells (joinL (xs.take (i + 1))) ++ Lib.strCells ⟨#[44]⟩ ++ Lib.strCells x = Lib.byteCells (joinL (xs.take (i + 1 + 1))) := by
                rw [hjn.out, Lib.byteCells_append, List.append_assoc]
                rfl
              rw [hby] at hb6
              have HB6 : Hid (Lib.IsBuilder 270 5 w.heap.size w.heap.size (Lib.byteCells (joinL (xs.take (i + 1 + 1)))) w6) := .inr hb6
              have HBL6 := hidden (HBL5.out.trans hbl6)
              clear hb6 hbl6 hby
              go_wp2_with fail
              go_roundw
              case rel => exact ⟨i + 1, by go_num, by omega, HB6, HBL6.out⟩
              case measure => simp [intOf]; omega
            · have i1 : ¬ (i : Int) < ((n - 1 : Nat) : Int) := by omega
              have hall : xs.take (i + 1) = xs := List.take_of_length_le (by have := HL.out; omega)
              rw [hall] at hb
              have hne := joinL_ne (xs := xs) (by have := HL.out; omega)
              go_wp2_with fail
              refine (bldString_any w.heap.size w.heap.size (joinL xs) wr hb.out hne).mono ?_
              rintro e w7 ⟨rfl, hbl7⟩
              have HBL7 := hidden (HBL.out.trans hbl7)
              clear hbl7
              go_wp2_with fail
              go_ret
              exact ⟨rfl, HBL7.out⟩
end Go.Proofs.YtbijjjhfekkfaaaGreat
