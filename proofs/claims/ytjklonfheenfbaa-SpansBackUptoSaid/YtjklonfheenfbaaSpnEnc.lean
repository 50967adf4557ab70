/- spans.Encode, walked. -/
import Derived.Test.YtjklonfheenfbaaEncU
import Derived.Test.YtjklonfheenfbaaSpnOf
namespace Go.Proofs.Ytjklonfheenfbaa
set_option maxRecDepth 100000
open Go.RowKit Go.Shelf

def encS (l : List Spn) : List UInt8 := l.flatMap fun x => intL x.frm ++ intL x.til
def encL (R : List Spn) : List UInt8 := uintL R.length ++ encS R

theorem encS_len (l : List Spn) (h : ∀ x ∈ l, x.ok) : (encS l).length ≤ l.length * 20 := by
  induction l with
  | nil => simp [encS]
  | cons x l ih =>
    have := ih fun y hy => h y (List.mem_cons_of_mem _ hy)
    obtain ⟨h1, h2, h3, h4⟩ := h x (List.mem_cons_self ..)
    have e1 := uintL_ten (zz_lt h1 h2)
    have e2 := uintL_ten (zz_lt h3 h4)
    simp only [encS, List.flatMap_cons, List.length_append, List.length_cons, intL] at *
    omega

set_option maxHeartbeats 2000000 in
theorem encode_any (A : Option Addr) (n c : Nat) (l : List Spn) (w : World) (hr : Row w w.heap.size 2 A n (l.flatMap Spn.cells)) (hl : l.length = n) (hn : n * 16 ≤ 140737488351232) (hn2 : n * 20 + 10 ≤ 140737488355328) (hok : ∀ x ∈ l, x.ok) :
    Calls Try.prog 36 #[.slice A n c] w fun e w' => ∃ R, OfRes l R ∧ e = .returned (.string ⟨(encL R).toArray⟩) ∧ Below w.heap.size w w' := by
  have HO := hidden (spnOf_any A n c l w hr hl hn hok)
  clear hr hl
  go_enter Try.func36, Try.ntmps36
  go_wp2_with fail
  refine HO.out.mono ?_
  rintro e w1 ⟨v, R, rfl, ho, hR, hlen, hb1⟩
  clear HO
  have HRes := hidden hR
  have HOK := hidden (hR.ok hok)
  obtain ⟨m, hm⟩ : ∃ m, R.length = m := ⟨_, rfl⟩
  rw [hm] at ho hlen
  obtain ⟨A2, c2, rfl, hc2, hr2⟩ := own_shape ho
  have HR2 := hidden hr2
  have HM := hidden hm
  have B1 := hidden hb1
  clear hR hm ho hr2 hb1 hok
  go_wp2_with fail
  have hI := bld_new w1
  have hB : Below w1.heap.size w1 (w1.alloc (.cells #[.pointer none, .slice none 0 0] 130)) := (Below.refl _ _).alloc (Nat.le_refl _) _
  generalize w1.alloc (.cells #[.pointer none, .slice none 0 0] 130) = w2 at hI hB ⊢
  obtain ⟨g, hg⟩ : ∃ g, w1.heap.size = g := ⟨_, rfl⟩
  have HG := hidden hg
  rw [hg] at hI hB ⊢
  have hU := uint_any m w2 (by omega)
  go_wp2_with fail
  refine hU.mono ?_
  rintro e w3 ⟨rfl, hb3⟩
  have hI3 := bld_below hI hb3
  have hs3 : g ≤ w2.heap.size := by have := hB.size; omega
  have B3 : Below g w1 w3 := hB.trans (hb3.mono hs3)
  clear hI hU hB
  go_wp2_with fail
  refine (bldStr_any g g (Lib.byteCells []) ⟨(uintL m).toArray⟩ w3 hI3 (by have := uintL_ten (v := m) (by omega); simp [Lib.byteCells, ByteArray.size]; omega) (by have := B3.size; omega)).mono ?_
  rintro e w4 ⟨rfl, hI4, hb4, _⟩
  have hI4' : Lib.IsBuilder 130 5 g g (Lib.byteCells (uintL m)) w4 := .inr hI4
  have B4 := B3.trans hb4
  clear hI3 hb3 hs3 B3 hI4 hb4
  go_wp2_with fail
  go_loopw [16] (fun i wr => ∃ (k : Nat), k ≤ m ∧ i = .int .i64 k ∧ Lib.IsBuilder 130 5 g g (Lib.byteCells (uintL m ++ encS (R.take k))) wr ∧ Below g w1 wr) (fun i _ => m - (intOf i).toNat)
  case atStart => exact ⟨0, Nat.zero_le _, rfl, by simpa [encS] using hI4', B4⟩
  case round =>
    obtain ⟨k, hk, rfl, hbd, hb⟩ := hrel
    clear hI4' B4
    by_cases hlt : k < m
    · obtain ⟨gs, o, x, rfl, _, hx, hcl⟩ := row_at spnK (HR2.out.below (HG.out ▸ hb)) HM.out k hlt
      have c0 : wr.cell? ⟨gs, o + k * 2, none⟩ = some (.int .i64 x.frm) := hcl 0 (by omega)
      have c1 : wr.cell? ⟨gs, o + k * 2 + 1, none⟩ = some (.int .i64 x.til) := hcl 1 (by omega)
      have hT : Hid (encS (R.take (k + 1)) = encS (R.take k) ++ (intL x.frm ++ intL x.til)) := by rw [Hid, take_snoc? hx]; simp [encS]
      have hxo := HOK.out x (List.mem_of_getElem? hx)
      have hel := encS_len (R.take k) fun y hy => HOK.out y (List.mem_of_mem_take hy)
      have k0 : (0 : Int) ≤ (k : Int) := by omega
      have k1 : (k : Int) < (m : Int) := by omega
      have hbs := hb.size
      clear hx hcl
      obtain ⟨xi1, xi2, xi3, xi4⟩ := hxo
      go_wp2_with fail
      have X1 := Whole1.new wr 51 #[.int .i64 x.frm, .int .i64 x.til]
      have hbA : Below wr.heap.size wr (wr.alloc (.cells #[.int .i64 x.frm, .int .i64 x.til] 51)) := (Below.refl _ _).alloc (Nat.le_refl _) _
      generalize wr.alloc (.cells #[.int .i64 x.frm, .int .i64 x.til] 51) = wa at X1 hbA ⊢
      have hgr : g ≤ wr.heap.size := by have := HG.out; omega
      have hbd2 := bld_below hbd hbA
      have hb2 := hb.trans (hbA.mono hgr)
      obtain ⟨X, hX⟩ : ∃ X, wr.heap.size = X := ⟨_, rfl⟩
      rw [hX] at X1 ⊢
      have XH : wa.heap[X]? = some (.cells #[.int .i64 x.frm, .int .i64 x.til] 51 (0, 0)) := X1
      have hXl : X < wa.heap.size := X1.lt
      clear X1
      clear hbd hbA c0 c1 hX
      have H1 := hidden (int_any x.frm wa xi1 xi2)
      refine H1.out.mono ?_
      rintro e wb ⟨rfl, hbB⟩
      have hga := hb2.size
      have hbd3 := bld_below hbd2 hbB
      have hb3 := hb2.trans (hbB.mono (by have := HG.out; omega))
      have l1 := uintL_ten (zz_lt xi1 xi2)
      have l2 := uintL_ten (zz_lt xi3 xi4)
      have lm := uintL_ten (v := m) (by omega)
      have XH2 := (hbB.block X hXl).trans XH
      clear hbd2 hbB hb2 H1 hga hXl XH
      go_wp2_with fail
      refine (bldStr_any g g _ ⟨(intL x.frm).toArray⟩ wb hbd3 (by rw [Lib.byteCells_length, List.length_append]; simp only [ByteArray.size, List.size_toArray, intL]; simp only [List.length_take] at hel; omega) (by have := hb3.size; have := HG.out; omega)).mono ?_
      rintro e wc ⟨rfl, hI5, hb5, ho5⟩
      have hI6 : Lib.IsBuilder 130 5 g g (Lib.byteCells (uintL m ++ encS (R.take k) ++ intL x.frm)) wc := .inr (by rw [Lib.byteCells_append (uintL m ++ encS (R.take k))]; exact hI5)
      have hb6 := hb3.trans hb5
      have XH3 := ho5 X _ _ _ XH2 (by decide) (by decide)
      have e2 : wc.cell? ⟨X, 1, none⟩ = some (.int .i64 x.til) := by rw [Lib.cell_of_heap XH3]; rfl
      clear hI5 hb5 ho5 XH2 XH3 hb3 hbd3
      have H2 := hidden (int_any x.til wc xi3 xi4)
      go_wp2_with fail
      refine H2.out.mono ?_
      rintro e wd ⟨rfl, hb7⟩
      have hs7 := hb6.size
      have hI7 := bld_below hI6 hb7
      have hb8 := hb6.trans (hb7.mono (by have := HG.out; omega))
      clear hI6 hb7 hb6 H2 hs7
      go_wp2_with fail
      refine (bldStr_any g g _ ⟨(intL x.til).toArray⟩ wd hI7 (by rw [Lib.byteCells_length, List.length_append, List.length_append]; simp only [ByteArray.size, List.size_toArray, intL]; simp only [List.length_take] at hel; omega) (by have := hb8.size; have := HG.out; omega)).mono ?_
      rintro e we ⟨rfl, hI8, hb9, _⟩
      have hI9 : Lib.IsBuilder 130 5 g g (Lib.byteCells (uintL m ++ encS (R.take (k + 1)))) we := .inr (by
        have e9 : uintL m ++ encS (R.take (k + 1)) = (uintL m ++ encS (R.take k) ++ intL x.frm) ++ intL x.til := by rw [hT.out]; simp
        rw [e9, Lib.byteCells_append (uintL m ++ encS (R.take k) ++ intL x.frm)]; exact hI8)
      have hb10 := hb8.trans hb9
      clear hI8 hb9 hI7 hb8
      go_wp2_with fail
      go_roundw
      case rel => exact ⟨k + 1, by omega, by go_num, hI9, hb10⟩
      case measure => simp [intOf]; omega
    · have k2 : ¬ (k : Int) < (m : Int) := by omega
      have hkm : k = m := by omega
      go_wp2_with fail
      have hne : uintL m ++ encS (R.take k) ≠ [] := fun h => uintL_ne m (List.append_eq_nil_iff.1 h).1
      refine (bldString_any g g _ wr hbd hne).mono ?_
      rintro e wz ⟨rfl, hbz⟩
      go_wp2_with fail
      go_ret
      have ht : R.take m = R := List.take_of_length_le (by have := HM.out; omega)
      refine ⟨R, HRes.out, ?_, B1.out.trans ((hb.trans hbz).mono (by have := B1.out.size; have := HG.out; omega))⟩
      show Ending.returned (.string ⟨(uintL m ++ encS (R.take m)).toArray⟩) = _
      rw [ht, encL, HM.out]
end Go.Proofs.Ytjklonfheenfbaa
