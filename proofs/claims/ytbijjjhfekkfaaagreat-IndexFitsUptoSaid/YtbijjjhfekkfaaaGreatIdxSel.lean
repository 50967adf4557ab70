/- index.Select: the numbers of the sets that all matchers fit. Condition: the index is one, the matchers are. -/
import Derived.Test.YtbijjjhfekkfaaaGreatIdxFit
import Derived.Test.YtbijjjhfekkfaaaGreatPke62206b2
import Derived.Test.YtbijjjhfekkfaaaGreatPk21fc8dba
namespace Go.Proofs.YtbijjjhfekkfaaaGreat
set_option maxRecDepth 100000
open Go.RowKit Go.Shelf

theorem mtRow_ptrs {w : World} {A : Option Addr} {n : Nat} {ms : List Mt} (h : MtRow w A n ms) : Row w w.heap.size 1 A n ((ms.map fun x => (⟨x.M, 0, none⟩ : Addr)).map ptrV) := by
  rw [List.map_map]; exact h.row
/-- the sets that all of them fit -/
def selE (E : List (List Lbl)) (ms : List Mt) (z : Int) : Prop := ∃ (i : Nat) (l : List Lbl), E[i]? = some l ∧ z = (i : Int) ∧ allM l ms = true
theorem selE_nil {E : List (List Lbl)} {z : Int} : selE E [] z ↔ z ∈ upL E.length := by
  rw [mem_upL]
  constructor
  · rintro ⟨i, l, h1, rfl, _⟩
    obtain ⟨hi, _⟩ := List.getElem?_eq_some_iff.1 h1
    omega
  · rintro ⟨h1, h2⟩
    exact ⟨z.toNat, _, List.getElem?_eq_getElem (by omega), by omega, rfl⟩
theorem selE_snoc {E : List (List Lbl)} {ms : List Mt} {x : Mt} {z : Int} : selE E (ms ++ [x]) z ↔ selE E ms z ∧ fitE E x.name x.F z := by
  constructor
  · rintro ⟨i, l, h1, rfl, h3⟩
    simp only [allM, List.all_append, List.all_cons, List.all_nil, Bool.and_true, Bool.and_eq_true] at h3
    exact ⟨⟨i, l, h1, rfl, h3.1⟩, ⟨i, l, h1, rfl, h3.2⟩⟩
  · rintro ⟨⟨i, l, h1, rfl, h3⟩, ⟨j, l', k1, e, k3⟩⟩
    obtain rfl : i = j := by omega
    rw [h1] at k1
    obtain rfl := Option.some.inj k1
    refine ⟨i, l, h1, rfl, ?_⟩
    simp only [allM, List.all_append, List.all_cons, List.all_nil, Bool.and_true, Bool.and_eq_true]
    exact ⟨h3, k3⟩
/-- one cursor in a fresh row -/
theorem kown_one {w0 w2 : World} {a : Option Addr} {E : List Int} {F : Nat → Prop} (h : FC w0 w2 (.pointer a) E F) : KOwn w0 (w2.alloc (.cells #[.pointer a] 183)) (.slice (some ⟨w2.heap.size, 0, none⟩) 1 1) [⟨.pointer a, E, F⟩] := by
  obtain ⟨h1, h2, h3⟩ := h
  refine ⟨?_, ?_, List.pairwise_singleton _ _, ?_, h3.alloc h3.size _⟩
  · exact ⟨rfl, .inr ⟨w2.heap.size, 1, #[.pointer a], rfl, h3.size, Whole1.new w2 _ _, Nat.le_refl _, by decide, rfl, rfl⟩⟩
  · simp only [List.mem_cons, List.not_mem_nil, or_false, forall_eq]
    exact isCur_on h1 ((Below.refl _ _).alloc (Nat.le_refl _) _)
  · simp only [List.mem_cons, List.not_mem_nil, or_false, forall_eq]
    intro k hk
    have := isCur_old _ _ _ _ h1 k hk
    refine ⟨h2 k hk, ?_⟩
    simp only [Value.ownBlock, ne_eq, Option.some.injEq]
    omega
set_option maxHeartbeats 3200000 in
theorem idx_select (w : World) {base p : Nat} {E : List (List Lbl)} (h : Idx w base p E) (hE : E.length ≤ 1048576) (A : Option Addr) (m c : Nat) (ms : List Mt) (hm : MtRow w A m ms) (hmf : m ≤ 1048576) :
    Calls Tryz.prog 26 #[.pointer (some ⟨p, 0, none⟩), .slice A m c] w fun e w' => ∃ A' c' S, e = .returned (.slice A' S.length c') ∧ IntF w' A' S.length S ∧ rising S ∧ (∀ z, z ∈ S ↔ selE E ms z) ∧ Below w.heap.size w w' := by
  obtain ⟨i0, hi, hz0, hz1, hz2⟩ := info_parts infoPC
  have S0 := hidden (mcon_none A m c _ w (mtRow_ptrs hm) (by rw [List.length_map, hm.len]) (by omega))
  have S1 := hidden (idx_all w h hE)
  have HI := hidden h
  have HM := hidden hm
  clear h hm
  go_enter Tryz.func26, Tryz.ntmps26
  go_wp2_with fail
  refine S0.out.mono ?_
  rintro e w1 ⟨rfl, rfl⟩
  clear S0
  go_wp2_with fail
  refine S1.out.mono ?_
  rintro e w2 ⟨a, S, F, rfl, hF, rfl⟩
  have HK := hidden (kown_one hF)
  clear hF S1
  go_wp2_with fail
  generalize w2.alloc (.cells #[.pointer a] 183) = w3 at *
  obtain ⟨X, hX⟩ : ∃ X, w2.heap.size = X := ⟨_, rfl⟩
  rw [hX] at HK ⊢
  clear hX
  go_loopw [5, 19] (fun vp vi wr => ∃ (k : Nat) (cs : List Kid), k ≤ m ∧ vi = .int .i64 k ∧ Hid (cs.length = k + 1) ∧ Hid (KOwn w1 wr vp cs) ∧ Hid (∀ z, (∀ y ∈ cs, z ∈ y.E) ↔ selE E (ms.take k) z)) (fun _ vi _ => m - (intOf vi).toNat)
  case atStart => exact ⟨0, _, Nat.zero_le _, rfl, hidden rfl, HK, hidden fun z => by simp [selE_nil]⟩
  case round =>
    obtain ⟨k, cs, hk, rfl, hcl, hK, hm⟩ := hrel
    clear HK
    have k0 : (0 : Int) ≤ (k : Int) := by omega
    by_cases hlt : k < m
    · have k1 : (k : Int) < (m : Int) := by omega
      have fwk : IntKind.i64.wrap ((k : Int) + 1) = (k : Int) + 1 := Go.IntWalk.i64_in _ (by omega)
      have HLT := hidden (show k + 1 ≤ m from hlt)
      obtain ⟨g, o, x, rfl, hg, hx, ck, hx2⟩ := mt_cell (HM.out.on hK.out.below) hlt
      have S2 := hidden (idx_fit wr (HI.out.below hK.out.below) hE x.M x.kind x.name x.value x.F hx2)
      have HX := hidden hx
      clear hx hx2
      go_wp2_with fail
      refine S2.out.mono ?_
      rintro e w4 ⟨a4, S4, F4, rfl, hF4, hS4⟩
      have ho4 := (hK.out.on hF4.2.2).row
      have HF4 := hidden hF4
      have HS4 := hidden hS4
      have hbs := (hK.out.on hF4.2.2).below.size
      have hfr := Row.fresh w4 183 1 1 [.pointer a4] rfl
      have hcs := hcl.out
      have hcs2 : cs.length ≤ 1048577 := by omega
      clear S2 hF4 hS4 hcs
      go_wp2_with (at_builtin; refine wpList_app _ rfl _ _ 185 rfl w1.heap.size 183 i0 _ 1 8 Tryz.underlying185 hi hz0 hz1 hz2 rfl (by decide) _ _ _ rfl (ho4.alloc _) _ _ _ _ _ rfl hfr (by simp [Value.oneCell']) (by unfold maxLen; omega) (by omega) (by simp; omega) ?_; intro v6 w6 hown6 hg6 hat6)
      have HK6 := hidden (hK.out.add HF4.out hown6 hg6 hat6)
      clear hown6 hg6 hat6 ho4 hfr
      go_roundw
      case rel =>
        refine ⟨k + 1, _, HLT.out, by go_num, hidden (by have := hcl.out; simp; omega), HK6, hidden fun z => ?_⟩
        rw [List.take_add_one, HX.out, Option.toList_some, selE_snoc, ← hm.out z, ← HS4.out z]
        exact ⟨fun h => ⟨fun y hy => h y (List.mem_append_left _ hy), h _ (List.mem_append_right _ (List.mem_singleton.2 rfl))⟩, fun ⟨h1, h2⟩ y hy => by
          rcases List.mem_append.1 hy with hy | hy
          · exact h1 y hy
          · obtain rfl := List.mem_singleton.1 hy
            exact h2⟩
      case measure => have := HLT.out; simp [intOf]; omega
    · obtain rfl : m = k := by omega
      have hml := HM.out.len
      have hm2 : Hid (∀ z, (∀ y ∈ cs, z ∈ y.E) ↔ selE E ms z) := by
        have := hm.out
        rwa [List.take_of_length_le (by omega)] at this
      have hcs := hcl.out
      obtain ⟨A6, c6, e6, hkr⟩ := hK.out.kids (by omega)
      subst e6
      have hne : cs ≠ [] := fun e => by rw [e] at hcs; simp at hcs
      have HNew := hidden (show ∀ e w6, NewCur wr (gOf cs) (fun E => ∀ x, x ∈ E ↔ cs ≠ [] ∧ ∀ y ∈ cs, x ∈ y.E) e w6 → FCR w1 (fun S => ∀ z, z ∈ S ↔ selE E ms z) e w6 from fun e w6 hN => by
        obtain ⟨a, S, G, r1, r2, r3⟩ := fcr_new hN hK.out.gOf hK.out.below
        exact ⟨a, S, G, r1, r2, fun z => (r3 z).trans ⟨fun h => (hm2.out z).1 h.2, fun h => ⟨hne, (hm2.out z).2 h⟩⟩⟩)
      have SA := hidden (fun c' => and_any A6 cs.length c' cs wr hkr)
      clear hkr hne hcs hm hm2
      go_wp2_with fail
      refine (SA.out _).mono ?_
      intro e w5 hN
      obtain ⟨a5, S5, F5, rfl, hF5, hS5⟩ := HNew.out e w5 hN
      have hr5 := (isCur_rise _ _ _ _ hF5.1).1
      have hl5 : S5.length ≤ 1048576 := by
        have h1 := rising_le hr5 (l := upL E.length) fun z hz => by
          obtain ⟨i, l, h1, rfl, _⟩ := (hS5 z).1 hz
          have := (List.getElem?_eq_some_iff.1 h1).1
          exact mem_upL.2 ⟨by omega, by omega⟩
        rw [upL_len] at h1
        omega
      have SR := hidden (restF hF5 (by omega))
      have HR5 := hidden (And.intro hr5 hS5)
      clear SA hN HNew hF5 hS5 hr5
      go_wp2_with fail
      refine SR.out.mono ?_
      rintro e w6 ⟨A7, c7, rfl, hf7, hb7⟩
      have HF7 := hidden (And.intro hf7 hb7)
      clear hf7 hb7 SR
      go_wp2_with fail
      go_ret
      exact ⟨A7, c7, S5, rfl, HF7.out.1, HR5.out.1, HR5.out.2, HF7.out.2⟩
end Go.Proofs.YtbijjjhfekkfaaaGreat
