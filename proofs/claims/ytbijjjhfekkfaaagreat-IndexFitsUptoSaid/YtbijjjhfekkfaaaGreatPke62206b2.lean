/- index: Select of no matchers. Condition: the index is one. -/
import Derived.Test.YtbijjjhfekkfaaaGreatPk965429b8
namespace Go.Proofs.YtbijjjhfekkfaaaGreat
set_option maxRecDepth 100000
open Go.RowKit Go.Shelf

theorem eql_mp (a : Addr) (w : World) : (binOp .eql 30 (.pointer none) (.pointer (some a))).run Tryz.prog w = .ok (.bool false) w := by
  have h : ∀ d : Nat, (Op.equalIn (d + 1) 30 (.pointer none) (.pointer (some a))).run Tryz.prog w = .ok false w := fun d => by
    simp [Op.equalIn, run_underlying Tryz.underlying30]
  simp only [binOp]
  simp [Op.equal, Op.maxDepth, h 9999]
def ptrV (a : Addr) : Value := .pointer (some a)
set_option maxHeartbeats 800000 in
theorem midx_none (A : Option Addr) (n c : Nat) (ps : List Addr) (w : World) (hr : Row w w.heap.size 1 A n (ps.map ptrV)) (hl : ps.length = n) (hn : n ≤ 1099511627776) :
    Calls Tryz.prog 156 #[.slice A n c, .pointer none] w fun e w' => e = .returned (.int .i64 (-1)) ∧ w' = w := by
  have HR := hidden hr
  clear hr
  go_enter Tryz.func156, Tryz.ntmps156
  go_wp2_with fail
  go_loopw [8] (fun vi wr => ∃ k : Nat, vi = .int .i64 (k : Int) ∧ k ≤ n ∧ wr = w) (fun vi _ => n - (intOf vi).toNat)
  case atStart => exact ⟨0, rfl, Nat.zero_le _, rfl⟩
  case round =>
    obtain ⟨k, rfl, hk, rfl⟩ := hrel
    by_cases hlt : k < n
    · have k1 : (k : Int) < (n : Int) := by omega
      have k0 : (0 : Int) ≤ (k : Int) := by omega
      have fwk : IntKind.i64.wrap ((k : Int) + 1) = (k : Int) + 1 := Go.IntWalk.i64_in _ (by omega)
      obtain ⟨g, o, rfl, hg, hc⟩ := HR.out.at_ (by omega)
      obtain ⟨a, ha⟩ : ∃ a, ps[k]? = some a := ⟨_, List.getElem?_eq_getElem (by omega)⟩
      have ck : wr.cell? ⟨g, o + k, none⟩ = some (.pointer (some a)) := by rw [hc k (by omega), List.getElem?_map, ha]; rfl
      have HLT := hidden (show k + 1 ≤ n from hlt)
      have hno : ∀ w, (binOp .eql 30 (.pointer none) (.pointer (some a))).run Tryz.prog w = .ok (.bool false) w := eql_mp a
      clear hc ha
      go_wp2_with fail
      go_roundw
      case rel => exact ⟨k + 1, by go_num, HLT.out, trivial⟩
      case measure => have := HLT.out; simp [intOf]; omega
    · obtain rfl : k = n := by omega
      go_wp2_with fail
      go_ret
      exact ⟨rfl, rfl⟩
theorem mcon_none (A : Option Addr) (n c : Nat) (ps : List Addr) (w : World) (hr : Row w w.heap.size 1 A n (ps.map ptrV)) (hl : ps.length = n) (hn : n ≤ 1099511627776) :
    Calls Tryz.prog 84 #[.slice A n c, .pointer none] w fun e w' => e = .returned (.bool false) ∧ w' = w := by
  have S1 := hidden (midx_none A n c ps w hr hl hn)
  clear hr
  go_enter Tryz.func84, Tryz.ntmps84
  go_wp2_with fail
  refine S1.out.mono ?_
  rintro e w1 ⟨rfl, rfl⟩
  go_wp2_with fail
  go_ret
  exact ⟨rfl, rfl⟩
set_option maxHeartbeats 1600000 in
theorem idx_sel0 (w : World) {base p : Nat} {E : List (List Lbl)} (h : Idx w base p E) (hE : E.length ≤ 1048576) :
    Calls Tryz.prog 26 #[.pointer (some ⟨p, 0, none⟩), .slice none 0 0] w fun e w' => ∃ A c, e = .returned (.slice A E.length c) ∧ IntF w' A E.length (upL E.length) ∧ Below w.heap.size w w' := by
  have S0 := hidden (mcon_none none 0 0 [] w Row.nil rfl (by omega))
  have S1 := hidden (idx_all w h hE)
  clear h
  go_enter Tryz.func26, Tryz.ntmps26
  go_wp2_with fail
  refine S0.out.mono ?_
  rintro e w1 ⟨rfl, rfl⟩
  clear S0
  go_wp2_with fail
  refine S1.out.mono ?_
  rintro e w2 ⟨a, S, F, rfl, hF, rfl⟩
  have HF := hidden hF
  have HKR : KidRow (w2.alloc (.cells #[.pointer a] 183)) (some ⟨w2.heap.size, 0, none⟩) 1 [⟨.pointer a, upL E.length, F⟩] :=
    ⟨(Row.fresh w2 183 1 1 [.pointer a] rfl).more (by simp), rfl, by decide, by simp only [List.mem_cons, List.not_mem_nil, or_false, forall_eq]; exact isCur_on hF.1 ((Below.refl _ _).alloc (Nat.le_refl _) _), by simp⟩
  have HA := hidden (and_any _ 1 1 _ _ HKR)
  have B3 := hidden (show Below w1.heap.size w1 (w2.alloc (.cells #[.pointer a] 183)) from hF.2.2.trans (((Below.refl w2.heap.size w2).alloc (Nat.le_refl _) _).mono hF.2.2.size))
  have hF2 := hidden hF.2.1
  clear hF S1 HKR
  go_wp2_with fail
  generalize w2.alloc (.cells #[.pointer a] 183) = w3 at *
  obtain ⟨X, hX⟩ : ∃ X, w2.heap.size = X := ⟨_, rfl⟩
  rw [hX] at HA ⊢
  clear hX
  go_loopw [5, 19] (fun vp vi wr => vp = .slice (some ⟨X, 0, none⟩) 1 1 ∧ vi = .int .i64 0 ∧ w3 = wr) (fun _ _ _ => 0)
  case atStart => exact ⟨rfl, rfl, rfl⟩
  case round =>
    obtain ⟨rfl, rfl, rfl⟩ := hrel
    go_wp2_with fail
    refine HA.out.mono ?_
    intro e w4 hN
    obtain ⟨a4, S4, F4, rfl, hF4, hS4⟩ := fcr_new (ws := w1) hN (fun k ⟨x, hx, hk⟩ => by simp only [List.mem_cons, List.not_mem_nil, or_false] at hx; subst hx; exact hF2.out k hk) B3.out
    obtain rfl : S4 = upL E.length := rising_ext ((isCur_rise _ _ _ _ hF4.1).1) (upL_rising _) fun x => by rw [hS4 x]; simp
    have SR := hidden (restF hF4 (by rw [upL_len]; omega))
    rw [upL_len] at SR
    clear hF4 hS4 HA hN
    go_wp2_with fail
    refine SR.out.mono ?_
    rintro e w5 ⟨A5, c5, rfl, hf5, hb5⟩
    have HF5 := hidden hf5
    have HB5 := hidden hb5
    clear hf5 hb5 SR
    go_wp2_with fail
    go_ret
    exact ⟨A5, c5, rfl, HF5.out, HB5.out⟩
end Go.Proofs.YtbijjjhfekkfaaaGreat
