/- labels.Get and the reference's: the value of a name. Condition: the row is within the reach. -/
import Derived.Test.YtalnndenncnbdaaLabMem
namespace Go.Proofs.Ytalnndenncnbdaa
set_option maxRecDepth 100000
open Go.RowKit

def getL : List Lbl → ByteArray → ByteArray
  | [], _ => ⟨#[]⟩
  | x :: l, nm => if x.name = nm then x.value else getL l nm
theorem getL_none : ∀ {l : List Lbl} {nm : ByteArray}, (∀ x ∈ l, x.name ≠ nm) → getL l nm = ⟨#[]⟩
  | [], _, _ => rfl
  | x :: l, nm, h => by rw [getL, if_neg (h x (by simp)), getL_none fun y hy => h y (by simp [hy])]
theorem getL_here : ∀ {l : List Lbl} {nm : ByteArray} {k : Nat} {x : Lbl}, (∀ y ∈ l.take k, y.name ≠ nm) → l[k]? = some x → x.name = nm → getL l nm = x.value
  | y :: l, nm, 0, x, _, hx, e => by
    simp only [List.getElem?_cons_zero, Option.some.injEq] at hx
    subst hx
    rw [getL, if_pos e]
  | y :: l, nm, k + 1, x, h, hx, e => by
    rw [getL, if_neg (h y (by simp)), getL_here (fun z hz => h z (by rw [List.take_succ_cons]; exact List.mem_cons_of_mem _ hz)) (by simpa using hx) e]

set_option maxHeartbeats 1600000 in
theorem lget_any (A : Option Addr) (n c : Nat) (l : List Lbl) (nm : ByteArray) (w : World) (h : LbF w A n l) :
    Calls Try.prog 17 #[.slice A n c, .string nm] w fun e w' => e = .returned (.string (getL l nm)) ∧ Below w.heap.size w w' := by
  have H := hidden h
  have hfit := h.fit
  clear h
  go_enter Try.func17, Try.ntmps17
  go_wp2_with fail
  go_loopw [9] (fun vi wr => ∃ k : Nat, k ≤ n ∧ vi = .int .i64 k ∧ Hid (∀ y ∈ l.take k, y.name ≠ nm) ∧ Below w.heap.size w wr) (fun vi _ => n - (intOf vi).toNat)
  case atStart => exact ⟨0, Nat.zero_le _, rfl, hidden (by simp), Below.refl _ _⟩
  case round =>
    obtain ⟨k, hk, rfl, hno, hb⟩ := hrel
    have k0 : (0 : Int) ≤ (k : Int) := by omega
    by_cases hlt : k < n
    · have k1 : (k : Int) < (n : Int) := by omega
      obtain ⟨g, o, x, rfl, hg, hx, d0, d1, _⟩ := lb_cells (H.out.on hb) hlt
      have HX := hidden hx
      have HBa := hidden (hb.alloc hb.size (.cells #[.string x.name, .string x.value] 30))
      have hs := str_eq x.name nm
      clear hx hb
      by_cases he : x.name = nm
      · rw [decide_eq_true he] at hs
        have hG := hidden (getL_here hno.out HX.out he)
        clear he
        go_wp2_with fail
        go_ret
        rw [hG.out]
        exact ⟨rfl, HBa.out⟩
      · rw [decide_eq_false he] at hs
        have hno2 : Hid (∀ y ∈ l.take (k + 1), y.name ≠ nm) := fun y hy => by
          rw [take_snoc? HX.out, List.mem_append, List.mem_singleton] at hy
          rcases hy with hy | rfl
          · exact hno.out y hy
          · exact he
        clear he
        go_wp2_with fail
        go_roundw
        case rel => exact ⟨k + 1, by omega, by go_num, hno2, HBa.out⟩
        case measure => simp [intOf]; omega
    · obtain rfl : n = k := by omega
      have k1 : ¬ (n : Int) < (n : Int) := by omega
      have hG := hidden (getL_none (l := l) (nm := nm) (by
        have := hno.out
        rwa [List.take_of_length_le (by rw [H.out.len]; exact Nat.le_refl _)] at this))
      go_wp2_with fail
      go_ret
      rw [hG.out]
      exact ⟨rfl, hb⟩

end Go.Proofs.Ytalnndenncnbdaa
