/- match: All, walked, over a row of matchers. Condition: the texts are no longer than memory. -/
import Derived.Test.YtalnndenncnbdaaMatN
namespace Go.Proofs.Ytalnndenncnbdaa
set_option maxRecDepth 100000
open Go.RowKit

/-- a matcher among others -/
structure Mt where
  M : Nat
  kind : Int
  name : ByteArray
  value : ByteArray
  F : ByteArray → Bool
def Mt.ptr (x : Mt) : Value := .pointer (some ⟨x.M, 0, none⟩)
/-- matchers as they lie -/
structure MtRow (w : World) (A : Option Addr) (n : Nat) (ms : List Mt) : Prop where
  row : Row w w.heap.size 1 A n (ms.map Mt.ptr)
  len : ms.length = n
  each : ∀ x ∈ ms, MatAt w x.M x.kind x.name x.value x.F
theorem MtRow.on {w w' : World} {A : Option Addr} {n : Nat} {ms : List Mt} (h : MtRow w A n ms) (hb : Below w.heap.size w w') : MtRow w' A n ms :=
  ⟨(h.row.below hb).more hb.size, h.len, fun x hx => (h.each x hx).on hb⟩
theorem mt_cell {w : World} {A : Option Addr} {n : Nat} {ms : List Mt} (h : MtRow w A n ms) {k : Nat} (hk : k < n) : ∃ g o x, A = some ⟨g, o, none⟩ ∧ g < w.heap.size ∧ ms[k]? = some x ∧ w.cell? ⟨g, o + k, none⟩ = some (.pointer (some ⟨x.M, 0, none⟩)) ∧ MatAt w x.M x.kind x.name x.value x.F := by
  have hl := h.len
  obtain ⟨g, o, e, hb, hc⟩ := h.row.at_ (by omega)
  obtain ⟨x, hx⟩ : ∃ x, ms[k]? = some x := ⟨_, List.getElem?_eq_getElem (by omega)⟩
  refine ⟨g, o, x, e, hb, hx, ?_, h.each x (List.mem_of_getElem? hx)⟩
  have := hc k (by omega)
  rw [this, List.getElem?_map, hx]
  rfl
/-- do these labels fit all? -/
def allM (l : List Lbl) (ms : List Mt) : Bool := ms.all fun x => x.F (getL l x.name)

set_option maxHeartbeats 3200000 in
theorem mall_any (A B : Option Addr) (n c m d : Nat) (l : List Lbl) (ms : List Mt) (w : World) (hl : LbF w A n l) (h : MtRow w B m ms) (hm : m ≤ 17592186044416) :
    Calls Try.prog 9 #[.slice A n c, .slice B m d] w fun e w' => e = .returned (.bool (allM l ms)) ∧ Below w.heap.size w w' := by
  have HL := hidden hl
  have H := hidden h
  obtain ⟨R, hR⟩ : ∃ R, allM l ms = R := ⟨_, rfl⟩
  rw [hR]
  have HR := hidden hR
  clear hl h hR
  go_enter Try.func9, Try.ntmps9
  go_wp2_with fail
  go_loopw [9] (fun vi wr => ∃ k : Nat, vi = .int .i64 k ∧ k ≤ m ∧ Hid (Below w.heap.size w wr) ∧ Hid (allM l (ms.drop k) = R)) (fun vi _ => m - (intOf vi).toNat)
  case atStart => exact ⟨0, rfl, Nat.zero_le _, Below.refl _ _, hidden (by rw [List.drop_zero]; exact HR.out)⟩
  case round =>
    obtain ⟨k, rfl, hk, hb, hd⟩ := hrel
    have k0 : (0 : Int) ≤ (k : Int) := by omega
    by_cases hlt : k < m
    · have k1 : (k : Int) < (m : Int) := by omega
      obtain ⟨g, o, x, rfl, hg, hx, hc, hM⟩ := mt_cell (H.out.on hb.out) hlt
      have S1 := hidden (mmatches_any x.M x.kind x.name x.value x.F A n c l wr hM (HL.out.on hb.out))
      have hdx : ms.drop k = x :: ms.drop (k + 1) := by
        obtain ⟨hi, e⟩ := List.getElem?_eq_some_iff.1 hx
        rw [List.drop_eq_getElem_cons hi, e]
      have HD := hidden (show (x.F (getL l x.name) && allM l (ms.drop (k + 1))) = R from by rw [← hd.out, hdx]; rfl)
      have fwk : IntKind.i64.wrap ((k : Int) + 1) = (k : Int) + 1 := Go.IntWalk.i64_in _ (by omega)
      clear hx hM hdx hd
      go_wp2_with fail
      refine S1.out.mono ?_
      rintro e w2 ⟨rfl, b2⟩
      have HB2 := hidden (hb.out.trans (b2.mono hb.out.size))
      cases hf : x.F (getL l x.name) with
      | true =>
        have HD2 := hidden (show allM l (ms.drop (k + 1)) = R from by rw [← HD.out, hf]; rfl)
        clear hf
        go_wp2_with fail
        go_roundw
        case rel => exact ⟨k + 1, by go_num, by omega, HB2, HD2⟩
        case measure => simp [intOf]; omega
      | false =>
        have HD2 := hidden (show R = false from by rw [← HD.out, hf]; rfl)
        clear hf
        go_wp2_with fail
        go_ret
        rw [HD2.out]
        exact ⟨rfl, HB2.out⟩
    · obtain rfl : k = m := by omega
      have HD2 := hidden (show R = true from by rw [← hd.out, List.drop_of_length_le (by rw [H.out.len]; exact Nat.le_refl _)]; rfl)
      go_wp2_with fail
      go_ret
      rw [HD2.out]
      exact ⟨rfl, hb.out⟩
end Go.Proofs.Ytalnndenncnbdaa
