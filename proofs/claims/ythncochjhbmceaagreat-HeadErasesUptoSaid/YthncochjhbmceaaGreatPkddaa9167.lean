/- The reference's Uint, Int, ReadUint and ReadInt, walked. Texts with their length ahead, written and read: enc.Text, enc.ReadText and the reference's. Condition: the text is within the reach. slices.IndexFunc and slices.ContainsFunc at labels, whatever predicate: what they return. Condition: the predicate has a contract, the row is within the reach. -/
import Derived.Test.YthncochjhbmceaaGreatPk69c02a4a
import Derived.Test.YthncochjhbmceaaGreatPkf4cb56ba
import Derived.Test.YthncochjhbmceaaGreatBase
import Derived.Test.YthncochjhbmceaaGreatPkbc8588bb
namespace Go.Proofs.YthncochjhbmceaaGreat
set_option maxRecDepth 100000
open Go.RowKit Go.Shelf

end Go.Proofs.YthncochjhbmceaaGreat

namespace Go.Proofs.YthncochjhbmceaaGreat
set_option maxRecDepth 100000
open Go.RowKit

/-- a text, its length ahead -/
def textL (v : ByteArray) : List UInt8 := uintL v.size ++ v.data.toList
/-- a text read: what it is, the place behind it, the error -/
def readT (s : List UInt8) (a : Int) : ByteArray × Int × Int :=
  if (readU s a).2.2 = 0 then
    if (s.length : Int) - (readU s a).2.1 < (readU s a).1 then (⟨#[]⟩, 0, 20)
    else ((⟨s.toArray⟩ : ByteArray).extract (readU s a).2.1.toNat ((readU s a).2.1.toNat + (readU s a).1), (readU s a).2.1 + (readU s a).1, 0)
  else (⟨#[]⟩, 0, (readU s a).2.2)
section
variable {s : List UInt8} {a b e : Int} {n : Nat}
theorem readT_ok (h : readU s a = (n, b, 0)) (hl : ¬ (s.length : Int) - b < n) : readT s a = ((⟨s.toArray⟩ : ByteArray).extract b.toNat (b.toNat + n), b + n, 0) := by
  rw [readT, h]; simp only [if_true]; exact if_neg hl
end
theorem text_join (v : ByteArray) : (⟨(uintL v.size).toArray⟩ : ByteArray) ++ v = ⟨(textL v).toArray⟩ := bytes_eq (by simp [textL])
theorem uintB_size {n : Nat} (h : n < 18446744073709551616) : (⟨(uintL n).toArray⟩ : ByteArray).size ≤ 10 := by
  have := uintL_ten h
  have e : (⟨(uintL n).toArray⟩ : ByteArray).size = (uintL n).length := rfl
  omega
theorem text_any (v : ByteArray) (w : World) (hv : v.size ≤ 1000) :
    Calls Tryz.prog 64 #[.string v] w fun e w' => e = .returned (.string ⟨(textL v).toArray⟩) ∧ Below w.heap.size w w' := by
  have S1 := hidden (uint_any v.size w (by omega))
  have hj := text_join v
  have hz := uintB_size (n := v.size) (by omega)
  have hu : IntKind.u64.wrap (v.size : Int) = (v.size : Int) := Go.IntWalk.u64_in _ (by omega)
  obtain ⟨X, hX⟩ : ∃ X, (⟨(uintL v.size).toArray⟩ : ByteArray) = X := ⟨_, rfl⟩
  rw [hX] at S1 hj hz
  have hlim : ¬ 9223372036854775807 < X.size + v.size := by omega
  have HJ := hidden hj
  clear hj hX
  go_enter Tryz.func64, Tryz.ntmps64
  go_wp2_with fail
  refine S1.out.mono ?_
  rintro e w1 ⟨rfl, b1⟩
  go_wp2_with fail
  go_ret
  rw [HJ.out]
  exact ⟨rfl, b1⟩
end Go.Proofs.YthncochjhbmceaaGreat

namespace Go.Proofs.YthncochjhbmceaaGreat.IdxLbl
set_option maxRecDepth 100000
open Go.RowKit

theorem hk (x : Lbl) : x.cells.length = 2 := rfl

/-- what is asked of a predicate -/
def PredOk (f : FuncId) (cb : Array Value) (p : Lbl → Bool) (l : List Lbl) (ok : World → Prop) : Prop :=
  ∀ x ∈ l, ∀ W, ok W → Calls Tryz.prog f (#[.agg #[.string x.name, .string x.value]] ++ cb) W fun e w2 => e = .returned (.bool (p x)) ∧ Below W.heap.size W w2
/-- where the first one is -/
def IdxRes (p : Lbl → Bool) (l : List Lbl) (r : Int) : Prop := (r = -1 ∧ ∀ x ∈ l, p x = false) ∨ ∃ (i : Nat) (x : Lbl), r = i ∧ l[i]? = some x ∧ p x = true ∧ ∀ y ∈ l.take i, p y = false

set_option maxHeartbeats 1600000 in
theorem index_any (A : Option Addr) (n c : Nat) (l : List Lbl) (f : FuncId) (cb : Array Value) (p : Lbl → Bool) (w : World) (eg : ∀ args w, (callFunc f args).run Tryz.prog w = .ok (.enter f args) w) (hp : PredOk f cb p l (fun W => Below w.heap.size w W)) (hr : Row w w.heap.size 2 A n (l.flatMap Lbl.cells)) (hl : l.length = n) (hn : n ≤ 4611686018427387904) :
    Calls Tryz.prog 149 #[.slice A n c, .func (.func f) #[] cb] w
      fun e w' => ∃ r : Int, e = .returned (.int .i64 r) ∧ IdxRes p l r ∧ Below w.heap.size w w' := by
  have hL := hidden hl
  have HR := hidden hr
  have HP := hidden hp
  clear hl hr hp
  go_enter Tryz.func149, Tryz.ntmps149
  go_wp2
  go_loopw [8] (fun i wr => ∃ k : Nat, k ≤ n ∧ i = .int .i64 k ∧ Hid (∀ y ∈ l.take k, p y = false) ∧ Below w.heap.size w wr) (fun i _ => n - (intOf i).toNat)
  case atStart => exact ⟨0, Nat.zero_le _, rfl, hidden (by simp), Below.refl _ _⟩
  case round =>
    obtain ⟨k, hk1, rfl, hall, hb⟩ := hrel
    by_cases hlt : k < n
    · obtain ⟨gs, o, x, rfl, hgs, hx, hcl⟩ := row_at hk (HR.out.below hb) hL.out k hlt
      have d0 : wr.cell? ⟨gs, o + k * 2, none⟩ = some (.string x.name) := hcl 0 (by omega)
      have d1 : wr.cell? ⟨gs, o + k * 2 + 1, none⟩ = some (.string x.value) := hcl 1 (by omega)
      have hcon := HP.out x (List.mem_of_getElem? hx) wr hb
      have hT := hidden (take_snoc? hx)
      have HX := hidden hx
      have HCON := hidden hcon
      have hltz : (k : Int) < (n : Int) := by omega
      have hk0 : (0 : Int) ≤ (k : Int) := by omega
      clear hx hcl hcon
      go_wp2_with fail
      refine HCON.out.mono ?_
      rintro e w1 ⟨rfl, hb1⟩
      have hB1 := hb.trans (hb1.mono hb.size)
      clear HCON hb1 d0 d1
      obtain ⟨b, hv⟩ : ∃ b, p x = b := ⟨_, rfl⟩
      rw [hv]
      have HV := hidden hv
      clear hv
      cases b with
      | false =>
        go_wp2_with fail
        go_roundw
        case rel => exact ⟨k + 1, by omega, by go_num, hidden (by
          intro y hy
          rw [hT.out] at hy
          rcases List.mem_append.1 hy with h | h
          · exact hall.out y h
          · rw [List.mem_singleton.1 h]; exact HV.out), hB1⟩
        case measure => simp [intOf]; omega
      | true =>
        go_wp2_with fail
        go_ret
        exact ⟨_, rfl, .inr ⟨k, x, rfl, HX.out, HV.out, hall.out⟩, hB1⟩
    · obtain rfl : n = k := by omega
      have hall2 := hall.out
      rw [List.take_of_length_le (by rw [hL.out]; exact Nat.le_refl _)] at hall2
      have HA := hidden hall2
      clear hall2
      go_wp2
      go_ret
      exact ⟨-1, rfl, .inl ⟨rfl, HA.out⟩, hb⟩


set_option maxHeartbeats 1600000 in
theorem contains_any (A : Option Addr) (n c : Nat) (l : List Lbl) (f : FuncId) (cb : Array Value) (p : Lbl → Bool) (w : World) (eg : ∀ args w, (callFunc f args).run Tryz.prog w = .ok (.enter f args) w) (hp : PredOk f cb p l (fun W => Below w.heap.size w W)) (hr : Row w w.heap.size 2 A n (l.flatMap Lbl.cells)) (hl : l.length = n) (hn : n ≤ 4611686018427387904) :
    Calls Tryz.prog 104 #[.slice A n c, .func (.func f) #[] cb] w
      fun e w' => e = .returned (.bool (l.any p)) ∧ Below w.heap.size w w' := by
  have S1 := hidden (index_any A n c l f cb p w eg hp hr hl hn)
  clear hp hr
  go_enter Tryz.func104, Tryz.ntmps104
  go_wp2_with fail
  refine S1.out.mono ?_
  rintro e w1 ⟨r, rfl, hres, hb⟩
  have HB := hidden hb
  have hd : l.any p = decide (0 ≤ r) := by
    rcases hres with ⟨rfl, h⟩ | ⟨i, x, rfl, hx, hpx, _⟩
    · rw [show decide ((0 : Int) ≤ -1) = false from rfl, List.any_eq_false]
      intro x hx
      rw [h x hx]; simp
    · rw [decide_eq_true (by omega), List.any_eq_true]
      exact ⟨x, List.mem_of_getElem? hx, hpx⟩
  have HD := hidden hd
  clear hb hres hd S1
  go_wp2_with fail
  go_ret
  exact ⟨ret_bool HD.out.symm, HB.out⟩
end Go.Proofs.YthncochjhbmceaaGreat.IdxLbl
