/- labels.Get and the reference's: the value of a name. Condition: the row is within the reach. A matcher as it lies, and what it fits. No program is walked here. match: Value, Name, Matches, walked. Condition: the texts are no longer than memory. match.New, walked: the matcher, or the error. Condition: the texts are no longer than memory. match: All, walked, over a row of matchers. Condition: the texts are no longer than memory. Quotations, plainly: what a text is in quotation marks, and what such a quotation is read as. No program is walked here. The one form of a number, plainly: its bytes, and the number of bytes; there and back. No program. strings.Builder's methods, walked. enc.Uint and enc.Int, walked. -/
import Derived.Test.YtbijjjhfekkfaaaGreatPkac060fbc
import Derived.Test.YtbijjjhfekkfaaaGreatPkb7e50c61
import Derived.Test.YtbijjjhfekkfaaaGreatPk854d2448
import Derived.Test.YtbijjjhfekkfaaaGreatPk698bdddd
import Derived.Test.YtbijjjhfekkfaaaGreatBase
import Derived.Lib.Builder
import Derived.Lib.AppendStr
import Derived.Lib.UnsafeStr
import Derived.Lib.Zigzag
namespace Go.Proofs.YtbijjjhfekkfaaaGreat
set_option maxRecDepth 100000
open Go.RowKit

def getL : List Lbl → ByteArray → ByteArray
  | [], _ => ⟨#[]⟩
  | x :: l, nm => if x.name = nm then x.value else getL l nm
theorem getL_none : ∀ {l : List Lbl} {nm : ByteArray}, (∀ x ∈ l, x.name ≠ nm) → getL l nm = ⟨#[]⟩
  | [], _, _ => rfl
  | x :: l, nm, h => by rw [getL, if_neg (h x (by simp)), getL_none fun y hy => h y (by simp [hy])]
theorem getL_here : ∀ {l : List Lbl} {nm : ByteArray} {k : Nat} {x : Lbl}, (∀ y ∈ l.take k, y.name ≠ nm) → l[k]? = some x → x.name = nm → getL l nm = x.value
  | y :: l, nm, 0, x, _, hx, e => by
    simp only [List.getElem?_cons_zero, Option.some.injEq] at hx
    subst hx
    rw [getL, if_pos e]
  | y :: l, nm, k + 1, x, h, hx, e => by
    rw [getL, if_neg (h y (by simp)), getL_here (fun z hz => h z (by rw [List.take_succ_cons]; exact List.mem_cons_of_mem _ hz)) (by simpa using hx) e]

set_option maxHeartbeats 1600000 in
theorem lget_any (A : Option Addr) (n c : Nat) (l : List Lbl) (nm : ByteArray) (w : World) (h : LbF w A n l) :
    Calls Tryz.prog 152 #[.slice A n c, .string nm] w fun e w' => e = .returned (.string (getL l nm)) ∧ Below w.heap.size w w' := by
  have H := hidden h
  have hfit := h.fit
  clear h
  go_enter Tryz.func152, Tryz.ntmps152
  go_wp2_with fail
  go_loopw [9] (fun vi wr => ∃ k : Nat, k ≤ n ∧ vi = .int .i64 k ∧ Hid (∀ y ∈ l.take k, y.name ≠ nm) ∧ Below w.heap.size w wr) (fun vi _ => n - (intOf vi).toNat)
  case atStart => exact ⟨0, Nat.zero_le _, rfl, hidden (by simp), Below.refl _ _⟩
  case round =>
    obtain ⟨k, hk, rfl, hno, hb⟩ := hrel
    have k0 : (0 : Int) ≤ (k : Int) := by omega
    by_cases hlt : k < n
    · have k1 : (k : Int) < (n : Int) := by omega
      obtain ⟨g, o, x, rfl, hg, hx, d0, d1, _⟩ := lb_cells (H.out.on hb) hlt
      have HX := hidden hx
      have HBa := hidden (hb.alloc hb.size (.cells #[.string x.name, .string x.value] 114))
      have hs := str_eq x.name nm
      clear hx hb
      by_cases he : x.name = nm
      · rw [decide_eq_true he] at hs
        have hG := hidden (getL_here hno.out HX.out he)
        clear he
        go_wp2_with fail
        go_ret
        rw [hG.out]
        exact ⟨rfl, HBa.out⟩
      · rw [decide_eq_false he] at hs
        have hno2 : Hid (∀ y ∈ l.take (k + 1), y.name ≠ nm) := fun y hy => by
          rw [take_snoc? HX.out, List.mem_append, List.mem_singleton] at hy
          rcases hy with hy | rfl
          · exact hno.out y hy
          · exact he
        clear he
        go_wp2_with fail
        go_roundw
        case rel => exact ⟨k + 1, by omega, by go_num, hno2, HBa.out⟩
        case measure => simp [intOf]; omega
    · obtain rfl : n = k := by omega
      have k1 : ¬ (n : Int) < (n : Int) := by omega
      have hG := hidden (getL_none (l := l) (nm := nm) (by
        have := hno.out
        rwa [List.take_of_length_le (by rw [H.out.len]; exact Nat.le_refl _)] at this))
      go_wp2_with fail
      go_ret
      rw [hG.out]
      exact ⟨rfl, hb⟩

end Go.Proofs.YtbijjjhfekkfaaaGreat

namespace Go.Proofs.YtbijjjhfekkfaaaGreat
set_option maxRecDepth 100000
open Go.RowKit

/-- a text's bytes, as numbers -/
def bytesN (v : ByteArray) : List Nat := v.data.toList.map UInt8.toNat
/-- what a matcher that is made so fits, or the error -/
def newF (kind : Int) (name value : ByteArray) : Except Int (ByteArray → Bool) :=
  if kind < 0 ∨ 3 < kind then .error 80 else
  if makeErr [⟨name, ⟨#[120]⟩⟩] ≠ 0 then .error (makeErr [⟨name, ⟨#[120]⟩⟩] : Nat) else
  if kind ≤ 1 then (if 64 < value.size then .error 41 else .ok fun v => decide (v = value) != decide (kind = 1)) else
  match parseP value.data.toList with
  | .bad c => .error (c : Int)
  | .ok t _ => .ok fun v => matT t (bytesN v) != decide (kind = 3)
/-- a func value that fits so, not turned -/
def FitB (w : World) (fv : Value) (F : ByteArray → Bool) : Prop :=
  (∃ bx value, fv = .func (.func 119) #[] #[.pointer (some ⟨bx, 0, none⟩)] ∧ Whole1 w bx 9 #[.string value] ∧ F = fun v => decide (v = value)) ∨
  ∃ nb p t, fv = .func (.func 121) #[] #[.pointer (some ⟨nb, 0, none⟩)] ∧ Whole1 w nb 259 #[.pointer (some ⟨p, 0, none⟩)] ∧ IsTr w p t ∧ F = fun v => matT t (bytesN v)
def FitA (w : World) (fv : Value) (F : ByteArray → Bool) : Prop :=
  FitB w fv F ∨ ∃ tb fv0 F0, fv = .func (.func 194) #[] #[.pointer (some ⟨tb, 0, none⟩)] ∧ Whole1 w tb 34 #[fv0] ∧ FitB w fv0 F0 ∧ F = fun v => !F0 v
/-- THE BLOCK IS A MATCHER of this name that fits so -/
def MatAt (w : World) (M : Nat) (kind : Int) (name value : ByteArray) (F : ByteArray → Bool) : Prop :=
  ∃ fv, Whole1 w M 146 #[.int .i64 kind, .string name, .string value, fv] ∧ FitA w fv F
section
variable {w w' : World}
theorem fitB_on (hb : Below w.heap.size w w') {fv : Value} {F : ByteArray → Bool} (h : FitB w fv F) : FitB w' fv F := by
  rcases h with ⟨bx, value, e, h1, h2⟩ | ⟨nb, p, t, e, h1, h2, h3⟩
  · exact .inl ⟨bx, value, e, h1.below hb h1.lt, h2⟩
  · exact .inr ⟨nb, p, t, e, h1.below hb h1.lt, isTr_on (fun _ _ _ h => h.below hb h.lt) t p h2, h3⟩
theorem fitA_on (hb : Below w.heap.size w w') {fv : Value} {F : ByteArray → Bool} (h : FitA w fv F) : FitA w' fv F := by
  rcases h with h | ⟨tb, fv0, F0, e, h1, h2, h3⟩
  · exact .inl (fitB_on hb h)
  · exact .inr ⟨tb, fv0, F0, e, h1.below hb h1.lt, fitB_on hb h2, h3⟩
theorem MatAt.on {M : Nat} {kind : Int} {name value : ByteArray} {F : ByteArray → Bool} (h : MatAt w M kind name value F) (hb : Below w.heap.size w w') : MatAt w' M kind name value F := by
  obtain ⟨fv, h1, h2⟩ := h
  exact ⟨fv, h1.below hb h1.lt, fitA_on hb h2⟩
end
end Go.Proofs.YtbijjjhfekkfaaaGreat

namespace Go.Proofs.YtbijjjhfekkfaaaGreat
set_option maxRecDepth 100000
open Go.RowKit

theorem fit1_any (bx : Nat) (value v : ByteArray) (w : World) (h1 : Whole1 w bx 9 #[.string value]) :
    Calls Tryz.prog 119 #[.string v, .pointer (some ⟨bx, 0, none⟩)] w fun e w' => e = .returned (.bool (decide (v = value))) ∧ Below w.heap.size w w' := by
  have c0 := h1.cell 0
  have e0 : (v.toList == value.toList) = decide (v = value) := str_eq v value
  clear h1
  obtain ⟨B, hB⟩ : ∃ B, decide (v = value) = B := ⟨_, rfl⟩
  simp only [hB]
  rw [hB] at e0
  clear hB
  go_enter Tryz.func119, Tryz.ntmps119
  go_wp2_with fail
  go_ret
  exact ⟨rfl, Below.refl _ _⟩
theorem fit2_any (nb p : Nat) (t : Tr) (v : ByteArray) (w : World) (h1 : Whole1 w nb 259 #[.pointer (some ⟨p, 0, none⟩)]) (h2 : IsTr w p t) (hv : v.size ≤ 140737488355328) :
    Calls Tryz.prog 121 #[.string v, .pointer (some ⟨nb, 0, none⟩)] w fun e w' => e = .returned (.bool (matT t (bytesN v))) ∧ Below w.heap.size w w' := by
  have c0 := h1.cell 0
  have S1 := hidden (match_any p t v w h2 hv)
  clear h1 h2
  go_enter Tryz.func121, Tryz.ntmps121
  go_wp2_with fail
  refine S1.out.mono ?_
  rintro e w1 ⟨rfl, b1⟩
  go_wp2_with fail
  go_ret
  exact ⟨rfl, b1⟩
set_option maxHeartbeats 1600000 in
theorem turnedv_any (tb : Nat) (fv0 : Value) (F0 : ByteArray → Bool) (v : ByteArray) (w : World) (h1 : Whole1 w tb 34 #[fv0]) (h2 : FitB w fv0 F0) (hv : v.size ≤ 140737488355328) :
    Calls Tryz.prog 194 #[.string v, .pointer (some ⟨tb, 0, none⟩)] w fun e w' => e = .returned (.bool (!F0 v)) ∧ Below w.heap.size w w' := by
  rcases h2 with ⟨bx, value, rfl, k1, rfl⟩ | ⟨nb, p, t, rfl, k1, k2, rfl⟩
  · have S1 := hidden (fit1_any bx value v w k1)
    have c0 := h1.cell 0
    clear h1 k1
    obtain ⟨B, hB⟩ : ∃ B, decide (v = value) = B := ⟨_, rfl⟩
    rw [hB] at S1
    simp only [hB]
    clear hB
    go_enter Tryz.func194, Tryz.ntmps194
    go_wp2_with fail
    refine S1.out.mono ?_
    rintro e w1 ⟨rfl, b1⟩
    go_wp2_with fail
    go_ret
    exact ⟨rfl, b1⟩
  · have S1 := hidden (fit2_any nb p t v w k1 k2 hv)
    have c0 := h1.cell 0
    clear h1 k1 k2
    go_enter Tryz.func194, Tryz.ntmps194
    go_wp2_with fail
    refine S1.out.mono ?_
    rintro e w1 ⟨rfl, b1⟩
    go_wp2_with fail
    go_ret
    exact ⟨rfl, b1⟩
set_option maxHeartbeats 1600000 in
theorem mvalue_any (M : Nat) (kind : Int) (name value : ByteArray) (F : ByteArray → Bool) (v : ByteArray) (w : World) (h : MatAt w M kind name value F) (hv : v.size ≤ 140737488355328) :
    Calls Tryz.prog 56 #[.pointer (some ⟨M, 0, none⟩), .string v] w fun e w' => e = .returned (.bool (F v)) ∧ Below w.heap.size w w' := by
  obtain ⟨fv, h1, h2⟩ := h
  have c3 := h1.cell 3
  clear h1
  rcases h2 with (⟨bx, val, rfl, k1, rfl⟩ | ⟨nb, p, t, rfl, k1, k2, rfl⟩) | ⟨tb, fv0, F0, rfl, k1, k2, rfl⟩
  · have S1 := hidden (fit1_any bx val v w k1)
    clear k1
    obtain ⟨B, hB⟩ : ∃ B, decide (v = val) = B := ⟨_, rfl⟩
    rw [hB] at S1
    simp only [hB]
    clear hB
    go_enter Tryz.func56, Tryz.ntmps56
    go_wp2_with fail
    refine S1.out.mono ?_
    rintro e w1 ⟨rfl, b1⟩
    go_wp2_with fail
    go_ret
    exact ⟨rfl, b1⟩
  · have S1 := hidden (fit2_any nb p t v w k1 k2 hv)
    clear k1 k2
    go_enter Tryz.func56, Tryz.ntmps56
    go_wp2_with fail
    refine S1.out.mono ?_
    rintro e w1 ⟨rfl, b1⟩
    go_wp2_with fail
    go_ret
    exact ⟨rfl, b1⟩
  · have S1 := hidden (turnedv_any tb fv0 F0 v w k1 k2 hv)
    clear k1 k2
    obtain ⟨B, hB⟩ : ∃ B, (!F0 v) = B := ⟨_, rfl⟩
    rw [hB] at S1
    simp only [hB]
    clear hB
    go_enter Tryz.func56, Tryz.ntmps56
    go_wp2_with fail
    refine S1.out.mono ?_
    rintro e w1 ⟨rfl, b1⟩
    go_wp2_with fail
    go_ret
    exact ⟨rfl, b1⟩
theorem mname_any (M : Nat) (kind : Int) (name value : ByteArray) (F : ByteArray → Bool) (w : World) (h : MatAt w M kind name value F) :
    Calls Tryz.prog 153 #[.pointer (some ⟨M, 0, none⟩)] w fun e w' => e = .returned (.string name) ∧ w' = w := by
  obtain ⟨fv, h1, _⟩ := h
  have c1 := h1.cell 1
  clear h1
  go_enter Tryz.func153, Tryz.ntmps153
  go_wp2_with fail
  go_ret
  exact ⟨rfl, rfl⟩
theorem getL_sz {l : List Lbl} {nm : ByteArray} (h : ∀ x ∈ l, x.name.size ≤ 140737488355328 ∧ x.value.size ≤ 140737488355328) : (getL l nm).size ≤ 140737488355328 := by
  induction l with
  | nil => rw [getL]; exact Nat.zero_le _
  | cons x l ih =>
    rw [getL]
    split
    · exact (h x (by simp)).2
    · exact ih fun y hy => h y (by simp [hy])
set_option maxHeartbeats 1600000 in
theorem mmatches_any (M : Nat) (kind : Int) (name value : ByteArray) (F : ByteArray → Bool) (A : Option Addr) (n c : Nat) (l : List Lbl) (w : World) (h : MatAt w M kind name value F) (hl : LbF w A n l) :
    Calls Tryz.prog 77 #[.pointer (some ⟨M, 0, none⟩), .slice A n c] w fun e w' => e = .returned (.bool (F (getL l name))) ∧ Below w.heap.size w w' := by
  have S1 := hidden (mname_any M kind name value F w h)
  have S2 := hidden (lget_any A n c l name w hl)
  have H := hidden h
  have HV := hidden (getL_sz (nm := name) hl.sz)
  clear h hl
  go_enter Tryz.func77, Tryz.ntmps77
  go_wp2_with (first
    | (go_at_call 153; refine S1.out.mono ?_; rintro e w1 ⟨rfl, rfl⟩)
    | (go_at_call 152; refine S2.out.mono ?_; rintro e w2 ⟨rfl, b2⟩; have HB2 := hidden b2; have S3 := hidden (mvalue_any M kind name value F (getL l name) w2 (H.out.on b2) HV.out); clear b2)
    | (go_at_call 56; refine S3.out.mono ?_; rintro e w3 ⟨rfl, b3⟩))
  go_ret
  exact ⟨rfl, HB2.out.trans (b3.mono HB2.out.size)⟩
end Go.Proofs.YtbijjjhfekkfaaaGreat

namespace Go.Proofs.YtbijjjhfekkfaaaGreat
set_option maxRecDepth 100000
open Go.RowKit

/-- what New answers -/
def NewR (w0 w : World) (kind : Int) (name value : ByteArray) (res : Except Int (ByteArray → Bool)) (e : Ending) : Prop :=
  Below w0.heap.size w0 w ∧ match res with
  | .error c => e = .returned (.tuple #[.pointer none, .int .i64 c]) ∧ c ≠ 0
  | .ok F => ∃ M, e = .returned (.tuple #[.pointer (some ⟨M, 0, none⟩), .int .i64 0]) ∧ MatAt w M kind name value F
theorem turned_any (fn : Fn) (a b : Array Value) (w : World) : Calls Tryz.prog 123 #[.func fn a b] w fun e w' => ∃ tb, e = .returned (.func (.func 194) #[] #[.pointer (some ⟨tb, 0, none⟩)]) ∧ Whole1 w' tb 34 #[.func fn a b] ∧ Below w.heap.size w w' := by
  have hmf : ∀ (fn : Fn) (first cap : Array Value) (w : World), (Instr.makeFunc fn first cap).run Tryz.prog w = .ok (.func fn first cap) w := fun _ _ _ _ => rfl
  go_enter Tryz.func123, Tryz.ntmps123
  go_wp2_with fail
  go_ret
  exact ⟨_, rfl, Whole1.new w _ _, (Below.refl _ _).alloc (Nat.le_refl _) _⟩
section
variable {kind : Int} {name value : ByteArray} (h1 : ¬ (kind < 0 ∨ 3 < kind)) (h2 : makeErr [⟨name, ⟨#[120]⟩⟩] = 0)
include h1 h2
theorem newF_long (hk : kind ≤ 1) (hv : 64 < value.size) : newF kind name value = .error 41 := by
  unfold newF
  rw [if_neg h1, if_neg (by rw [h2]; simp), if_pos hk, if_pos hv]
theorem newF_same (hk : kind ≤ 1) (hv : ¬ 64 < value.size) : newF kind name value = .ok fun v => decide (v = value) != decide (kind = 1) := by
  unfold newF
  rw [if_neg h1, if_neg (by rw [h2]; simp), if_pos hk, if_neg hv]
theorem newF_bad (hk : ¬ kind ≤ 1) {c : Nat} (hp : parseP value.data.toList = .bad c) : newF kind name value = .error (c : Int) := by
  unfold newF
  rw [if_neg h1, if_neg (by rw [h2]; simp), if_neg hk, hp]
theorem newF_like (hk : ¬ kind ≤ 1) {t : Tr} {j : Nat} (hp : parseP value.data.toList = .ok t j) : newF kind name value = .ok fun v => matT t (bytesN v) != decide (kind = 3) := by
  unfold newF
  rw [if_neg h1, if_neg (by rw [h2]; simp), if_neg hk, hp]
end

set_option maxHeartbeats 6400000 in
theorem new_any (kind : Int) (name value : ByteArray) (w : World) (hn : name.size ≤ 140737488355328) (hv : value.size ≤ 140737488355328) :
    Calls Tryz.prog 52 #[.int .i64 kind, .string name, .string value] w fun e w' => NewR w w' kind name value (newF kind name value) e := by
  have hmf : ∀ (fn : Fn) (first cap : Array Value) (w : World), (Instr.makeFunc fn first cap).run Tryz.prog w = .ok (.func fn first cap) w := fun _ _ _ _ => rfl
  obtain ⟨bx, hbx⟩ : ∃ bx, bx = w.heap.size := ⟨_, rfl⟩
  obtain ⟨M, hM⟩ : ∃ M, M = bx + 1 := ⟨_, rfl⟩
  obtain ⟨w1, hw1⟩ : ∃ w1, (w.alloc (.cells #[.string value] 9)).alloc (.cells #[.int .i64 kind, .string name, .string value, .nilFunc] 146) = w1 := ⟨_, rfl⟩
  have o1 := (Whole1.new w 9 #[.string value]).alloc (.cells #[.int .i64 kind, .string name, .string value, .nilFunc] 146)
  have o2 := Whole1.new (w.alloc (.cells #[.string value] 9)) 146 #[.int .i64 kind, .string name, .string value, .nilFunc]
  have hb1 : Below w.heap.size w w1 := hw1 ▸ ((Below.refl _ _).alloc (Nat.le_refl _) _).alloc (by simp) _
  rw [hw1] at o1 o2
  rw [World.size_alloc] at o2
  rw [← hbx] at o1 o2
  rw [← hM] at o2
  obtain ⟨RR, hRR⟩ : ∃ RR, newF kind name value = RR := ⟨_, rfl⟩
  have HRR := hidden hRR
  have HX := hidden (And.intro hbx (And.intro hM hw1))
  have H1 := hidden o1
  have H2 := hidden o2
  have HB := hidden hb1
  rw [hRR]
  have n0 : bx < M := by omega
  clear hbx hM hw1 o1 o2 hb1 hRR
  go_enter Tryz.func52, Tryz.ntmps52
  by_cases hk : kind < 0 ∨ 3 < kind
  · have HF := hidden (show RR = .error 80 from by rw [← HRR.out, newF, if_pos hk])
    have hFin := hidden (show NewR w ((w.alloc (.cells #[.string value] 9)).alloc (.cells #[.int .i64 kind, .string name, .string value, .nilFunc] 146)) kind name value RR (.returned (.tuple #[.pointer none, .int .i64 80])) from by
      rw [HX.out.2.2, HF.out]; exact ⟨HB.out, rfl, by decide⟩)
    by_cases hk0 : kind < 0
    · go_wp2_with fail
      go_ret2
      exact hFin.out
    · have hk3 : 3 < kind := by omega
      go_wp2_with fail
      go_ret2
      exact hFin.out
  · have k0 : ¬ kind < 0 := by omega
    have k3 : ¬ 3 < kind := by omega
    have HK := hidden hk
    clear hk
    obtain ⟨q, hq⟩ : ∃ q, q = M + 1 := ⟨_, rfl⟩
    obtain ⟨w2, hw2⟩ : ∃ w2, w1.alloc (.cells #[.string name, .string ⟨#[120]⟩] 114) = w2 := ⟨_, rfl⟩
    have hqs : q = w1.heap.size := by rw [hq, ← HX.out.2.2, HX.out.2.1, HX.out.1]; simp
    have hr2 : Row w2 w2.heap.size 2 (some ⟨q, 0, none⟩) 1 [.string name, .string ⟨#[120]⟩] := by
      have := Row.fresh w1 114 2 1 [.string name, .string ⟨#[120]⟩] rfl
      rw [← hqs] at this
      rw [← hw2]
      exact this.more (by simp; omega)
    have hb2 : Below w1.heap.size w1 w2 := hw2 ▸ (Below.refl _ _).alloc (Nat.le_refl _) _
    have S1 := hidden (lmake_any (some ⟨q, 0, none⟩) 1 1 [⟨name, ⟨#[120]⟩⟩] w2 ⟨hr2, rfl, by decide, fun x hx => by
      simp only [List.mem_singleton] at hx
      subst hx
      exact ⟨hn, show (⟨#[120]⟩ : ByteArray).size ≤ 140737488355328 from by decide⟩⟩ (Nat.le_refl _))
    obtain ⟨me, hme⟩ : ∃ me, makeErr [⟨name, ⟨#[120]⟩⟩] = me := ⟨_, rfl⟩
    rw [hme] at S1
    have HME := hidden hme
    have HY := hidden (And.intro hq hw2)
    have HB2 := hidden hb2
    clear hq hw2 hqs hr2 hb2 hme
    go_wp2_with fail
    rw [← HX.out.1, ← HX.out.2.1, HX.out.2.2, ← HY.out.1, HY.out.2]
    refine S1.out.mono ?_
    rintro e w3 ⟨lv, rfl, _, b3⟩
    have HB3 := hidden (HB2.out.trans (b3.mono HB2.out.size))
    have hbx3 := H1.out.below HB3.out H1.out.lt
    have hM3 := H2.out.below HB3.out H2.out.lt
    have c0 := hbx3.cell 0
    have m3 := hM3.cell 3
    have f3 := hM3.free 3
    have HM3 := hidden hM3
    have HX3 := hidden hbx3
    clear S1 b3 hbx3 hM3
    by_cases hm0 : me = 0
    · subst hm0
      have hsf1 := fun (a : Addr) (c : Array Value) (w : World) => run_store Tryz.prog w a (.func (.func 119) #[] c) .plain rfl
      have hsf2 := fun (a : Addr) (c : Array Value) (w : World) => run_store Tryz.prog w a (.func (.func 121) #[] c) .plain rfl
      have hsf3 := fun (a : Addr) (c : Array Value) (w : World) => run_store Tryz.prog w a (.func (.func 194) #[] c) .plain rfl
      have hMb : M ≠ bx := by omega
      have hwM : w.heap.size ≤ M := by have := HX.out; omega
      have HB03 := hidden (HB.out.trans (HB3.out.mono HB.out.size))
      have hkk : kind = 0 ∨ kind = 1 ∨ kind = 2 ∨ kind = 3 := by omega
      rcases hkk with rfl | rfl | rfl | rfl
      · by_cases hl : 64 < value.size
        · have hli : (64 : Int) < (value.size : Int) := by omega
          have HF := hidden (show NewR w w3 0 name value RR (.returned (.tuple #[.pointer none, .int .i64 41])) from by
            rw [← HRR.out, newF_long HK.out HME.out (by decide) hl]
            exact ⟨HB03.out, rfl, by decide⟩)
          go_wp2_with fail
          go_ret2
          exact HF.out
        · have hli : ¬ (64 : Int) < (value.size : Int) := by omega
          have HN := hidden (newF_same HK.out HME.out (by decide) hl)
          have hm4 := HM3.out.put 3 (.func (.func 119) #[] #[.pointer (some ⟨bx, 0, none⟩)])
          have hx4 := HX3.out.off (p := ⟨M, 3, none⟩) (fun e => hMb e.symm) (.func (.func 119) #[] #[.pointer (some ⟨bx, 0, none⟩)])
          have hb4 : Below w.heap.size w (w3.setCell ⟨M, 3, none⟩ (.func (.func 119) #[] #[.pointer (some ⟨bx, 0, none⟩)])) := HB03.out.setCell (p := ⟨M, 3, none⟩) hwM _
          have HF := hidden (show NewR w (w3.setCell ⟨M, 3, none⟩ (.func (.func 119) #[] #[.pointer (some ⟨bx, 0, none⟩)])) 0 name value RR (.returned (.tuple #[.pointer (some ⟨M, 0, none⟩), .int .i64 0])) from by
            rw [← HRR.out, HN.out]
            exact ⟨hb4, M, rfl, _, hm4, .inl (.inl ⟨bx, value, rfl, hx4, by funext v; simp⟩)⟩)
          clear hm4 hx4 hb4
          go_wp2_with fail
          go_ret2
          exact HF.out
      · by_cases hl : 64 < value.size
        · have hli : (64 : Int) < (value.size : Int) := by omega
          have HF := hidden (show NewR w w3 1 name value RR (.returned (.tuple #[.pointer none, .int .i64 41])) from by
            rw [← HRR.out, newF_long HK.out HME.out (by decide) hl]
            exact ⟨HB03.out, rfl, by decide⟩)
          go_wp2_with fail
          go_ret2
          exact HF.out
        · have hli : ¬ (64 : Int) < (value.size : Int) := by omega
          have HN := hidden (newF_same HK.out HME.out (by decide) hl)
          have hm4 := HM3.out.put 3 (.func (.func 119) #[] #[.pointer (some ⟨bx, 0, none⟩)])
          have hx4 := HX3.out.off (p := ⟨M, 3, none⟩) (fun e => hMb e.symm) (.func (.func 119) #[] #[.pointer (some ⟨bx, 0, none⟩)])
          have hb4 : Below w.heap.size w (w3.setCell ⟨M, 3, none⟩ (.func (.func 119) #[] #[.pointer (some ⟨bx, 0, none⟩)])) := HB03.out.setCell (p := ⟨M, 3, none⟩) hwM _
          have k3 := hm4.cell 3
          have HM4 := hidden hm4
          have HX4 := hidden hx4
          have HB4 := hidden hb4
          clear hm4 hx4 hb4
          go_wp2_with fail
          refine (turned_any _ _ _ _).mono ?_
          rintro e w5 ⟨tb, rfl, ht5, hb5⟩
          have hm5 := HM4.out.below hb5 HM4.out.lt
          have hx5 := HX4.out.below hb5 HX4.out.lt
          have hMt : M ≠ tb := kinds_apart hm5 ht5 (by decide)
          have j3 := hm5.cell 3
          have g3 := hm5.free 3
          have HF := hidden (show NewR w (w5.setCell ⟨M, 3, none⟩ (.func (.func 194) #[] #[.pointer (some ⟨tb, 0, none⟩)])) 1 name value RR (.returned (.tuple #[.pointer (some ⟨M, 0, none⟩), .int .i64 0])) from by
            rw [← HRR.out, HN.out]
            exact ⟨(HB4.out.trans (hb5.mono HB4.out.size)).setCell (p := ⟨M, 3, none⟩) hwM _, M, rfl, _, hm5.put 3 _, .inr ⟨tb, _, _, rfl, ht5.off (p := ⟨M, 3, none⟩) (fun e => hMt e.symm) _, .inl ⟨bx, value, rfl, hx5.off (p := ⟨M, 3, none⟩) (fun e => hMb e.symm) _, rfl⟩, by funext v; simp⟩⟩)
          clear hm5 hx5 ht5
          go_wp2_with fail
          go_ret2
          exact HF.out
      · have S2 := hidden (parse_any value w3 hv)
        obtain ⟨PP, hPP⟩ : ∃ PP, parseP value.data.toList = PP := ⟨_, rfl⟩
        have hnz := nz_parse value.data.toList
        rw [hPP] at S2 hnz
        have HPP := hidden hPP
        clear hPP
        go_wp2_with fail
        refine S2.out.mono ?_
        rintro e w4 ⟨hb4, hy⟩
        have HB4 := hidden (HB03.out.trans (hb4.mono HB03.out.size))
        have HM4 := hidden (HM3.out.below hb4 HM3.out.lt)
        cases PP with
        | bad c =>
          have hc0 : c ≠ 0 := hnz c rfl
          have hci : ((c : Int) != 0) = true := by simp; omega
          have hci2 : ¬ (c : Int) = 0 := by omega
          obtain rfl : e = .returned (.tuple #[.pointer none, .int .i64 (c : Int)]) := hy
          have HF := hidden (show NewR w (w4.alloc (.cells #[.pointer none] 259)) 2 name value RR (.returned (.tuple #[.pointer none, .int .i64 (c : Int)])) from by
            rw [← HRR.out, newF_bad HK.out HME.out (by decide) HPP.out]
            exact ⟨HB4.out.alloc HB4.out.size _, rfl, by omega⟩)
          clear hnz S2
          go_wp2_with fail
          go_ret2
          exact HF.out
        | ok t j =>
          obtain ⟨p, rfl, ht4⟩ := hy
          have HN := hidden (newF_like HK.out HME.out (by decide) HPP.out)
          obtain ⟨nb, hnb⟩ : ∃ nb, nb = w4.heap.size := ⟨_, rfl⟩
          obtain ⟨w5, hw5⟩ : ∃ w5, w4.alloc (.cells #[.pointer (some ⟨p, 0, none⟩)] 259) = w5 := ⟨_, rfl⟩
          have hn5 : Whole1 w5 nb 259 #[.pointer (some ⟨p, 0, none⟩)] := by rw [hnb, ← hw5]; exact Whole1.new _ _ _
          have hb5 : Below w4.heap.size w4 w5 := hw5 ▸ (Below.refl _ _).alloc (Nat.le_refl _) _
          have ht5 := isTr_nodes (below_nodes hb5) t p ht4
          have hm5 := HM4.out.below hb5 HM4.out.lt
          have HB5 := hidden (HB4.out.trans (hb5.mono HB4.out.size))
          have j3 := hm5.cell 3
          have g3 := hm5.free 3
          have HW5 := hidden (And.intro hnb hw5)
          rw [← hw5] at j3 g3
          have hMn : M ≠ nb := kinds_apart hm5 hn5 (by decide)
          have hm6 := hm5.put 3 (.func (.func 121) #[] #[.pointer (some ⟨nb, 0, none⟩)])
          have hn6 := hn5.off (p := ⟨M, 3, none⟩) (fun e => hMn e.symm) (.func (.func 121) #[] #[.pointer (some ⟨nb, 0, none⟩)])
          have ht6 : IsTr (w5.setCell ⟨M, 3, none⟩ (.func (.func 121) #[] #[.pointer (some ⟨nb, 0, none⟩)])) p t := isTr_nodes (fun g u cs hu hw => hw.off (p := ⟨M, 3, none⟩) (fun e => by
            have e : g = M := e
            refine kinds_apart hw hm5 ?_ e
            rcases hu with rfl | rfl <;> decide) _) t p ht5
          have hb6 : Below w.heap.size w (w5.setCell ⟨M, 3, none⟩ (.func (.func 121) #[] #[.pointer (some ⟨nb, 0, none⟩)])) := HB5.out.setCell (p := ⟨M, 3, none⟩) hwM _
          have HF := hidden (show NewR w (w5.setCell ⟨M, 3, none⟩ (.func (.func 121) #[] #[.pointer (some ⟨nb, 0, none⟩)])) 2 name value RR (.returned (.tuple #[.pointer (some ⟨M, 0, none⟩), .int .i64 0])) from by
            rw [← HRR.out, HN.out]
            exact ⟨hb6, M, rfl, _, hm6, .inl (.inr ⟨nb, p, t, rfl, hn6, ht6, by funext v; simp⟩)⟩)
          have HF2 := hidden (show NewR w ((w4.alloc (.cells #[.pointer (some ⟨p, 0, none⟩)] 259)).setCell ⟨M, 3, none⟩ (.func (.func 121) #[] #[.pointer (some ⟨w4.heap.size, 0, none⟩)])) 2 name value RR (.returned (.tuple #[.pointer (some ⟨M, 0, none⟩), .int .i64 0])) from by
            rw [HW5.out.2, ← HW5.out.1]; exact HF.out)
          clear hm5 hn5 ht5 ht4 hm6 hn6 ht6 hb6 hnz S2 hnb hw5
          go_wp2_with fail
          go_ret2
          exact HF2.out
      · have S2 := hidden (parse_any value w3 hv)
        obtain ⟨PP, hPP⟩ : ∃ PP, parseP value.data.toList = PP := ⟨_, rfl⟩
        have hnz := nz_parse value.data.toList
        rw [hPP] at S2 hnz
        have HPP := hidden hPP
        clear hPP
        go_wp2_with fail
        refine S2.out.mono ?_
        rintro e w4 ⟨hb4, hy⟩
        have HB4 := hidden (HB03.out.trans (hb4.mono HB03.out.size))
        have HM4 := hidden (HM3.out.below hb4 HM3.out.lt)
        cases PP with
        | bad c =>
          have hc0 : c ≠ 0 := hnz c rfl
          have hci : ((c : Int) != 0) = true := by simp; omega
          have hci2 : ¬ (c : Int) = 0 := by omega
          obtain rfl : e = .returned (.tuple #[.pointer none, .int .i64 (c : Int)]) := hy
          have HF := hidden (show NewR w (w4.alloc (.cells #[.pointer none] 259)) 3 name value RR (.returned (.tuple #[.pointer none, .int .i64 (c : Int)])) from by
            rw [← HRR.out, newF_bad HK.out HME.out (by decide) HPP.out]
            exact ⟨HB4.out.alloc HB4.out.size _, rfl, by omega⟩)
          clear hnz S2
          go_wp2_with fail
          go_ret2
          exact HF.out
        | ok t j =>
          obtain ⟨p, rfl, ht4⟩ := hy
          have HN := hidden (newF_like HK.out HME.out (by decide) HPP.out)
          obtain ⟨nb, hnb⟩ : ∃ nb, nb = w4.heap.size := ⟨_, rfl⟩
          obtain ⟨w5, hw5⟩ : ∃ w5, w4.alloc (.cells #[.pointer (some ⟨p, 0, none⟩)] 259) = w5 := ⟨_, rfl⟩
          have hn5 : Whole1 w5 nb 259 #[.pointer (some ⟨p, 0, none⟩)] := by rw [hnb, ← hw5]; exact Whole1.new _ _ _
          have hb5 : Below w4.heap.size w4 w5 := hw5 ▸ (Below.refl _ _).alloc (Nat.le_refl _) _
          have ht5 := isTr_nodes (below_nodes hb5) t p ht4
          have hm5 := HM4.out.below hb5 HM4.out.lt
          have HB5 := hidden (HB4.out.trans (hb5.mono HB4.out.size))
          have j3 := hm5.cell 3
          have g3 := hm5.free 3
          have HW5 := hidden (And.intro hnb hw5)
          rw [← hw5] at j3 g3
          have hMn : M ≠ nb := kinds_apart hm5 hn5 (by decide)
          have hm6 := hm5.put 3 (.func (.func 121) #[] #[.pointer (some ⟨nb, 0, none⟩)])
          have hn6 := hn5.off (p := ⟨M, 3, none⟩) (fun e => hMn e.symm) (.func (.func 121) #[] #[.pointer (some ⟨nb, 0, none⟩)])
          have ht6 : IsTr (w5.setCell ⟨M, 3, none⟩ (.func (.func 121) #[] #[.pointer (some ⟨nb, 0, none⟩)])) p t := isTr_nodes (fun g u cs hu hw => hw.off (p := ⟨M, 3, none⟩) (fun e => by
            have e : g = M := e
            refine kinds_apart hw hm5 ?_ e
            rcases hu with rfl | rfl <;> decide) _) t p ht5
          have hb6 : Below w.heap.size w (w5.setCell ⟨M, 3, none⟩ (.func (.func 121) #[] #[.pointer (some ⟨nb, 0, none⟩)])) := HB5.out.setCell (p := ⟨M, 3, none⟩) hwM _
          have k3 := hm6.cell 3
          rw [← hw5, hnb] at k3
          have HM6 := hidden hm6
          have HN6 := hidden hn6
          have HT6 := hidden ht6
          have HB6 := hidden hb6
          clear hm5 hn5 ht5 ht4 hm6 hn6 ht6 hb6 hnz S2 hnb hw5
          go_wp2_with fail
          rw [HW5.out.2, ← HW5.out.1]
          refine (turned_any _ _ _ _).mono ?_
          rintro e w7 ⟨tb, rfl, ht7, hb7⟩
          have hm7 := HM6.out.below hb7 HM6.out.lt
          have hn7 := HN6.out.below hb7 HN6.out.lt
          have hMt : M ≠ tb := kinds_apart hm7 ht7 (by decide)
          have i3 := hm7.cell 3
          have e3 := hm7.free 3
          have HF := hidden (show NewR w (w7.setCell ⟨M, 3, none⟩ (.func (.func 194) #[] #[.pointer (some ⟨tb, 0, none⟩)])) 3 name value RR (.returned (.tuple #[.pointer (some ⟨M, 0, none⟩), .int .i64 0])) from by
            rw [← HRR.out, HN.out]
            refine ⟨(HB6.out.trans (hb7.mono HB6.out.size)).setCell (p := ⟨M, 3, none⟩) hwM _, M, rfl, _, hm7.put 3 _, .inr ⟨tb, _, _, rfl, ht7.off (p := ⟨M, 3, none⟩) (fun e => hMt e.symm) _, .inr ⟨nb, p, t, rfl, hn7.off (p := ⟨M, 3, none⟩) (fun e => hMn e.symm) _, ?_, rfl⟩, by funext v; simp⟩⟩
            exact isTr_nodes (fun g u cs hu hw => hw.off (p := ⟨M, 3, none⟩) (fun e => by
              have e : g = M := e
              refine kinds_apart hw hm7 ?_ e
              rcases hu with rfl | rfl <;> decide) _) t p (isTr_nodes (below_nodes hb7) t p HT6.out))
          clear hm7 hn7 ht7
          go_wp2_with fail
          go_ret2
          exact HF.out
    · have hmi : ((me : Int) != 0) = true := by simp; omega
      have hme2 : ¬ (me : Int) = 0 := by omega
      have HF := hidden (show NewR w w3 kind name value RR (.returned (.tuple #[.pointer none, .int .i64 (me : Int)])) from by
        rw [← HRR.out, newF, if_neg HK.out, if_pos (by rw [HME.out]; exact hm0), HME.out]
        exact ⟨HB.out.trans (HB3.out.mono HB.out.size), rfl, by omega⟩)
      go_wp2_with fail
      go_ret2
      exact HF.out
end Go.Proofs.YtbijjjhfekkfaaaGreat

namespace Go.Proofs.YtbijjjhfekkfaaaGreat
set_option maxRecDepth 100000
open Go.RowKit

/-- a matcher among others -/
structure Mt where
  M : Nat
  kind : Int
  name : ByteArray
  value : ByteArray
  F : ByteArray → Bool
def Mt.ptr (x : Mt) : Value := .pointer (some ⟨x.M, 0, none⟩)
/-- matchers as they lie -/
structure MtRow (w : World) (A : Option Addr) (n : Nat) (ms : List Mt) : Prop where
  row : Row w w.heap.size 1 A n (ms.map Mt.ptr)
  len : ms.length = n
  each : ∀ x ∈ ms, MatAt w x.M x.kind x.name x.value x.F
theorem MtRow.on {w w' : World} {A : Option Addr} {n : Nat} {ms : List Mt} (h : MtRow w A n ms) (hb : Below w.heap.size w w') : MtRow w' A n ms :=
  ⟨(h.row.below hb).more hb.size, h.len, fun x hx => (h.each x hx).on hb⟩
theorem mt_cell {w : World} {A : Option Addr} {n : Nat} {ms : List Mt} (h : MtRow w A n ms) {k : Nat} (hk : k < n) : ∃ g o x, A = some ⟨g, o, none⟩ ∧ g < w.heap.size ∧ ms[k]? = some x ∧ w.cell? ⟨g, o + k, none⟩ = some (.pointer (some ⟨x.M, 0, none⟩)) ∧ MatAt w x.M x.kind x.name x.value x.F := by
  have hl := h.len
  obtain ⟨g, o, e, hb, hc⟩ := h.row.at_ (by omega)
  obtain ⟨x, hx⟩ : ∃ x, ms[k]? = some x := ⟨_, List.getElem?_eq_getElem (by omega)⟩
  refine ⟨g, o, x, e, hb, hx, ?_, h.each x (List.mem_of_getElem? hx)⟩
  have := hc k (by omega)
  rw [this, List.getElem?_map, hx]
  rfl
/-- do these labels fit all? -/
def allM (l : List Lbl) (ms : List Mt) : Bool := ms.all fun x => x.F (getL l x.name)

set_option maxHeartbeats 3200000 in
theorem mall_any (A B : Option Addr) (n c m d : Nat) (l : List Lbl) (ms : List Mt) (w : World) (hl : LbF w A n l) (h : MtRow w B m ms) (hm : m ≤ 17592186044416) :
    Calls Tryz.prog 22 #[.slice A n c, .slice B m d] w fun e w' => e = .returned (.bool (allM l ms)) ∧ Below w.heap.size w w' := by
  have HL := hidden hl
  have H := hidden h
  obtain ⟨R, hR⟩ : ∃ R, allM l ms = R := ⟨_, rfl⟩
  rw [hR]
  have HR := hidden hR
  clear hl h hR
  go_enter Tryz.func22, Tryz.ntmps22
  go_wp2_with fail
  go_loopw [9] (fun vi wr => ∃ k : Nat, vi = .int .i64 k ∧ k ≤ m ∧ Hid (Below w.heap.size w wr) ∧ Hid (allM l (ms.drop k) = R)) (fun vi _ => m - (intOf vi).toNat)
  case atStart => exact ⟨0, rfl, Nat.zero_le _, Below.refl _ _, hidden (by rw [List.drop_zero]; exact HR.out)⟩
  case round =>
    obtain ⟨k, rfl, hk, hb, hd⟩ := hrel
    have k0 : (0 : Int) ≤ (k : Int) := by omega
    by_cases hlt : k < m
    · have k1 : (k : Int) < (m : Int) := by omega
      obtain ⟨g, o, x, rfl, hg, hx, hc, hM⟩ := mt_cell (H.out.on hb.out) hlt
      have S1 := hidden (mmatches_any x.M x.kind x.name x.value x.F A n c l wr hM (HL.out.on hb.out))
      have hdx : ms.drop k = x :: ms.drop (k + 1) := by
        obtain ⟨hi, e⟩ := List.getElem?_eq_some_iff.1 hx
        rw [List.drop_eq_getElem_cons hi, e]
      have HD := hidden (show (x.F (getL l x.name) && allM l (ms.drop (k + 1))) = R from by rw [← hd.out, hdx]; rfl)
      have fwk : IntKind.i64.wrap ((k : Int) + 1) = (k : Int) + 1 := Go.IntWalk.i64_in _ (by omega)
      clear hx hM hdx hd
      go_wp2_with fail
      refine S1.out.mono ?_
      rintro e w2 ⟨rfl, b2⟩
      have HB2 := hidden (hb.out.trans (b2.mono hb.out.size))
      cases hf : x.F (getL l x.name) with
      | true =>
        have HD2 := hidden (show allM l (ms.drop (k + 1)) = R from by rw [← HD.out, hf]; rfl)
        clear hf
        go_wp2_with fail
        go_roundw
        case rel => exact ⟨k + 1, by go_num, by omega, HB2, HD2⟩
        case measure => simp [intOf]; omega
      | false =>
        have HD2 := hidden (show R = false from by rw [← HD.out, hf]; rfl)
        clear hf
        go_wp2_with fail
        go_ret
        rw [HD2.out]
        exact ⟨rfl, HB2.out⟩
    · obtain rfl : k = m := by omega
      have HD2 := hidden (show R = true from by rw [← hd.out, List.drop_of_length_le (by rw [H.out.len]; exact Nat.le_refl _)]; rfl)
      go_wp2_with fail
      go_ret
      rw [HD2.out]
      exact ⟨rfl, hb.out⟩
end Go.Proofs.YtbijjjhfekkfaaaGreat

namespace Go.Proofs.YtbijjjhfekkfaaaGreat
set_option maxRecDepth 100000

/-- a digit to the base 16 -/
def hexD (n : Nat) : UInt8 := if n < 10 then UInt8.ofNat (48 + n) else UInt8.ofNat (87 + n)
/-- one byte, quoted -/
def quoB (b : UInt8) : List UInt8 := if b.toNat = 34 ∨ b.toNat = 92 then [92, b] else if 32 ≤ b.toNat ∧ b.toNat ≤ 126 then [b] else [92, 120, hexD (b.toNat / 16), hexD (b.toNat % 16)]
def quoL (v : List UInt8) : List UInt8 := v.flatMap quoB
/-- a text in quotation marks -/
def quoteL (v : List UInt8) : List UInt8 := 34 :: (quoL v ++ [34])
theorem quoB_len (b : UInt8) : 1 ≤ (quoB b).length ∧ (quoB b).length ≤ 4 := by
  unfold quoB
  split
  · simp
  · split <;> simp
theorem quoL_len (v : List UInt8) : (quoL v).length ≤ 4 * v.length := by
  induction v with
  | nil => simp [quoL]
  | cons b v ih =>
    have := (quoB_len b).2
    simp only [quoL, List.flatMap_cons, List.length_append, List.length_cons] at ih ⊢
    omega
theorem quoL_snoc (v : List UInt8) (b : UInt8) : quoL (v ++ [b]) = quoL v ++ quoB b := by simp [quoL]
/-- the value of a digit, or 16 -/
def hexV (b : UInt8) : Nat := if 48 ≤ b.toNat ∧ b.toNat ≤ 57 then b.toNat - 48 else if 97 ≤ b.toNat ∧ b.toNat ≤ 102 then b.toNat - 87 else 16
theorem hexV_D {n : Nat} (h : n < 16) : hexV (hexD n) = n := by
  unfold hexV hexD
  by_cases h1 : n < 10
  · rw [if_pos h1]
    have e : (UInt8.ofNat (48 + n)).toNat = 48 + n := by simp; omega
    rw [e, if_pos (by omega)]; omega
  · rw [if_neg h1]
    have e : (UInt8.ofNat (87 + n)).toNat = 87 + n := by simp; omega
    rw [e, if_neg (by omega), if_pos (by omega)]; omega
theorem hexD_V {b : UInt8} (h : hexV b < 16) : hexD (hexV b) = b := by
  unfold hexV at h ⊢
  have hb := b.toNat_lt
  split
  · rename_i h1
    rw [hexD, if_pos (by omega), show 48 + (b.toNat - 48) = b.toNat by omega]; simp
  · split
    · rename_i h1 h2
      rw [hexD, if_neg (by omega), show 87 + (b.toNat - 87) = b.toNat by omega]; simp
    · rename_i h1 h2
      rw [if_neg h1, if_neg h2] at h; omega
/-- a quotation read, its opening mark behind us: the text, and how many bytes it took -/
def parQ : List UInt8 → Option (List UInt8 × Nat)
  | [] => none
  | b :: r =>
    if b.toNat = 34 then some ([], 1)
    else if b.toNat < 32 ∨ 126 < b.toNat then none
    else if b.toNat ≠ 92 then (parQ r).map fun p => (b :: p.1, p.2 + 1)
    else match r with
      | [] => none
      | c :: r2 =>
        if c.toNat = 34 ∨ c.toNat = 92 then (parQ r2).map fun p => (c :: p.1, p.2 + 2)
        else match r2 with
          | h :: l :: r3 =>
            if c.toNat ≠ 120 then none
            else if hexV h < 16 ∧ hexV l < 16 ∧ ¬ (32 ≤ hexV h * 16 + hexV l ∧ hexV h * 16 + hexV l ≤ 126) then (parQ r3).map fun p => (UInt8.ofNat (hexV h * 16 + hexV l) :: p.1, p.2 + 4)
            else none
          | _ => none
theorem parQ_cons (b : UInt8) (r : List UInt8) : parQ (b :: r) = (
    if b.toNat = 34 then some ([], 1)
    else if b.toNat < 32 ∨ 126 < b.toNat then none
    else if b.toNat ≠ 92 then (parQ r).map fun p => (b :: p.1, p.2 + 1)
    else match r with
      | [] => none
      | c :: r2 =>
        if c.toNat = 34 ∨ c.toNat = 92 then (parQ r2).map fun p => (c :: p.1, p.2 + 2)
        else match r2 with
          | h :: l :: r3 =>
            if c.toNat ≠ 120 then none
            else if hexV h < 16 ∧ hexV l < 16 ∧ ¬ (32 ≤ hexV h * 16 + hexV l ∧ hexV h * 16 + hexV l ≤ 126) then (parQ r3).map fun p => (UInt8.ofNat (hexV h * 16 + hexV l) :: p.1, p.2 + 4)
            else none
          | _ => none) := by rw [parQ.eq_def]
theorem u8_eq {a b : UInt8} (h : a.toNat = b.toNat) : a = b := UInt8.toNat_inj.1 h
/-- what is quoted is read back -/
theorem parQ_quo (rest : List UInt8) : ∀ v : List UInt8, parQ (quoL v ++ 34 :: rest) = some (v, (quoL v).length + 1)
  | [] => by
    show parQ (34 :: rest) = _
    rw [parQ_cons, if_pos (show UInt8.toNat 34 = 34 from rfl)]; rfl
  | b :: v => by
    have ih := parQ_quo rest v
    have e : quoL (b :: v) = quoB b ++ quoL v := by simp [quoL]
    rw [e, List.append_assoc]
    unfold quoB
    by_cases h1 : b.toNat = 34 ∨ b.toNat = 92
    · rw [if_pos h1]
      simp only [List.cons_append, List.nil_append, List.length_cons]
      rw [parQ_cons, if_neg (by decide), if_neg (by decide), if_neg (by decide)]
      dsimp only
      rw [if_pos h1, ih]
      simp
    · rw [if_neg h1]
      by_cases h2 : 32 ≤ b.toNat ∧ b.toNat ≤ 126
      · rw [if_pos h2]
        simp only [List.cons_append, List.nil_append, List.length_cons]
        rw [parQ_cons, if_neg (fun h => h1 (.inl h)), if_neg (by omega), if_pos (fun h => h1 (.inr h)), ih]
        simp
      · rw [if_neg h2]
        have hb := b.toNat_lt
        simp only [List.cons_append, List.nil_append, List.length_cons]
        rw [parQ_cons, if_neg (by decide), if_neg (by decide), if_neg (by decide)]
        dsimp only
        rw [if_neg (by decide)]
        try dsimp only
        rw [if_neg (by decide), hexV_D (by omega), hexV_D (by omega), if_pos ⟨by omega, by omega, by omega⟩, ih, show b.toNat / 16 * 16 + b.toNat % 16 = b.toNat by omega]
        simp
/-- what is read is the one quotation of its text -/
theorem parQ_form : ∀ (s v : List UInt8) (n : Nat), parQ s = some (v, n) → ∃ rest, s = quoL v ++ 34 :: rest ∧ n = (quoL v).length + 1
  | [], v, n, h => by simp [parQ] at h
  | b :: r, v, n, h => by
    rw [parQ_cons] at h
    split at h
    · rename_i hb
      simp only [Option.some.injEq, Prod.mk.injEq] at h
      obtain ⟨rfl, rfl⟩ := h
      exact ⟨r, by rw [u8_eq (b := 34) hb]; rfl, rfl⟩
    · rename_i hb
      split at h
      · cases h
      · rename_i hr
        split at h
        · rename_i hne
          cases hp : parQ r with
          | none => rw [hp] at h; cases h
          | some p =>
            obtain ⟨v2, n2⟩ := p
            rw [hp] at h
            simp only [Option.map_some, Option.some.injEq, Prod.mk.injEq] at h
            obtain ⟨rfl, rfl⟩ := h
            obtain ⟨rest, e1, e2⟩ := parQ_form r v2 n2 hp
            have e : quoL (b :: v2) = b :: quoL v2 := by
              have : quoB b = [b] := by unfold quoB; rw [if_neg (by omega), if_pos (by omega)]
              simp [quoL, this]
            exact ⟨rest, by rw [e, e1]; rfl, by rw [e, e2]; rfl⟩
        · rename_i h92
          have h92 : b.toNat = 92 := by omega
          have eb : b = 92 := u8_eq h92
          match r, h with
          | [], h => simp at h
          | c :: r2, h =>
            simp only at h
            split at h
            · rename_i hc
              cases hp : parQ r2 with
              | none => rw [hp] at h; cases h
              | some p =>
                obtain ⟨v2, n2⟩ := p
                rw [hp] at h
                simp only [Option.map_some, Option.some.injEq, Prod.mk.injEq] at h
                obtain ⟨rfl, rfl⟩ := h
                obtain ⟨rest, e1, e2⟩ := parQ_form r2 v2 n2 hp
                have e : quoL (c :: v2) = 92 :: c :: quoL v2 := by
                  have : quoB c = [92, c] := by unfold quoB; rw [if_pos hc]
                  simp [quoL, this]
                exact ⟨rest, by rw [e, e1, eb]; rfl, by rw [e, e2]; rfl⟩
            · rename_i hc
              match r2, h with
              | [], h => simp at h
              | [_], h => simp at h
              | hh :: ll :: r3, h =>
                simp only at h
                split at h
                · cases h
                · rename_i hx
                  split at h
                  · rename_i hv
                    obtain ⟨v1, v2', v3⟩ := hv
                    cases hp : parQ r3 with
                    | none => rw [hp] at h; cases h
                    | some p =>
                      obtain ⟨v2, n2⟩ := p
                      rw [hp] at h
                      simp only [Option.map_some, Option.some.injEq, Prod.mk.injEq] at h
                      obtain ⟨rfl, rfl⟩ := h
                      obtain ⟨rest, e1, e2⟩ := parQ_form r3 v2 n2 hp
                      have hval : (UInt8.ofNat (hexV hh * 16 + hexV ll)).toNat = hexV hh * 16 + hexV ll := by simp; omega
                      have e : quoL (UInt8.ofNat (hexV hh * 16 + hexV ll) :: v2) = 92 :: 120 :: hh :: ll :: quoL v2 := by
                        have : quoB (UInt8.ofNat (hexV hh * 16 + hexV ll)) = [92, 120, hh, ll] := by
                          unfold quoB
                          rw [hval, if_neg (by omega), if_neg v3, show (hexV hh * 16 + hexV ll) / 16 = hexV hh by omega, show (hexV hh * 16 + hexV ll) % 16 = hexV ll by omega, hexD_V v1, hexD_V v2']
                        rw [quoL, List.flatMap_cons, this]; rfl
                      have ec : c = 120 := u8_eq (by
                        have : c.toNat = 120 := by omega
                        exact this)
                      exact ⟨rest, by rw [e, e1, eb, ec]; rfl, by rw [e, e2]; rfl⟩
                  · cases h
end Go.Proofs.YtbijjjhfekkfaaaGreat

namespace Go.Proofs.YtbijjjhfekkfaaaGreat
set_option maxRecDepth 100000

/-- the one form of a number -/
def uintL (v : Nat) : List UInt8 := if h : v < 128 then [UInt8.ofNat v] else UInt8.ofNat (v % 128 + 128) :: uintL (v / 128)
termination_by v
decreasing_by omega
theorem uintL_small {v : Nat} (h : v < 128) : uintL v = [UInt8.ofNat v] := by rw [uintL, dif_pos h]
theorem uintL_big {v : Nat} (h : ¬ v < 128) : uintL v = UInt8.ofNat (v % 128 + 128) :: uintL (v / 128) := by rw [uintL, dif_neg h]
theorem uintL_ne (v : Nat) : uintL v ≠ [] := by
  rw [uintL]; split <;> simp
theorem uintL_pos (v : Nat) : 0 < (uintL v).length := List.length_pos_iff.2 (uintL_ne v)
theorem uintL_len (k : Nat) : ∀ v, v < 128 ^ (k + 1) → (uintL v).length ≤ k + 1 := by
  induction k with
  | zero => intro v h; rw [uintL_small (by simpa using h)]; simp
  | succ k ih =>
    intro v h
    by_cases hv : v < 128
    · rw [uintL_small hv]; simp
    · rw [uintL_big hv, List.length_cons]
      have := ih (v / 128) (by rw [Nat.div_lt_iff_lt_mul (by decide)]; rw [Nat.pow_succ] at h; exact h)
      omega
theorem uintL_ten {v : Nat} (h : v < 18446744073709551616) : (uintL v).length ≤ 10 := uintL_len 9 v (by
  have : (128 : Nat) ^ (9 + 1) = 1180591620717411303424 := by decide
  omega)
/-- what stands at the head of the bytes, the i-th of a number's and those behind: the value, how many bytes, the error -/
def ruL : Nat → List UInt8 → Nat × Nat × Int
  | _, [] => (0, 0, 20)
  | i, b :: l => if (i = 9 ∧ 1 < b.toNat) ∨ (0 < i ∧ b.toNat = 0) then (0, 0, 21) else if b.toNat < 128 then (b.toNat, 1, 0) else
      if (ruL (i + 1) l).2.2 = 0 then ((ruL (i + 1) l).1 * 128 + b.toNat % 128, (ruL (i + 1) l).2.1 + 1, 0) else (0, 0, (ruL (i + 1) l).2.2)
theorem ruL_cons (i : Nat) (b : UInt8) (l : List UInt8) : ruL i (b :: l) = if (i = 9 ∧ 1 < b.toNat) ∨ (0 < i ∧ b.toNat = 0) then (0, 0, 21) else if b.toNat < 128 then (b.toNat, 1, 0) else
      if (ruL (i + 1) l).2.2 = 0 then ((ruL (i + 1) l).1 * 128 + b.toNat % 128, (ruL (i + 1) l).2.1 + 1, 0) else (0, 0, (ruL (i + 1) l).2.2) := rfl
theorem ruL_err (i : Nat) (l : List UInt8) : (ruL i l).2.2 = 0 ∨ (ruL i l = (0, 0, 20) ∨ ruL i l = (0, 0, 21)) := by
  induction l generalizing i with
  | nil => exact .inr (.inl rfl)
  | cons b l ih =>
    rw [ruL_cons]
    split
    · exact .inr (.inr rfl)
    · split
      · exact .inl rfl
      · split
        · exact .inl rfl
        · rename_i h
          rcases ih (i + 1) with h1 | h1 | h1
          · exact absurd h1 h
          · rw [h1]; exact .inr (.inl rfl)
          · rw [h1]; exact .inr (.inr rfl)
/-- a number's bytes are read as the number -/
theorem ruL_uint (rest : List UInt8) (i : Nat) : ∀ (v : Nat), i ≤ 9 → v * 128 ^ i < 18446744073709551616 → (i = 0 ∨ v ≠ 0) → ruL i (uintL v ++ rest) = (v, (uintL v).length, 0) := by
  intro v
  induction v using Nat.strongRecOn generalizing i with
  | _ v ih =>
    intro hi hv h0
    by_cases hs : v < 128
    · rw [uintL_small hs, List.cons_append, ruL_cons]
      have hb : (UInt8.ofNat v).toNat = v := by simp; omega
      rw [hb]
      have hno : ¬ ((i = 9 ∧ 1 < v) ∨ (0 < i ∧ v = 0)) := by
        rintro (⟨rfl, h⟩ | ⟨h, h'⟩)
        · have : (128 : Nat) ^ 9 = 9223372036854775808 := by decide
          rw [this] at hv
          omega
        · omega
      rw [if_neg hno, if_pos hs]
      rfl
    · rw [uintL_big hs, List.cons_append, ruL_cons]
      have hb : (UInt8.ofNat (v % 128 + 128)).toNat = v % 128 + 128 := by simp; omega
      rw [hb]
      have h9 : i ≠ 9 := fun e => by
        subst e
        have : (128 : Nat) ^ 9 = 9223372036854775808 := by decide
        rw [this] at hv
        omega
      have hno : ¬ ((i = 9 ∧ 1 < v % 128 + 128) ∨ (0 < i ∧ v % 128 + 128 = 0)) := by omega
      rw [if_neg hno, if_neg (by omega)]
      have hd : v / 128 * 128 ^ (i + 1) < 18446744073709551616 := by
        have : v / 128 * 128 ^ (i + 1) = v / 128 * 128 * 128 ^ i := by rw [Nat.pow_succ, Nat.mul_comm (128 ^ i), Nat.mul_assoc]
        rw [this]
        exact Nat.lt_of_le_of_lt (Nat.mul_le_mul_right _ (Nat.div_mul_le_self _ _)) hv
      rw [ih (v / 128) (by omega) (i + 1) (by omega) hd (by omega)]
      simp only [if_true, List.length_cons]
      have e : v / 128 * 128 + (v % 128 + 128) % 128 = v := by omega
      rw [e]
/-- what is read is the one form of its value -/
theorem ruL_form (i : Nat) (l : List UInt8) : ∀ (v c : Nat), i ≤ 9 → ruL i l = (v, c, 0) → l.take c = uintL v ∧ c ≤ l.length ∧ v * 128 ^ i < 18446744073709551616 ∧ (i = 0 ∨ v ≠ 0) ∧ c = (uintL v).length := by
  induction l generalizing i with
  | nil => intro v c _ h; simp [ruL] at h
  | cons b l ih =>
    intro v c hi h
    rw [ruL_cons] at h
    split at h
    · simp at h
    · rename_i hno
      have hb := b.toNat_lt
      split at h
      · rename_i hs
        simp only [Prod.mk.injEq] at h
        obtain ⟨rfl, rfl, _⟩ := h
        rw [uintL_small hs]
        refine ⟨by simp, by simp, ?_, by omega, rfl⟩
        have hp : (128 : Nat) ^ i ≤ 128 ^ 9 := Nat.pow_le_pow_right (by decide) hi
        have h9 : (128 : Nat) ^ 9 = 9223372036854775808 := by decide
        rcases Nat.lt_or_ge i 9 with h | h
        · have hp : (128 : Nat) ^ i ≤ 128 ^ 8 := Nat.pow_le_pow_right (by decide) (by omega)
          have h8 : (128 : Nat) ^ 8 = 72057594037927936 := by decide
          have : b.toNat * 128 ^ i ≤ 127 * 128 ^ 8 := Nat.mul_le_mul (by omega) hp
          omega
        · have : i = 9 := by omega
          subst this
          rw [h9]; omega
      · rename_i hs
        split at h
        · rename_i he
          simp only [Prod.mk.injEq] at h
          obtain ⟨h1, h2, _⟩ := h
          have hi9 : i ≠ 9 := by omega
          obtain ⟨k1, k2, k3, k4, k5⟩ := ih (i + 1) (ruL (i + 1) l).1 (ruL (i + 1) l).2.1 (by omega) (by
            rw [← he])
          generalize (ruL (i + 1) l).1 = v' at *
          generalize (ruL (i + 1) l).2.1 = c' at *
          subst h1 h2
          have hv0 : v' ≠ 0 := by omega
          have hbig : ¬ (v' * 128 + b.toNat % 128) < 128 := by omega
          rw [uintL_big hbig]
          have e1 : (v' * 128 + b.toNat % 128) / 128 = v' := by omega
          have e2 : (v' * 128 + b.toNat % 128) % 128 + 128 = b.toNat := by omega
          rw [e1, e2]
          refine ⟨?_, by simp; omega, ?_, by omega, by rw [List.length_cons, ← k5]⟩
          · rw [List.take_succ_cons, k1]; simp
          · have e3 : v' * 128 ^ (i + 1) = v' * 128 * 128 ^ i := by rw [Nat.pow_succ, Nat.mul_comm (128 ^ i), Nat.mul_assoc]
            rw [e3] at k3
            -- both are multiples: v'*128^(i+1) < 2^64 leaves room below the next multiple of 128^i * 128
            have hdvd : ∃ q, 18446744073709551616 = q * (128 * 128 ^ i) ∨ i = 8 := by
              rcases Nat.lt_or_ge i 8 with h | h
              · refine ⟨18446744073709551616 / (128 * 128 ^ i), .inl ?_⟩
                have : i = 0 ∨ i = 1 ∨ i = 2 ∨ i = 3 ∨ i = 4 ∨ i = 5 ∨ i = 6 ∨ i = 7 := by omega
                rcases this with rfl | rfl | rfl | rfl | rfl | rfl | rfl | rfl <;> decide
              · exact ⟨0, .inr (by omega)⟩
            obtain ⟨q, hq | rfl⟩ := hdvd
            · have hp : 0 < 128 * 128 ^ i := Nat.mul_pos (by decide) (Nat.pow_pos (by decide))
              have e4 : v' * 128 * 128 ^ i = v' * (128 * 128 ^ i) := Nat.mul_assoc ..
              rw [e4, hq] at k3
              have hlt : v' < q := Nat.lt_of_mul_lt_mul_right k3
              rw [hq, Nat.add_mul, e4]
              have : b.toNat % 128 * 128 ^ i < 128 * 128 ^ i := Nat.mul_lt_mul_of_pos_right (by omega) (Nat.pow_pos (by decide))
              have h5 : (v' + 1) * (128 * 128 ^ i) ≤ q * (128 * 128 ^ i) := Nat.mul_le_mul_right _ hlt
              rw [Nat.add_mul, Nat.one_mul] at h5
              omega
            · have h8 : (128 : Nat) ^ 8 = 72057594037927936 := by decide
              rw [h8] at k3 ⊢
              clear h8 ih
              have hv1 : v' < 2 := by
                rcases Nat.lt_or_ge v' 2 with h | h
                · exact h
                · have := Nat.mul_le_mul_right 72057594037927936 (Nat.mul_le_mul_right 128 h)
                  omega
              have hle : v' * 128 + b.toNat % 128 ≤ 255 := by omega
              exact Nat.lt_of_le_of_lt (Nat.mul_le_mul_right _ hle) (by decide)
        · rename_i he
          simp only [Prod.mk.injEq] at h
          exact absurd h.2.2 he
/-- the number that is written at the place at, and the place behind it -/
def readU (s : List UInt8) (at_ : Int) : Nat × Int × Int :=
  if at_ < 0 ∨ (s.length : Int) ≤ at_ then (0, 0, 20) else if (ruL 0 (s.drop at_.toNat)).2.2 = 0 then ((ruL 0 (s.drop at_.toNat)).1, at_ + (ruL 0 (s.drop at_.toNat)).2.1, 0) else (0, 0, (ruL 0 (s.drop at_.toNat)).2.2)
theorem readU_err (s : List UInt8) (at_ : Int) : (readU s at_).2.2 = 0 ∨ readU s at_ = (0, 0, 20) ∨ readU s at_ = (0, 0, 21) := by
  unfold readU
  split
  · exact .inr (.inl rfl)
  · split
    · exact .inl rfl
    · rename_i h
      rcases ruL_err 0 (s.drop at_.toNat) with h1 | h1 | h1
      · exact absurd h1 h
      · rw [h1]; exact .inr (.inl rfl)
      · rw [h1]; exact .inr (.inr rfl)
theorem readU_ok {s : List UInt8} {at_ : Int} {v : Nat} {n : Int} (h : readU s at_ = (v, n, 0)) : 0 ≤ at_ ∧ n = at_ + (uintL v).length ∧ n ≤ s.length ∧ v < 18446744073709551616 ∧ (s.drop at_.toNat).take (uintL v).length = uintL v := by
  unfold readU at h
  split at h
  · simp at h
  · rename_i hr
    split at h
    · rename_i he
      simp only [Prod.mk.injEq] at h
      obtain ⟨h1, h2, _⟩ := h
      obtain ⟨k1, k2, k3, _, k5⟩ := ruL_form 0 (s.drop at_.toNat) _ _ (by decide) (by rw [← he])
      rw [h1] at k1 k3 k5
      rw [k5] at k1 k2 h2
      rw [List.length_drop] at k2
      refine ⟨by omega, by omega, by omega, by simpa using k3, k1⟩
    · rename_i he
      simp only [Prod.mk.injEq] at h
      exact absurd h.2.2 he
theorem readU_at {s : List UInt8} {at_ : Int} {v : Nat} {rest : List UInt8} (h0 : 0 ≤ at_) (h : s.drop at_.toNat = uintL v ++ rest) (hv : v < 18446744073709551616) : readU s at_ = (v, at_ + (uintL v).length, 0) := by
  have hl : (s.drop at_.toNat).length = (uintL v).length + rest.length := by rw [h, List.length_append]
  rw [List.length_drop] at hl
  have := uintL_pos v
  unfold readU
  rw [if_neg (by omega), h, ruL_uint rest 0 v (by decide) (by simpa using hv) (.inl rfl)]
  rfl
/-- a number with a sign as one without -/
def zz (v : Int) : Nat := if 0 ≤ v then (2 * v).toNat else (-(2 * v) - 1).toNat
def unzz (n : Nat) : Int := if n % 2 = 0 then (n / 2 : Nat) else -((n / 2 : Nat) : Int) - 1
theorem unzz_zz (v : Int) : unzz (zz v) = v := by
  unfold unzz zz
  split <;> split <;> omega
theorem zz_unzz (n : Nat) : zz (unzz n) = n := by
  unfold unzz zz
  split <;> split <;> omega
theorem zz_lt {v : Int} (h : -9223372036854775808 ≤ v) (h2 : v < 9223372036854775808) : zz v < 18446744073709551616 := by
  unfold zz
  split <;> omega
theorem unzz_in {n : Nat} (h : n < 18446744073709551616) : -9223372036854775808 ≤ unzz n ∧ unzz n < 9223372036854775808 := by
  unfold unzz
  split <;> omega
def intL (v : Int) : List UInt8 := uintL (zz v)
def readI (s : List UInt8) (at_ : Int) : Int × Int × Int := if (readU s at_).2.2 = 0 then (unzz (readU s at_).1, (readU s at_).2.1, 0) else (0, 0, (readU s at_).2.2)
end Go.Proofs.YtbijjjhfekkfaaaGreat

namespace Go.Proofs.YtbijjjhfekkfaaaGreat
set_option maxRecDepth 100000
open Go.RowKit Go.Shelf

theorem sizeBld : (Tryz.prog.info? 270).map (·.size) = some 2 := by kernel_rfl
theorem liesBld : liesAt Tryz.prog Tryz.prog.depth 270 (2 / Tryz.prog.cellsOf 270) 0 270 1 = true := by kernel_rfl

set_option maxHeartbeats 1000000 in
theorem bldCheck_used (b : Nat) (w : World) (h0 : w.cell? ⟨b, 0, none⟩ = some (.pointer (some ⟨b, 0, none⟩))) :
    Calls Tryz.prog 197 #[.pointer (some ⟨b, 0, none⟩)] w fun e w' => e = .returned (.tuple #[]) ∧ w' = w := by
  obtain ⟨j, hj, _⟩ := Option.map_eq_some_iff.1 sizeBld
  have HN := Lib.run_neq_ptr_same w ⟨b, 0, none⟩ Tryz.underlying268 hj
  go_enter Tryz.func197, Tryz.ntmps197
  go_wp2_with fail
  go_end0
  exact ⟨rfl, rfl⟩

set_option maxHeartbeats 1000000 in
theorem bldCheck_fresh (b : Nat) (w : World) (h0 : w.cell? ⟨b, 0, none⟩ = some (.pointer none)) (hsh : w.shape? b = some (270, 2)) (hfz : w.frozen? ⟨b, 0, none⟩ = false) :
    Calls Tryz.prog 197 #[.pointer (some ⟨b, 0, none⟩)] w fun e w' => e = .returned (.tuple #[]) ∧ w' = w.setCell ⟨b, 0, none⟩ (.pointer (some ⟨b, 0, none⟩)) := by
  obtain ⟨j, hj, hjs⟩ := Option.map_eq_some_iff.1 sizeBld
  go_enter Tryz.func197, Tryz.ntmps197
  go_wp2_with fail
  rw [Lib.run_to_unsafe w ⟨b, 0, none⟩ Tryz.underlying268 Tryz.underlying416 hj (by rw [hjs]; decide) hsh (Nat.zero_lt_succ 1)]
  simp only [Result.andThen]
  rw [Oper.upon_value]
  go_wp2_with fail
  rw [run_callFunc_extern Tryz.func251 (by kernel_rfl) (by kernel_rfl) (by kernel_rfl) (e := Extern.AbiNoEscape.same) (by kernel_rfl)]
  rw [Lib.run_noEscape]
  simp only [Result.andThen]
  rw [Oper.upon_value]
  go_wp2_with fail
  rw [Lib.run_from_unsafe w ⟨b, 0, none⟩ Tryz.underlying416 Tryz.underlying268 hj hsh liesBld]
  simp only [Result.andThen]
  rw [Oper.upon_value]
  go_wp2_with fail
  go_end0
  exact ⟨rfl, rfl⟩

/-- blocks of other types than a builder's and a byte row's are as they were -/
def Others (w w' : World) : Prop := ∀ (j : Nat) (cs : Array Value) (T : TypeId) (fr : Nat × Nat), w.heap[j]? = some (.cells cs T fr) → T ≠ 5 → T ≠ 270 → w'.heap[j]? = some (.cells cs T fr)
theorem Others.trans {a b c : World} (h : Others a b) (k : Others b c) : Others a c := fun j cs T fr h1 h2 h3 => k j cs T fr (h j cs T fr h1 h2 h3) h2 h3
theorem Others.refl (a : World) : Others a a := fun _ _ _ _ h _ _ => h
theorem Others.put {w : World} {b o : Nat} {c : Array Value} {u : Value} (hb : w.heap[b]? = some (.cells c 270 (0, 0))) : Others w (w.setCell ⟨b, o, none⟩ u) := fun j cs T fr h1 _ h3 => by
  rw [Below.heap_setCell w ⟨b, o, none⟩ u j (fun e => by
    have e' : j = b := e
    rw [e', hb] at h1
    simp only [Option.some.injEq, Obj.cells.injEq] at h1
    exact h3 h1.2.1.symm)]
  exact h1
theorem Others.alloc (w : World) (o : Obj) : Others w (w.alloc o) := fun j cs T fr h1 _ _ => by
  have hl : j < w.heap.size := by
    rcases Nat.lt_or_ge j w.heap.size with h | h
    · exact h
    · simp [Array.getElem?_eq_none h] at h1
  rw [Below.heap_alloc w o j hl]
  exact h1
theorem Others.grown {w w' : World} {B n : Nat} {v : Value} {xs : List Value} (hown : w.ownsRow B 5 1 v n xs) (hg : w.grownBy w' v.ownBlock) : Others w w' := fun j cs T fr h1 h2 _ => by
  have hl : j < w.heap.size := by
    rcases Nat.lt_or_ge j w.heap.size with h | h
    · exact h
    · simp [Array.getElem?_eq_none h] at h1
  rw [hg.block j hl (fun e => Lib.ownBlock_ne hown h1 h2 e.symm)]
  exact h1

theorem bldCheck_any (B b : Nat) (bs : List Value) (w : World) (h : Lib.IsBuilder 270 5 B b bs w) :
    Calls Tryz.prog 197 #[.pointer (some ⟨b, 0, none⟩)] w fun e w' => e = .returned (.tuple #[]) ∧ Lib.BuilderAt 270 5 B b (.pointer (some ⟨b, 0, none⟩)) bs w' ∧ Below B w w' ∧ Others w w' := by
  rcases h with h | h
  · refine (bldCheck_fresh b w h.cell0 h.shape h.frozen0).mono ?_
    rintro e w' ⟨rfl, rfl⟩
    obtain ⟨_, _, hbk, _⟩ := id h
    exact ⟨rfl, h.used _, (Below.refl B w).setCell (p := ⟨b, 0, none⟩) h.1 _, Others.put hbk⟩
  · refine (bldCheck_used b w h.cell0).mono ?_
    rintro e w' ⟨rfl, rfl⟩
    exact ⟨rfl, h, Below.refl B _, Others.refl _⟩

theorem infoByte : (Tryz.prog.info? 5).map (fun i => (i.zero, i.size, i.bytes)) = some (some (.int .u8 0), 1, 1) := by kernel_rfl

set_option maxHeartbeats 2000000 in
theorem bldStr_any (B b : Nat) (bs : List Value) (s : ByteArray) (w : World) (h : Lib.IsBuilder 270 5 B b bs w) (hlen : bs.length + s.size ≤ 140737488355328) (hBw : B ≤ w.heap.size) :
    Calls Tryz.prog 128 #[.pointer (some ⟨b, 0, none⟩), .string s] w fun e w' => e = .returned (.tuple #[.int .i64 s.size, .nilIface]) ∧ Lib.BuilderAt 270 5 B b (.pointer (some ⟨b, 0, none⟩)) (bs ++ Lib.strCells s) w' ∧ Below B w w' ∧ Others w w' := by
  obtain ⟨i0, hi, hz0, hz1, hz2⟩ := info_parts infoByte
  have HC := bldCheck_any B b bs w h
  go_enter Tryz.func128, Tryz.ntmps128
  go_wp2_with fail
  refine HC.mono ?_
  rintro e w1 ⟨rfl, h1, hb1, ho1⟩
  obtain ⟨hB, v, hbk, hown, hne⟩ := h1
  have c0 : w1.cell? ⟨b, 0, none⟩ = some (.pointer (some ⟨b, 0, none⟩)) := by rw [Lib.cell_of_heap hbk]; rfl
  have c1 : w1.cell? ⟨b, 1, none⟩ = some v := by rw [Lib.cell_of_heap hbk]; rfl
  go_wp2_with (at_builtin; refine Lib.wpList_append_own_string _ rfl _ _ 254 9 rfl B 5 i0 Tryz.underlying254 Tryz.underlying9 hi hz0 hz1 hz2 _ _ _ rfl hown s rfl ?c3 ?c4 ?c5 ?_)
  case c3 => unfold maxLen; omega
  case c4 => omega
  case c5 => have := hb1.size; omega
  intro v' w2 hown' hgrow _
  have hlt : b < w1.heap.size := by
    rcases Nat.lt_or_ge b w1.heap.size with h' | h'
    · exact h'
    · simp [Array.getElem?_eq_none h'] at hbk
  have hb2 : w2.heap[b]? = some (.cells #[.pointer (some ⟨b, 0, none⟩), v] 270 (0, 0)) := by
    rw [hgrow.block b hlt (fun e => hne e.symm)]
    exact hbk
  have d0 : w2.cell? ⟨b, 0, none⟩ = some (.pointer (some ⟨b, 0, none⟩)) := by rw [Lib.cell_of_heap hb2]; rfl
  have d1 : w2.cell? ⟨b, 1, none⟩ = some v := by rw [Lib.cell_of_heap hb2]; rfl
  have f1 : w2.frozen? ⟨b, 1, none⟩ = false := Lib.frozen_of_heap hb2 1
  obtain ⟨ao, n', cap, rfl⟩ : ∃ ao n' cap, v' = .slice ao n' cap := by
    rcases hown'.2 with ⟨hv, _⟩ | ⟨g, cap, cur, hv, _⟩
    · exact ⟨_, _, _, hv⟩
    · exact ⟨_, _, _, hv⟩
  go_wp2
  go_ret2
  refine ⟨rfl, ?_, ?_, ?_⟩
  · exact Lib.BuilderAt.put (T := 270) (e := 5) hB hb2 (bs' := bs ++ Lib.strCells s) (by simpa [Lib.strCells_length] using hown') (by decide)
  · exact (hb1.grown hgrow (by have := hb1.size; omega) (fun k hk => (hown.lt k hk).1)).setCell (p := ⟨b, 1, none⟩) hB _
  · exact ho1.trans ((Others.grown hown hgrow).trans (Others.put hb2))

set_option maxHeartbeats 2000000 in
theorem bldByte_any (B b : Nat) (bs : List Value) (c : Int) (w : World) (h : Lib.IsBuilder 270 5 B b bs w) (hlen : bs.length + 1 ≤ 140737488355328) (hBw : B ≤ w.heap.size) :
    Calls Tryz.prog 127 #[.pointer (some ⟨b, 0, none⟩), .int .u8 c] w fun e w' => e = .returned .nilIface ∧ Lib.BuilderAt 270 5 B b (.pointer (some ⟨b, 0, none⟩)) (bs ++ [.int .u8 c]) w' ∧ Below B w w' ∧ Others w w' := by
  obtain ⟨i0, hi, hz0, hz1, hz2⟩ := info_parts infoByte
  have HC := bldCheck_any B b bs w h
  go_enter Tryz.func127, Tryz.ntmps127
  go_wp2_with fail
  refine HC.mono ?_
  rintro e w1 ⟨rfl, h1, hb1, ho1⟩
  obtain ⟨hB, v, hbk, hown, hne⟩ := h1
  have c0 : w1.cell? ⟨b, 0, none⟩ = some (.pointer (some ⟨b, 0, none⟩)) := by rw [Lib.cell_of_heap hbk]; rfl
  have c1 : w1.cell? ⟨b, 1, none⟩ = some v := by rw [Lib.cell_of_heap hbk]; rfl
  go_wp2_with (at_builtin; refine wpList_append_own _ rfl _ _ 254 rfl B 5 i0 (.int .u8 0) 1 1 Tryz.underlying254 hi hz0 hz1 hz2 rfl (by decide) _ _ _ rfl (hown.alloc _) ⟨w1.heap.size, 0, none⟩ 1 1 [.int .u8 c] rfl rfl ?c1 ?c2 ?c3 ?c4 ?c5 ?_)
  case c1 =>
    intro j u hj
    match j, hj with
    | 0, hj => simp at hj; subst hj; simp [Addr.add]
  case c2 => intro u hu; simp at hu; subst hu; rfl
  case c3 => unfold maxLen; omega
  case c4 => omega
  case c5 => have := hb1.size; simp; omega
  intro v' w2 hown' hgrow _
  have hlt : b < w1.heap.size := by
    rcases Nat.lt_or_ge b w1.heap.size with h' | h'
    · exact h'
    · simp [Array.getElem?_eq_none h'] at hbk
  have hb2 : w2.heap[b]? = some (.cells #[.pointer (some ⟨b, 0, none⟩), v] 270 (0, 0)) := by
    rw [hgrow.block b (by simp; omega) (fun e => hne e.symm), Lib.alloc_old w1 _ b hlt]
    exact hbk
  have d0 : w2.cell? ⟨b, 0, none⟩ = some (.pointer (some ⟨b, 0, none⟩)) := by rw [Lib.cell_of_heap hb2]; rfl
  have d1 : w2.cell? ⟨b, 1, none⟩ = some v := by rw [Lib.cell_of_heap hb2]; rfl
  have f1 : w2.frozen? ⟨b, 1, none⟩ = false := Lib.frozen_of_heap hb2 1
  obtain ⟨g, cap, rfl⟩ : ∃ g cap, v' = .slice (some ⟨g, 0, none⟩) (bs.length + 1) cap := by
    rcases hown'.2 with ⟨_, h0⟩ | ⟨g, cap, cur, hv, _⟩
    · omega
    · exact ⟨g, cap, hv⟩
  go_wp2
  go_ret
  refine ⟨rfl, ?_, ?_, ?_⟩
  · exact Lib.BuilderAt.put (T := 270) (e := 5) hB hb2 (bs' := bs ++ [.int .u8 c]) (by simpa using hown') (by decide)
  · exact ((hb1.alloc (by have := hb1.size; omega) _).grown hgrow (by have := hb1.size; simp; omega) (fun k hk => (hown.lt k hk).1)).setCell (p := ⟨b, 1, none⟩) hB _
  · exact ho1.trans ((Others.alloc _ _).trans ((Others.grown (hown.alloc _) hgrow).trans (Others.put hb2)))

set_option maxHeartbeats 1000000 in
theorem bldString_any (B b : Nat) (l : List UInt8) (w : World) (h : Lib.IsBuilder 270 5 B b (Lib.byteCells l) w) (h0 : l ≠ []) :
    Calls Tryz.prog 129 #[.pointer (some ⟨b, 0, none⟩)] w fun e w' => e = .returned (.string ⟨l.toArray⟩) ∧ Below B w w' := by
  obtain ⟨p, hB, v, hbk, hown, hne⟩ : ∃ p, Lib.BuilderAt 270 5 B b p (Lib.byteCells l) w := by
    rcases h with h | h
    · exact ⟨_, h⟩
    · exact ⟨_, h⟩
  have hl0 : l.length ≠ 0 := by simpa using h0
  rw [Lib.byteCells_length] at hown
  obtain ⟨g, cap, cur, rfl, hbg, hg, hnc, hcm, hcs, htake⟩ : ∃ g cap cur, v = .slice (some ⟨g, 0, none⟩) l.length cap ∧ B ≤ g ∧ w.heap[g]? = some (.cells cur 5 (0, 0)) ∧ l.length ≤ cap ∧ cap ≤ maxLen ∧ cur.size = cap * 1 ∧ cur.toList.take (l.length * 1) = Lib.byteCells l := by
    rcases hown.2 with ⟨_, hz⟩ | ⟨g, cap, cur, hv, r⟩
    · exact absurd hz hl0
    · exact ⟨g, cap, cur, hv, r⟩
  have c1 : w.drew.cell? ⟨b, 1, none⟩ = some (.slice (some ⟨g, 0, none⟩) l.length cap) := by
    have : w.drew.heap[b]? = some (.cells #[p, .slice (some ⟨g, 0, none⟩) l.length cap] 270 (0, 0)) := hbk
    rw [Lib.cell_of_heap this]; rfl
  have hSD : (Builtin.unsafeSliceData_ #[254] 352 #[.slice (some ⟨g, 0, none⟩) l.length cap]).run Tryz.prog w.drew = .ok (.pointer (some ⟨g, 0, none⟩)) w.drew :=
    Lib.run_unsafeSliceData_row _ _ _ _ _ _ (by omega)
  have hUS : (Builtin.unsafeString_ #[352, 3] 9 #[.pointer (some ⟨g, 0, none⟩), .int .i64 l.length]).run Tryz.prog w.drew = .ok (.string ⟨l.toArray⟩) (w.drew.freeze ⟨g, 0, none⟩ l.length) := by
    refine Lib.run_unsafeString_row w.drew 352 3 9 5 Tryz.underlying352 (by kernel_rfl) g cur.size (by have hg' : w.drew.heap[g]? = some (.cells cur 5 (0, 0)) := hg; simp [World.shape?, hg']) l h0 (by omega) (by unfold maxLen at hcm; omega) ?_
    intro j x hx
    have := hown.cells (g := g) rfl j (.int .u8 x.toNat) (by simp [Lib.byteCells, hx])
    exact this
  have mixed : Tryz.prog.follows Departure.mixedOrders = true := by kernel_rfl
  go_enter Tryz.func129, Tryz.ntmps129
  go_wp2
  go_region_o
  all_goals (go_wp2; go_ret; exact ⟨rfl, Lib.below_freeze (Below.drew (Below.refl B w)) (p := ⟨g, 0, none⟩) hbg _⟩)
end Go.Proofs.YtbijjjhfekkfaaaGreat

namespace Go.Proofs.YtbijjjhfekkfaaaGreat
set_option maxRecDepth 100000
open Go.RowKit Go.Shelf

theorem or128 (k : Nat) : bits .or .u8 ((k : Int) % 256) 128 = ((k % 128 + 128 : Nat) : Int) := by
  have e : (k : Int) % 256 = ((k % 256 : Nat) : Int) := by omega
  have hb := (bits_nat .u8 8 (by decide) wraps_u8 (k % 256) 128 (by omega) (by decide)).2
  have h : ∀ b : Fin 256, b.val ||| 128 = b.val % 128 + 128 := by decide
  have := h ⟨k % 256, by omega⟩
  simp only at this
  rw [e]
  refine hb.trans ?_
  rw [this]
  omega
theorem byteCells_one {b : Nat} (h : b < 256) : Lib.byteCells [UInt8.ofNat b] = [.int .u8 (b : Int)] := by
  simp [Lib.byteCells]; omega
theorem uintL_pre {pre l m : List UInt8} (h : pre ++ l = m) (h0 : 0 < l.length) : pre.length + 1 ≤ m.length := by
  rw [← h, List.length_append]; omega
theorem bld_new (w : World) : Lib.IsBuilder 270 5 w.heap.size w.heap.size (Lib.byteCells []) (w.alloc (.cells #[.pointer none, .slice none 0 0] 270)) :=
  .inl ⟨Nat.le_refl _, .slice none 0 0, Array.getElem?_push_size, World.ownsRow_nil _ _ _ _, by simp [Value.ownBlock]⟩

theorem bld_below {B b : Nat} {bs : List Value} {w w' : World} (h : Lib.IsBuilder 270 5 B b bs w) (hb : Below w.heap.size w w') : Lib.IsBuilder 270 5 B b bs w' := by
  rcases h with h | h
  · have hl := h.lt
    obtain ⟨h1, v, h2, h3, h4⟩ := h
    exact .inl ⟨h1, v, (hb.block b hl).trans h2, own_below h3 hb (Nat.le_refl _), h4⟩
  · have hl := h.lt
    obtain ⟨h1, v, h2, h3, h4⟩ := h
    exact .inr ⟨h1, v, (hb.block b hl).trans h2, own_below h3 hb (Nat.le_refl _), h4⟩

set_option maxHeartbeats 2000000 in
theorem uint_any (v : Nat) (w : World) (hv : v < 18446744073709551616) :
    Calls Tryz.prog 164 #[.int .u64 v] w fun e w' => e = .returned (.string ⟨(uintL v).toArray⟩) ∧ Below w.heap.size w w' := by
  go_enter Tryz.func164, Tryz.ntmps164
  go_wp2_with fail
  have hI : Lib.IsBuilder 270 5 w.heap.size w.heap.size (Lib.byteCells []) (w.alloc (.cells #[.pointer none, .slice none 0 0] 270)) := bld_new w
  have hB : Below w.heap.size w (w.alloc (.cells #[.pointer none, .slice none 0 0] 270)) := (Below.refl _ _).alloc (Nat.le_refl _) _
  generalize w.alloc (.cells #[.pointer none, .slice none 0 0] 270) = w1 at hI hB ⊢
  obtain ⟨g, hg⟩ : ∃ g, w.heap.size = g := ⟨_, rfl⟩
  rw [hg] at hI hB ⊢
  go_loopw [0] (fun x wr => ∃ (k : Nat) (pre : List UInt8), x = .int .u64 k ∧ k < 18446744073709551616 ∧ Lib.IsBuilder 270 5 g g (Lib.byteCells pre) wr ∧ Hid (pre ++ uintL k = uintL v) ∧ Below g w wr) (fun x _ => (intOf x).toNat)
  case atStart => exact ⟨v, [], rfl, hv, hI, hidden rfl, hB⟩
  case round =>
    obtain ⟨k, pre, rfl, hk, hb, hp, hbl⟩ := hrel
    by_cases hs : k < 128
    · have h1 : ¬ (127 : Int) < (k : Int) := by omega
      go_wp2_with fail
      have hpl := uintL_pre hp.out (by rw [uintL_small hs]; simp)
      refine (bldByte_any g g (Lib.byteCells pre) k wr hb (by rw [Lib.byteCells_length]; have := uintL_ten hv; omega) (by have := hbl.size; omega)).mono ?_
      rintro e w2 ⟨rfl, hb2, hbl2, _⟩
      have hby : Lib.byteCells pre ++ [.int .u8 (k : Int)] = Lib.byteCells (uintL v) := by rw [← hp.out, uintL_small hs, Lib.byteCells_append, byteCells_one (by omega)]
      rw [hby] at hb2
      go_wp2_with fail
      refine (bldString_any g g (uintL v) w2 (.inr hb2) (uintL_ne v)).mono ?_
      rintro e w3 ⟨rfl, hbl3⟩
      go_wp2_with fail
      go_ret
      subst hg; exact ⟨rfl, hbl.trans (hbl2.trans hbl3)⟩
    · have h1 : (127 : Int) < (k : Int) := by omega
      go_wp2_with fail
      have hor := or128 k
      have hpl := uintL_pre hp.out (List.length_pos_iff.2 (uintL_ne k))
      refine (bldByte_any g g (Lib.byteCells pre) _ wr hb (by rw [Lib.byteCells_length]; have := uintL_ten hv; omega) (by have := hbl.size; omega)).mono ?_
      rintro e w2 ⟨rfl, hb2, hbl2, _⟩
      rw [hor] at hb2
      have hby : Lib.byteCells pre ++ [.int .u8 ((k % 128 + 128 : Nat) : Int)] = Lib.byteCells (pre ++ [UInt8.ofNat (k % 128 + 128)]) := by rw [Lib.byteCells_append, byteCells_one (by omega)]
      rw [hby] at hb2
      have hp2 : Hid ((pre ++ [UInt8.ofNat (k % 128 + 128)]) ++ uintL (k / 128) = uintL v) := hidden (by rw [← hp.out, uintL_big hs, List.append_assoc]; rfl)
      have hbl4 := hbl.trans hbl2
      clear hb hbl hbl2 hor hpl hby hp
      go_wp2_with fail
      go_roundw
      case rel => exact ⟨k / 128, _, by go_num, by omega, .inr hb2, hp2, hbl4⟩
      case measure => simp [intOf]; omega

theorem u64_wrap64 (n : Int) : IntKind.u64.wrap (wrap64 n) = n % 18446744073709551616 := by
  rw [IntKind.wrap_u64]
  unfold wrap64
  omega
theorem zz_bits {v : Int} (h0 : -9223372036854775808 ≤ v) (h1 : v < 9223372036854775808) : bits .xor .u64 (IntKind.u64.wrap (wrap64 (v * 2))) (IntKind.u64.wrap (v / 9223372036854775808)) = (zz v : Nat) := by
  rw [u64_wrap64, IntKind.wrap_u64]
  by_cases hv : 0 ≤ v
  · have e1 : v * 2 % 18446744073709551616 = ((2 * v).toNat : Nat) := by omega
    have e2 : v / 9223372036854775808 % 18446744073709551616 = ((0 : Nat) : Int) := by omega
    rw [e1, e2, bits_xor_u64_nat _ _ (by omega) (by decide), Nat.xor_zero]
    simp [zz, hv]
  · have e1 : v * 2 % 18446744073709551616 = ((2 * v + 18446744073709551616).toNat : Nat) := by omega
    have e2 : v / 9223372036854775808 % 18446744073709551616 = ((2 ^ 64 - 1 : Nat) : Int) := by omega
    rw [e1, e2, bits_xor_u64_nat _ _ (by omega) (by decide), Nat.xor_comm, Lib.xor_ones64 _ (by omega)]
    unfold zz
    rw [if_neg hv]
    omega

set_option maxHeartbeats 1000000 in
theorem int_any (v : Int) (w : World) (h0 : -9223372036854775808 ≤ v) (h1 : v < 9223372036854775808) :
    Calls Tryz.prog 225 #[.int .i64 v] w fun e w' => e = .returned (.string ⟨(intL v).toArray⟩) ∧ Below w.heap.size w w' := by
  have HU := fun w => uint_any (zz v) w (zz_lt h0 h1)
  go_enter Tryz.func225, Tryz.ntmps225
  go_wp2_with fail
  rw [zz_bits h0 h1]
  refine (HU _).mono ?_
  rintro e w1 ⟨rfl, hb⟩
  go_wp2_with fail
  go_ret
  exact ⟨rfl, hb⟩
end Go.Proofs.YtbijjjhfekkfaaaGreat
